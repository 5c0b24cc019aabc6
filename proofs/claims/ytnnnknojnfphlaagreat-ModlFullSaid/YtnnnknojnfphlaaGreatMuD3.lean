/-
  What modl.Do answers, each by a run of the machine.
-/
import Derived.Test.YtnnnknojnfphlaaGreatMuM
namespace Go.Proofs.YtnnnknojnfphlaaGreat.Cl
open Go Go.Cm
theorem d3 : deepRunC env0 1000 100 1 [] 19 [q25, q27] = some (.tuple ⟨[q33, q34]⟩, []) := by kernel_rfl
theorem d9 : deepRunC env0 1000 100 1 [] 19 [q63, q10] = some (.tuple ⟨[q68, q69]⟩, []) := by kernel_rfl
theorem d15 : deepRunC env0 1000 100 1 [] 19 [q79, q43] = some (.tuple ⟨[q84, q85]⟩, []) := by kernel_rfl
theorem d21 : deepRunC env0 1000 100 1 [] 19 [q109, q37] = some (.tuple ⟨[q109, q36]⟩, []) := by kernel_rfl
theorem d27 : deepRunC env0 1000 100 1 [] 19 [q138, q27] = some (.tuple ⟨[q142, q143]⟩, []) := by kernel_rfl
theorem d33 : deepRunC env0 1000 100 1 [] 19 [q163, q10] = some (.tuple ⟨[q168, q169]⟩, []) := by kernel_rfl
theorem d39 : deepRunC env0 1000 100 1 [] 19 [q179, q43] = some (.tuple ⟨[q184, q185]⟩, []) := by kernel_rfl
theorem d45 : deepRunC env0 1000 100 1 [] 19 [q213, q37] = some (.tuple ⟨[q213, q36]⟩, []) := by kernel_rfl
theorem d51 : deepRunC env0 1000 100 1 [] 19 [q224, q10] = some (.tuple ⟨[q226, q26]⟩, []) := by kernel_rfl
theorem d57 : deepRunC env0 1000 100 1 [] 19 [q234, q43] = some (.tuple ⟨[q238, q239]⟩, []) := by kernel_rfl
theorem d63 : deepRunC env0 1000 100 1 [] 19 [q251, q37] = some (.tuple ⟨[q251, q36]⟩, []) := by kernel_rfl
theorem d69 : deepRunC env0 1000 100 1 [] 19 [q267, q27] = some (.tuple ⟨[q269, q118]⟩, []) := by kernel_rfl
theorem d75 : deepRunC env0 1000 100 1 [] 19 [q281, q10] = some (.tuple ⟨[q283, q139]⟩, []) := by kernel_rfl
theorem d81 : deepRunC env0 1000 100 1 [] 19 [q289, q43] = some (.tuple ⟨[q292, q293]⟩, []) := by kernel_rfl
theorem d87 : deepRunC env0 1000 100 1 [] 19 [q305, q37] = some (.tuple ⟨[q305, q36]⟩, []) := by kernel_rfl
theorem d93 : deepRunC env0 1000 100 1 [] 19 [q323, q27] = some (.tuple ⟨[q325, q222]⟩, []) := by kernel_rfl
theorem d99 : deepRunC env0 1000 100 1 [] 19 [q318, q86] = some (.tuple ⟨[q318, q36]⟩, []) := by kernel_rfl
theorem d105 : deepRunC env0 1000 100 1 [] 19 [q341, q37] = some (.tuple ⟨[q341, q36]⟩, []) := by kernel_rfl
theorem d111 : deepRunC env0 1000 100 1 [] 19 [q359, q27] = some (.tuple ⟨[q361, q257]⟩, []) := by kernel_rfl
theorem d117 : deepRunC env0 1000 100 1 [] 19 [q373, q10] = some (.tuple ⟨[q375, q110]⟩, []) := by kernel_rfl
theorem d123 : deepRunC env0 1000 100 1 [] 19 [q381, q43] = some (.tuple ⟨[q384, q385]⟩, []) := by kernel_rfl
theorem d129 : deepRunC env0 1000 100 1 [] 19 [q397, q37] = some (.tuple ⟨[q397, q36]⟩, []) := by kernel_rfl
theorem d135 : deepRunC env0 1000 100 1 [] 19 [q413, q27] = some (.tuple ⟨[q415, q311]⟩, []) := by kernel_rfl
theorem d141 : deepRunC env0 1000 100 1 [] 19 [q428, q10] = some (.tuple ⟨[q431, q214]⟩, []) := by kernel_rfl
theorem d147 : deepRunC env0 1000 100 1 [] 19 [q437, q43] = some (.tuple ⟨[q442, q443]⟩, []) := by kernel_rfl
theorem d153 : deepRunC env0 1000 100 1 [] 19 [q449, q27] = some (.tuple ⟨[q452, q349]⟩, []) := by kernel_rfl
theorem d159 : deepRunC env0 1000 100 1 [] 19 [q466, q10] = some (.tuple ⟨[q468, q85]⟩, []) := by kernel_rfl
theorem d165 : deepRunC env0 1000 100 1 [] 19 [q474, q43] = some (.tuple ⟨[q477, q478]⟩, []) := by kernel_rfl
theorem d171 : deepRunC env0 1000 100 1 [] 19 [q490, q37] = some (.tuple ⟨[q490, q36]⟩, []) := by kernel_rfl
theorem d177 : deepRunC env0 1000 100 1 [] 19 [q506, q27] = some (.tuple ⟨[q508, q403]⟩, []) := by kernel_rfl
theorem d183 : deepRunC env0 1000 100 1 [] 19 [q520, q10] = some (.tuple ⟨[q522, q185]⟩, []) := by kernel_rfl
theorem d189 : deepRunC env0 1000 100 1 [] 19 [q528, q43] = some (.tuple ⟨[q531, q532]⟩, []) := by kernel_rfl
theorem d195 : deepRunC env0 1000 100 1 [] 19 [q546, q37] = some (.tuple ⟨[q546, q36]⟩, []) := by kernel_rfl
theorem d201 : deepRunC env0 1000 100 1 [] 19 [q556, q10] = some (.tuple ⟨[q558, q239]⟩, []) := by kernel_rfl
theorem d207 : deepRunC env0 1000 100 1 [] 19 [q566, q43] = some (.tuple ⟨[q570, q571]⟩, []) := by kernel_rfl
theorem d213 : deepRunC env0 1000 100 1 [] 19 [q583, q37] = some (.tuple ⟨[q583, q36]⟩, []) := by kernel_rfl
theorem d219 : deepRunC env0 1000 100 1 [] 19 [q599, q27] = some (.tuple ⟨[q601, q496]⟩, []) := by kernel_rfl
theorem d225 : deepRunC env0 1000 100 1 [] 19 [q613, q10] = some (.tuple ⟨[q615, q293]⟩, []) := by kernel_rfl
theorem d231 : deepRunC env0 1000 100 1 [] 19 [q621, q43] = some (.tuple ⟨[q624, q625]⟩, []) := by kernel_rfl
theorem d237 : deepRunC env0 1000 100 1 [] 19 [q637, q37] = some (.tuple ⟨[q637, q36]⟩, []) := by kernel_rfl
theorem d243 : deepRunC env0 1000 100 1 [] 19 [q655, q27] = some (.tuple ⟨[q657, q554]⟩, []) := by kernel_rfl
theorem d249 : deepRunC env0 1000 100 1 [] 19 [q650, q86] = some (.tuple ⟨[q650, q36]⟩, []) := by kernel_rfl
theorem d255 : deepRunC env0 1000 100 1 [] 19 [q671, q37] = some (.tuple ⟨[q671, q36]⟩, []) := by kernel_rfl
theorem d261 : deepRunC env0 1000 100 1 [] 19 [q687, q27] = some (.tuple ⟨[q687, q36]⟩, []) := by kernel_rfl
theorem d267 : deepRunC env0 1000 100 1 [] 19 [q697, q10] = some (.tuple ⟨[q699, q385]⟩, []) := by kernel_rfl
theorem d273 : deepRunC env0 1000 100 1 [] 19 [q703, q43] = some (.tuple ⟨[q705, q607]⟩, []) := by kernel_rfl
theorem d279 : deepRunC env0 1000 100 1 [] 19 [q715, q37] = some (.tuple ⟨[q715, q36]⟩, []) := by kernel_rfl
theorem d285 : deepRunC env0 1000 100 1 [] 19 [q729, q27] = some (.tuple ⟨[q729, q36]⟩, []) := by kernel_rfl
theorem d291 : deepRunC env0 1000 100 1 [] 19 [q740, q10] = some (.tuple ⟨[q743, q443]⟩, []) := by kernel_rfl
theorem d297 : deepRunC env0 1000 100 1 [] 19 [q747, q43] = some (.tuple ⟨[q749, q665]⟩, []) := by kernel_rfl
theorem d303 : deepRunC env0 1000 100 1 [] 19 [q753, q27] = some (.tuple ⟨[q753, q36]⟩, []) := by kernel_rfl
theorem d309 : deepRunC env0 1000 100 1 [] 19 [q764, q10] = some (.tuple ⟨[q766, q478]⟩, []) := by kernel_rfl
theorem d315 : deepRunC env0 1000 100 1 [] 19 [q768, q43] = some (.tuple ⟨[q770, q589]⟩, []) := by kernel_rfl
theorem d321 : deepRunC env0 1000 100 1 [] 19 [q778, q37] = some (.tuple ⟨[q778, q36]⟩, []) := by kernel_rfl
theorem d327 : deepRunC env0 1000 100 1 [] 19 [q790, q27] = some (.tuple ⟨[q790, q36]⟩, []) := by kernel_rfl
theorem d333 : deepRunC env0 1000 100 1 [] 19 [q800, q10] = some (.tuple ⟨[q802, q532]⟩, []) := by kernel_rfl
theorem d339 : deepRunC env0 1000 100 1 [] 19 [q804, q43] = some (.tuple ⟨[q806, q643]⟩, []) := by kernel_rfl
theorem d345 : deepRunC env0 1000 100 1 [] 19 [q816, q37] = some (.tuple ⟨[q816, q36]⟩, []) := by kernel_rfl
theorem d351 : deepRunC env0 1000 100 1 [] 19 [q822, q10] = some (.tuple ⟨[q822, q36]⟩, []) := by kernel_rfl
theorem d357 : deepRunC env0 1000 100 1 [] 19 [q823, q43] = some (.tuple ⟨[q825, q571]⟩, []) := by kernel_rfl
theorem d363 : deepRunC env0 1000 100 1 [] 19 [q831, q37] = some (.tuple ⟨[q831, q36]⟩, []) := by kernel_rfl
theorem d369 : deepRunC env0 1000 100 1 [] 19 [q840, q27] = some (.tuple ⟨[q840, q36]⟩, []) := by kernel_rfl
theorem d375 : deepRunC env0 1000 100 1 [] 19 [q849, q10] = some (.tuple ⟨[q849, q36]⟩, []) := by kernel_rfl
theorem d381 : deepRunC env0 1000 100 1 [] 19 [q850, q43] = some (.tuple ⟨[q852, q625]⟩, []) := by kernel_rfl
theorem d387 : deepRunC env0 1000 100 1 [] 19 [q858, q37] = some (.tuple ⟨[q858, q36]⟩, []) := by kernel_rfl
theorem d393 : deepRunC env0 1000 100 1 [] 19 [q868, q27] = some (.tuple ⟨[q868, q36]⟩, []) := by kernel_rfl
theorem d399 : deepRunC env0 1000 100 1 [] 19 [q868, q86] = some (.tuple ⟨[q868, q36]⟩, []) := by kernel_rfl
end Go.Proofs.YtnnnknojnfphlaaGreat.Cl
