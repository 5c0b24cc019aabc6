/-
  What modl.Do answers, each by a run of the machine.
-/
import Derived.Test.YtnnnknojnfphlaaGreatMuM
namespace Go.Proofs.YtnnnknojnfphlaaGreat.Cl
open Go Go.Cm
theorem d2 : deepRunC env0 1000 100 1 [] 19 [q17, q19] = some (.tuple ⟨[q25, q26]⟩, []) := by kernel_rfl
theorem d8 : deepRunC env0 1000 100 1 [] 19 [q8, q51] = some (.tuple ⟨[q63, q64]⟩, []) := by kernel_rfl
theorem d14 : deepRunC env0 1000 100 1 [] 19 [q76, q38] = some (.tuple ⟨[q79, q42]⟩, []) := by kernel_rfl
theorem d20 : deepRunC env0 1000 100 1 [] 19 [q109, q35] = some (.tuple ⟨[q109, q36]⟩, []) := by kernel_rfl
theorem d26 : deepRunC env0 1000 100 1 [] 19 [q134, q19] = some (.tuple ⟨[q138, q139]⟩, []) := by kernel_rfl
theorem d32 : deepRunC env0 1000 100 1 [] 19 [q129, q86] = some (.tuple ⟨[q163, q164]⟩, []) := by kernel_rfl
theorem d38 : deepRunC env0 1000 100 1 [] 19 [q176, q38] = some (.tuple ⟨[q179, q42]⟩, []) := by kernel_rfl
theorem d44 : deepRunC env0 1000 100 1 [] 19 [q213, q35] = some (.tuple ⟨[q213, q36]⟩, []) := by kernel_rfl
theorem d50 : deepRunC env0 1000 100 1 [] 19 [q8, q223] = some (.tuple ⟨[q224, q18]⟩, []) := by kernel_rfl
theorem d56 : deepRunC env0 1000 100 1 [] 19 [q231, q38] = some (.tuple ⟨[q234, q42]⟩, []) := by kernel_rfl
theorem d62 : deepRunC env0 1000 100 1 [] 19 [q251, q35] = some (.tuple ⟨[q251, q36]⟩, []) := by kernel_rfl
theorem d68 : deepRunC env0 1000 100 1 [] 19 [q265, q19] = some (.tuple ⟨[q267, q110]⟩, []) := by kernel_rfl
theorem d74 : deepRunC env0 1000 100 1 [] 19 [q263, q51] = some (.tuple ⟨[q281, q164]⟩, []) := by kernel_rfl
theorem d80 : deepRunC env0 1000 100 1 [] 19 [q287, q38] = some (.tuple ⟨[q289, q42]⟩, []) := by kernel_rfl
theorem d86 : deepRunC env0 1000 100 1 [] 19 [q305, q35] = some (.tuple ⟨[q305, q36]⟩, []) := by kernel_rfl
theorem d92 : deepRunC env0 1000 100 1 [] 19 [q321, q19] = some (.tuple ⟨[q323, q214]⟩, []) := by kernel_rfl
theorem d98 : deepRunC env0 1000 100 1 [] 19 [q318, q51] = some (.tuple ⟨[q318, q36]⟩, []) := by kernel_rfl
theorem d104 : deepRunC env0 1000 100 1 [] 19 [q341, q35] = some (.tuple ⟨[q341, q36]⟩, []) := by kernel_rfl
theorem d110 : deepRunC env0 1000 100 1 [] 19 [q357, q19] = some (.tuple ⟨[q359, q85]⟩, []) := by kernel_rfl
theorem d116 : deepRunC env0 1000 100 1 [] 19 [q355, q86] = some (.tuple ⟨[q373, q164]⟩, []) := by kernel_rfl
theorem d122 : deepRunC env0 1000 100 1 [] 19 [q379, q38] = some (.tuple ⟨[q381, q42]⟩, []) := by kernel_rfl
theorem d128 : deepRunC env0 1000 100 1 [] 19 [q397, q35] = some (.tuple ⟨[q397, q36]⟩, []) := by kernel_rfl
theorem d134 : deepRunC env0 1000 100 1 [] 19 [q411, q19] = some (.tuple ⟨[q413, q185]⟩, []) := by kernel_rfl
theorem d140 : deepRunC env0 1000 100 1 [] 19 [q409, q51] = some (.tuple ⟨[q428, q429]⟩, []) := by kernel_rfl
theorem d146 : deepRunC env0 1000 100 1 [] 19 [q435, q38] = some (.tuple ⟨[q437, q42]⟩, []) := by kernel_rfl
theorem d152 : deepRunC env0 1000 100 1 [] 19 [q447, q19] = some (.tuple ⟨[q449, q239]⟩, []) := by kernel_rfl
theorem d158 : deepRunC env0 1000 100 1 [] 19 [q445, q51] = some (.tuple ⟨[q466, q164]⟩, []) := by kernel_rfl
theorem d164 : deepRunC env0 1000 100 1 [] 19 [q472, q38] = some (.tuple ⟨[q474, q42]⟩, []) := by kernel_rfl
theorem d170 : deepRunC env0 1000 100 1 [] 19 [q490, q35] = some (.tuple ⟨[q490, q36]⟩, []) := by kernel_rfl
theorem d176 : deepRunC env0 1000 100 1 [] 19 [q504, q19] = some (.tuple ⟨[q506, q293]⟩, []) := by kernel_rfl
theorem d182 : deepRunC env0 1000 100 1 [] 19 [q502, q86] = some (.tuple ⟨[q520, q429]⟩, []) := by kernel_rfl
theorem d188 : deepRunC env0 1000 100 1 [] 19 [q526, q38] = some (.tuple ⟨[q528, q42]⟩, []) := by kernel_rfl
theorem d194 : deepRunC env0 1000 100 1 [] 19 [q546, q35] = some (.tuple ⟨[q546, q36]⟩, []) := by kernel_rfl
theorem d200 : deepRunC env0 1000 100 1 [] 19 [q445, q223] = some (.tuple ⟨[q556, q50]⟩, []) := by kernel_rfl
theorem d206 : deepRunC env0 1000 100 1 [] 19 [q563, q38] = some (.tuple ⟨[q566, q42]⟩, []) := by kernel_rfl
theorem d212 : deepRunC env0 1000 100 1 [] 19 [q583, q35] = some (.tuple ⟨[q583, q36]⟩, []) := by kernel_rfl
theorem d218 : deepRunC env0 1000 100 1 [] 19 [q597, q19] = some (.tuple ⟨[q599, q385]⟩, []) := by kernel_rfl
theorem d224 : deepRunC env0 1000 100 1 [] 19 [q595, q51] = some (.tuple ⟨[q613, q429]⟩, []) := by kernel_rfl
theorem d230 : deepRunC env0 1000 100 1 [] 19 [q619, q38] = some (.tuple ⟨[q621, q42]⟩, []) := by kernel_rfl
theorem d236 : deepRunC env0 1000 100 1 [] 19 [q637, q35] = some (.tuple ⟨[q637, q36]⟩, []) := by kernel_rfl
theorem d242 : deepRunC env0 1000 100 1 [] 19 [q653, q19] = some (.tuple ⟨[q655, q443]⟩, []) := by kernel_rfl
theorem d248 : deepRunC env0 1000 100 1 [] 19 [q650, q51] = some (.tuple ⟨[q650, q36]⟩, []) := by kernel_rfl
theorem d254 : deepRunC env0 1000 100 1 [] 19 [q671, q35] = some (.tuple ⟨[q671, q36]⟩, []) := by kernel_rfl
theorem d260 : deepRunC env0 1000 100 1 [] 19 [q685, q19] = some (.tuple ⟨[q687, q478]⟩, []) := by kernel_rfl
theorem d266 : deepRunC env0 1000 100 1 [] 19 [q683, q86] = some (.tuple ⟨[q697, q429]⟩, []) := by kernel_rfl
theorem d272 : deepRunC env0 1000 100 1 [] 19 [q701, q38] = some (.tuple ⟨[q703, q42]⟩, []) := by kernel_rfl
theorem d278 : deepRunC env0 1000 100 1 [] 19 [q715, q35] = some (.tuple ⟨[q715, q36]⟩, []) := by kernel_rfl
theorem d284 : deepRunC env0 1000 100 1 [] 19 [q727, q19] = some (.tuple ⟨[q729, q532]⟩, []) := by kernel_rfl
theorem d290 : deepRunC env0 1000 100 1 [] 19 [q725, q51] = some (.tuple ⟨[q740, q741]⟩, []) := by kernel_rfl
theorem d296 : deepRunC env0 1000 100 1 [] 19 [q745, q38] = some (.tuple ⟨[q747, q42]⟩, []) := by kernel_rfl
theorem d302 : deepRunC env0 1000 100 1 [] 19 [q753, q19] = some (.tuple ⟨[q753, q36]⟩, []) := by kernel_rfl
theorem d308 : deepRunC env0 1000 100 1 [] 19 [q751, q51] = some (.tuple ⟨[q764, q429]⟩, []) := by kernel_rfl
theorem d314 : deepRunC env0 1000 100 1 [] 19 [q766, q38] = some (.tuple ⟨[q768, q42]⟩, []) := by kernel_rfl
theorem d320 : deepRunC env0 1000 100 1 [] 19 [q778, q35] = some (.tuple ⟨[q778, q36]⟩, []) := by kernel_rfl
theorem d326 : deepRunC env0 1000 100 1 [] 19 [q790, q19] = some (.tuple ⟨[q790, q36]⟩, []) := by kernel_rfl
theorem d332 : deepRunC env0 1000 100 1 [] 19 [q788, q86] = some (.tuple ⟨[q800, q741]⟩, []) := by kernel_rfl
theorem d338 : deepRunC env0 1000 100 1 [] 19 [q802, q38] = some (.tuple ⟨[q804, q42]⟩, []) := by kernel_rfl
theorem d344 : deepRunC env0 1000 100 1 [] 19 [q816, q35] = some (.tuple ⟨[q816, q36]⟩, []) := by kernel_rfl
theorem d350 : deepRunC env0 1000 100 1 [] 19 [q751, q223] = some (.tuple ⟨[q822, q460]⟩, []) := by kernel_rfl
theorem d356 : deepRunC env0 1000 100 1 [] 19 [q822, q38] = some (.tuple ⟨[q823, q42]⟩, []) := by kernel_rfl
theorem d362 : deepRunC env0 1000 100 1 [] 19 [q831, q35] = some (.tuple ⟨[q831, q36]⟩, []) := by kernel_rfl
theorem d368 : deepRunC env0 1000 100 1 [] 19 [q840, q19] = some (.tuple ⟨[q840, q36]⟩, []) := by kernel_rfl
theorem d374 : deepRunC env0 1000 100 1 [] 19 [q840, q51] = some (.tuple ⟨[q849, q741]⟩, []) := by kernel_rfl
theorem d380 : deepRunC env0 1000 100 1 [] 19 [q849, q38] = some (.tuple ⟨[q850, q42]⟩, []) := by kernel_rfl
theorem d386 : deepRunC env0 1000 100 1 [] 19 [q858, q35] = some (.tuple ⟨[q858, q36]⟩, []) := by kernel_rfl
theorem d392 : deepRunC env0 1000 100 1 [] 19 [q868, q19] = some (.tuple ⟨[q868, q36]⟩, []) := by kernel_rfl
theorem d398 : deepRunC env0 1000 100 1 [] 19 [q868, q51] = some (.tuple ⟨[q868, q36]⟩, []) := by kernel_rfl
end Go.Proofs.YtnnnknojnfphlaaGreat.Cl
