/-
  What modl.Do answers, each by a run of the machine.
-/
import Derived.Test.YtnnnknojnfphlaaGreatMuM
namespace Go.Proofs.YtnnnknojnfphlaaGreat.Cl
open Go Go.Cm
theorem d5 : deepRunC env0 1000 100 1 [] 19 [q33, q37] = some (.tuple ⟨[q33, q36]⟩, []) := by kernel_rfl
theorem d11 : deepRunC env0 1000 100 1 [] 19 [q72, q27] = some (.tuple ⟨[q76, q77]⟩, []) := by kernel_rfl
theorem d17 : deepRunC env0 1000 100 1 [] 19 [q96, q10] = some (.tuple ⟨[q101, q102]⟩, []) := by kernel_rfl
theorem d23 : deepRunC env0 1000 100 1 [] 19 [q112, q43] = some (.tuple ⟨[q117, q118]⟩, []) := by kernel_rfl
theorem d29 : deepRunC env0 1000 100 1 [] 19 [q142, q37] = some (.tuple ⟨[q142, q36]⟩, []) := by kernel_rfl
theorem d35 : deepRunC env0 1000 100 1 [] 19 [q172, q27] = some (.tuple ⟨[q176, q177]⟩, []) := by kernel_rfl
theorem d41 : deepRunC env0 1000 100 1 [] 19 [q200, q10] = some (.tuple ⟨[q205, q206]⟩, []) := by kernel_rfl
theorem d47 : deepRunC env0 1000 100 1 [] 19 [q216, q43] = some (.tuple ⟨[q221, q222]⟩, []) := by kernel_rfl
theorem d53 : deepRunC env0 1000 100 1 [] 19 [q228, q27] = some (.tuple ⟨[q231, q50]⟩, []) := by kernel_rfl
theorem d59 : deepRunC env0 1000 100 1 [] 19 [q245, q10] = some (.tuple ⟨[q247, q73]⟩, []) := by kernel_rfl
theorem d65 : deepRunC env0 1000 100 1 [] 19 [q253, q43] = some (.tuple ⟨[q256, q257]⟩, []) := by kernel_rfl
theorem d71 : deepRunC env0 1000 100 1 [] 19 [q269, q37] = some (.tuple ⟨[q269, q36]⟩, []) := by kernel_rfl
theorem d77 : deepRunC env0 1000 100 1 [] 19 [q285, q27] = some (.tuple ⟨[q287, q151]⟩, []) := by kernel_rfl
theorem d83 : deepRunC env0 1000 100 1 [] 19 [q299, q10] = some (.tuple ⟨[q301, q173]⟩, []) := by kernel_rfl
theorem d89 : deepRunC env0 1000 100 1 [] 19 [q307, q43] = some (.tuple ⟨[q310, q311]⟩, []) := by kernel_rfl
theorem d95 : deepRunC env0 1000 100 1 [] 19 [q325, q37] = some (.tuple ⟨[q325, q36]⟩, []) := by kernel_rfl
theorem d101 : deepRunC env0 1000 100 1 [] 19 [q334, q10] = some (.tuple ⟨[q336, q34]⟩, []) := by kernel_rfl
theorem d107 : deepRunC env0 1000 100 1 [] 19 [q344, q43] = some (.tuple ⟨[q348, q349]⟩, []) := by kernel_rfl
theorem d113 : deepRunC env0 1000 100 1 [] 19 [q361, q37] = some (.tuple ⟨[q361, q36]⟩, []) := by kernel_rfl
theorem d119 : deepRunC env0 1000 100 1 [] 19 [q377, q27] = some (.tuple ⟨[q379, q275]⟩, []) := by kernel_rfl
theorem d125 : deepRunC env0 1000 100 1 [] 19 [q391, q10] = some (.tuple ⟨[q393, q143]⟩, []) := by kernel_rfl
theorem d131 : deepRunC env0 1000 100 1 [] 19 [q399, q43] = some (.tuple ⟨[q402, q403]⟩, []) := by kernel_rfl
theorem d137 : deepRunC env0 1000 100 1 [] 19 [q415, q37] = some (.tuple ⟨[q415, q36]⟩, []) := by kernel_rfl
theorem d143 : deepRunC env0 1000 100 1 [] 19 [q433, q27] = some (.tuple ⟨[q435, q333]⟩, []) := by kernel_rfl
theorem d149 : deepRunC env0 1000 100 1 [] 19 [q428, q86] = some (.tuple ⟨[q428, q36]⟩, []) := by kernel_rfl
theorem d155 : deepRunC env0 1000 100 1 [] 19 [q452, q37] = some (.tuple ⟨[q452, q36]⟩, []) := by kernel_rfl
theorem d161 : deepRunC env0 1000 100 1 [] 19 [q470, q27] = some (.tuple ⟨[q472, q367]⟩, []) := by kernel_rfl
theorem d167 : deepRunC env0 1000 100 1 [] 19 [q484, q10] = some (.tuple ⟨[q486, q118]⟩, []) := by kernel_rfl
theorem d173 : deepRunC env0 1000 100 1 [] 19 [q492, q43] = some (.tuple ⟨[q495, q496]⟩, []) := by kernel_rfl
theorem d179 : deepRunC env0 1000 100 1 [] 19 [q508, q37] = some (.tuple ⟨[q508, q36]⟩, []) := by kernel_rfl
theorem d185 : deepRunC env0 1000 100 1 [] 19 [q524, q27] = some (.tuple ⟨[q526, q421]⟩, []) := by kernel_rfl
theorem d191 : deepRunC env0 1000 100 1 [] 19 [q539, q10] = some (.tuple ⟨[q542, q222]⟩, []) := by kernel_rfl
theorem d197 : deepRunC env0 1000 100 1 [] 19 [q548, q43] = some (.tuple ⟨[q553, q554]⟩, []) := by kernel_rfl
theorem d203 : deepRunC env0 1000 100 1 [] 19 [q560, q27] = some (.tuple ⟨[q563, q460]⟩, []) := by kernel_rfl
theorem d209 : deepRunC env0 1000 100 1 [] 19 [q577, q10] = some (.tuple ⟨[q579, q257]⟩, []) := by kernel_rfl
theorem d215 : deepRunC env0 1000 100 1 [] 19 [q585, q43] = some (.tuple ⟨[q588, q589]⟩, []) := by kernel_rfl
theorem d221 : deepRunC env0 1000 100 1 [] 19 [q601, q37] = some (.tuple ⟨[q601, q36]⟩, []) := by kernel_rfl
theorem d227 : deepRunC env0 1000 100 1 [] 19 [q617, q27] = some (.tuple ⟨[q619, q514]⟩, []) := by kernel_rfl
theorem d233 : deepRunC env0 1000 100 1 [] 19 [q631, q10] = some (.tuple ⟨[q633, q311]⟩, []) := by kernel_rfl
theorem d239 : deepRunC env0 1000 100 1 [] 19 [q639, q43] = some (.tuple ⟨[q642, q643]⟩, []) := by kernel_rfl
theorem d245 : deepRunC env0 1000 100 1 [] 19 [q657, q37] = some (.tuple ⟨[q657, q36]⟩, []) := by kernel_rfl
theorem d251 : deepRunC env0 1000 100 1 [] 19 [q667, q10] = some (.tuple ⟨[q669, q349]⟩, []) := by kernel_rfl
theorem d257 : deepRunC env0 1000 100 1 [] 19 [q674, q43] = some (.tuple ⟨[q677, q571]⟩, []) := by kernel_rfl
theorem d263 : deepRunC env0 1000 100 1 [] 19 [q687, q37] = some (.tuple ⟨[q687, q36]⟩, []) := by kernel_rfl
theorem d269 : deepRunC env0 1000 100 1 [] 19 [q701, q27] = some (.tuple ⟨[q701, q36]⟩, []) := by kernel_rfl
theorem d275 : deepRunC env0 1000 100 1 [] 19 [q711, q10] = some (.tuple ⟨[q713, q403]⟩, []) := by kernel_rfl
theorem d281 : deepRunC env0 1000 100 1 [] 19 [q717, q43] = some (.tuple ⟨[q719, q625]⟩, []) := by kernel_rfl
theorem d287 : deepRunC env0 1000 100 1 [] 19 [q729, q37] = some (.tuple ⟨[q729, q36]⟩, []) := by kernel_rfl
theorem d293 : deepRunC env0 1000 100 1 [] 19 [q745, q27] = some (.tuple ⟨[q745, q36]⟩, []) := by kernel_rfl
theorem d299 : deepRunC env0 1000 100 1 [] 19 [q740, q86] = some (.tuple ⟨[q740, q36]⟩, []) := by kernel_rfl
theorem d305 : deepRunC env0 1000 100 1 [] 19 [q753, q37] = some (.tuple ⟨[q753, q36]⟩, []) := by kernel_rfl
theorem d311 : deepRunC env0 1000 100 1 [] 19 [q766, q27] = some (.tuple ⟨[q766, q36]⟩, []) := by kernel_rfl
theorem d317 : deepRunC env0 1000 100 1 [] 19 [q776, q10] = some (.tuple ⟨[q778, q496]⟩, []) := by kernel_rfl
theorem d323 : deepRunC env0 1000 100 1 [] 19 [q780, q43] = some (.tuple ⟨[q782, q607]⟩, []) := by kernel_rfl
theorem d329 : deepRunC env0 1000 100 1 [] 19 [q790, q37] = some (.tuple ⟨[q790, q36]⟩, []) := by kernel_rfl
theorem d335 : deepRunC env0 1000 100 1 [] 19 [q802, q27] = some (.tuple ⟨[q802, q36]⟩, []) := by kernel_rfl
theorem d341 : deepRunC env0 1000 100 1 [] 19 [q813, q10] = some (.tuple ⟨[q816, q554]⟩, []) := by kernel_rfl
theorem d347 : deepRunC env0 1000 100 1 [] 19 [q818, q43] = some (.tuple ⟨[q820, q665]⟩, []) := by kernel_rfl
theorem d353 : deepRunC env0 1000 100 1 [] 19 [q822, q27] = some (.tuple ⟨[q822, q36]⟩, []) := by kernel_rfl
theorem d359 : deepRunC env0 1000 100 1 [] 19 [q831, q10] = some (.tuple ⟨[q831, q36]⟩, []) := by kernel_rfl
theorem d365 : deepRunC env0 1000 100 1 [] 19 [q832, q43] = some (.tuple ⟨[q834, q589]⟩, []) := by kernel_rfl
theorem d371 : deepRunC env0 1000 100 1 [] 19 [q840, q37] = some (.tuple ⟨[q840, q36]⟩, []) := by kernel_rfl
theorem d377 : deepRunC env0 1000 100 1 [] 19 [q849, q27] = some (.tuple ⟨[q849, q36]⟩, []) := by kernel_rfl
theorem d383 : deepRunC env0 1000 100 1 [] 19 [q858, q10] = some (.tuple ⟨[q858, q36]⟩, []) := by kernel_rfl
theorem d389 : deepRunC env0 1000 100 1 [] 19 [q859, q43] = some (.tuple ⟨[q861, q643]⟩, []) := by kernel_rfl
theorem d395 : deepRunC env0 1000 100 1 [] 19 [q868, q37] = some (.tuple ⟨[q868, q36]⟩, []) := by kernel_rfl
end Go.Proofs.YtnnnknojnfphlaaGreat.Cl
