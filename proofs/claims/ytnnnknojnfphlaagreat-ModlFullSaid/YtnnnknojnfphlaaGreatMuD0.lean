/-
  What modl.Do answers, each by a run of the machine.
-/
import Derived.Test.YtnnnknojnfphlaaGreatMuM
namespace Go.Proofs.YtnnnknojnfphlaaGreat.Cl
open Go Go.Cm
theorem d0 : deepRunC env0 1000 100 1 [] 19 [q0, q1] = some (.tuple ⟨[q8, q9]⟩, []) := by kernel_rfl
theorem d6 : deepRunC env0 1000 100 1 [] 19 [q33, q38] = some (.tuple ⟨[q41, q42]⟩, []) := by kernel_rfl
theorem d12 : deepRunC env0 1000 100 1 [] 19 [q76, q35] = some (.tuple ⟨[q76, q36]⟩, []) := by kernel_rfl
theorem d18 : deepRunC env0 1000 100 1 [] 19 [q101, q19] = some (.tuple ⟨[q105, q106]⟩, []) := by kernel_rfl
theorem d24 : deepRunC env0 1000 100 1 [] 19 [q96, q51] = some (.tuple ⟨[q129, q130]⟩, []) := by kernel_rfl
theorem d30 : deepRunC env0 1000 100 1 [] 19 [q142, q38] = some (.tuple ⟨[q145, q42]⟩, []) := by kernel_rfl
theorem d36 : deepRunC env0 1000 100 1 [] 19 [q176, q35] = some (.tuple ⟨[q176, q36]⟩, []) := by kernel_rfl
theorem d42 : deepRunC env0 1000 100 1 [] 19 [q205, q19] = some (.tuple ⟨[q209, q210]⟩, []) := by kernel_rfl
theorem d48 : deepRunC env0 1000 100 1 [] 19 [q200, q51] = some (.tuple ⟨[q200, q36]⟩, []) := by kernel_rfl
theorem d54 : deepRunC env0 1000 100 1 [] 19 [q231, q35] = some (.tuple ⟨[q231, q36]⟩, []) := by kernel_rfl
theorem d60 : deepRunC env0 1000 100 1 [] 19 [q247, q19] = some (.tuple ⟨[q249, q77]⟩, []) := by kernel_rfl
theorem d66 : deepRunC env0 1000 100 1 [] 19 [q245, q86] = some (.tuple ⟨[q263, q130]⟩, []) := by kernel_rfl
theorem d72 : deepRunC env0 1000 100 1 [] 19 [q269, q38] = some (.tuple ⟨[q271, q42]⟩, []) := by kernel_rfl
theorem d78 : deepRunC env0 1000 100 1 [] 19 [q287, q35] = some (.tuple ⟨[q287, q36]⟩, []) := by kernel_rfl
theorem d84 : deepRunC env0 1000 100 1 [] 19 [q301, q19] = some (.tuple ⟨[q303, q177]⟩, []) := by kernel_rfl
theorem d90 : deepRunC env0 1000 100 1 [] 19 [q299, q51] = some (.tuple ⟨[q318, q319]⟩, []) := by kernel_rfl
theorem d96 : deepRunC env0 1000 100 1 [] 19 [q325, q38] = some (.tuple ⟨[q327, q42]⟩, []) := by kernel_rfl
theorem d102 : deepRunC env0 1000 100 1 [] 19 [q336, q19] = some (.tuple ⟨[q338, q50]⟩, []) := by kernel_rfl
theorem d108 : deepRunC env0 1000 100 1 [] 19 [q334, q51] = some (.tuple ⟨[q355, q130]⟩, []) := by kernel_rfl
theorem d114 : deepRunC env0 1000 100 1 [] 19 [q361, q38] = some (.tuple ⟨[q363, q42]⟩, []) := by kernel_rfl
theorem d120 : deepRunC env0 1000 100 1 [] 19 [q379, q35] = some (.tuple ⟨[q379, q36]⟩, []) := by kernel_rfl
theorem d126 : deepRunC env0 1000 100 1 [] 19 [q393, q19] = some (.tuple ⟨[q395, q151]⟩, []) := by kernel_rfl
theorem d132 : deepRunC env0 1000 100 1 [] 19 [q391, q86] = some (.tuple ⟨[q409, q319]⟩, []) := by kernel_rfl
theorem d138 : deepRunC env0 1000 100 1 [] 19 [q415, q38] = some (.tuple ⟨[q417, q42]⟩, []) := by kernel_rfl
theorem d144 : deepRunC env0 1000 100 1 [] 19 [q435, q35] = some (.tuple ⟨[q435, q36]⟩, []) := by kernel_rfl
theorem d150 : deepRunC env0 1000 100 1 [] 19 [q334, q223] = some (.tuple ⟨[q445, q34]⟩, []) := by kernel_rfl
theorem d156 : deepRunC env0 1000 100 1 [] 19 [q452, q38] = some (.tuple ⟨[q455, q42]⟩, []) := by kernel_rfl
theorem d162 : deepRunC env0 1000 100 1 [] 19 [q472, q35] = some (.tuple ⟨[q472, q36]⟩, []) := by kernel_rfl
theorem d168 : deepRunC env0 1000 100 1 [] 19 [q486, q19] = some (.tuple ⟨[q488, q275]⟩, []) := by kernel_rfl
theorem d174 : deepRunC env0 1000 100 1 [] 19 [q484, q51] = some (.tuple ⟨[q502, q319]⟩, []) := by kernel_rfl
theorem d180 : deepRunC env0 1000 100 1 [] 19 [q508, q38] = some (.tuple ⟨[q510, q42]⟩, []) := by kernel_rfl
theorem d186 : deepRunC env0 1000 100 1 [] 19 [q526, q35] = some (.tuple ⟨[q526, q36]⟩, []) := by kernel_rfl
theorem d192 : deepRunC env0 1000 100 1 [] 19 [q542, q19] = some (.tuple ⟨[q544, q333]⟩, []) := by kernel_rfl
theorem d198 : deepRunC env0 1000 100 1 [] 19 [q539, q51] = some (.tuple ⟨[q539, q36]⟩, []) := by kernel_rfl
theorem d204 : deepRunC env0 1000 100 1 [] 19 [q563, q35] = some (.tuple ⟨[q563, q36]⟩, []) := by kernel_rfl
theorem d210 : deepRunC env0 1000 100 1 [] 19 [q579, q19] = some (.tuple ⟨[q581, q367]⟩, []) := by kernel_rfl
theorem d216 : deepRunC env0 1000 100 1 [] 19 [q577, q86] = some (.tuple ⟨[q595, q319]⟩, []) := by kernel_rfl
theorem d222 : deepRunC env0 1000 100 1 [] 19 [q601, q38] = some (.tuple ⟨[q603, q42]⟩, []) := by kernel_rfl
theorem d228 : deepRunC env0 1000 100 1 [] 19 [q619, q35] = some (.tuple ⟨[q619, q36]⟩, []) := by kernel_rfl
theorem d234 : deepRunC env0 1000 100 1 [] 19 [q633, q19] = some (.tuple ⟨[q635, q421]⟩, []) := by kernel_rfl
theorem d240 : deepRunC env0 1000 100 1 [] 19 [q631, q51] = some (.tuple ⟨[q650, q651]⟩, []) := by kernel_rfl
theorem d246 : deepRunC env0 1000 100 1 [] 19 [q657, q38] = some (.tuple ⟨[q659, q42]⟩, []) := by kernel_rfl
theorem d252 : deepRunC env0 1000 100 1 [] 19 [q669, q19] = some (.tuple ⟨[q671, q460]⟩, []) := by kernel_rfl
theorem d258 : deepRunC env0 1000 100 1 [] 19 [q667, q51] = some (.tuple ⟨[q683, q319]⟩, []) := by kernel_rfl
theorem d264 : deepRunC env0 1000 100 1 [] 19 [q687, q38] = some (.tuple ⟨[q689, q42]⟩, []) := by kernel_rfl
theorem d270 : deepRunC env0 1000 100 1 [] 19 [q701, q35] = some (.tuple ⟨[q701, q36]⟩, []) := by kernel_rfl
theorem d276 : deepRunC env0 1000 100 1 [] 19 [q713, q19] = some (.tuple ⟨[q715, q514]⟩, []) := by kernel_rfl
theorem d282 : deepRunC env0 1000 100 1 [] 19 [q711, q86] = some (.tuple ⟨[q725, q651]⟩, []) := by kernel_rfl
theorem d288 : deepRunC env0 1000 100 1 [] 19 [q729, q38] = some (.tuple ⟨[q731, q42]⟩, []) := by kernel_rfl
theorem d294 : deepRunC env0 1000 100 1 [] 19 [q745, q35] = some (.tuple ⟨[q745, q36]⟩, []) := by kernel_rfl
theorem d300 : deepRunC env0 1000 100 1 [] 19 [q667, q223] = some (.tuple ⟨[q751, q349]⟩, []) := by kernel_rfl
theorem d306 : deepRunC env0 1000 100 1 [] 19 [q753, q38] = some (.tuple ⟨[q755, q42]⟩, []) := by kernel_rfl
theorem d312 : deepRunC env0 1000 100 1 [] 19 [q766, q35] = some (.tuple ⟨[q766, q36]⟩, []) := by kernel_rfl
theorem d318 : deepRunC env0 1000 100 1 [] 19 [q778, q19] = some (.tuple ⟨[q778, q36]⟩, []) := by kernel_rfl
theorem d324 : deepRunC env0 1000 100 1 [] 19 [q776, q51] = some (.tuple ⟨[q788, q651]⟩, []) := by kernel_rfl
theorem d330 : deepRunC env0 1000 100 1 [] 19 [q790, q38] = some (.tuple ⟨[q792, q42]⟩, []) := by kernel_rfl
theorem d336 : deepRunC env0 1000 100 1 [] 19 [q802, q35] = some (.tuple ⟨[q802, q36]⟩, []) := by kernel_rfl
theorem d342 : deepRunC env0 1000 100 1 [] 19 [q816, q19] = some (.tuple ⟨[q816, q36]⟩, []) := by kernel_rfl
theorem d348 : deepRunC env0 1000 100 1 [] 19 [q813, q51] = some (.tuple ⟨[q813, q36]⟩, []) := by kernel_rfl
theorem d354 : deepRunC env0 1000 100 1 [] 19 [q822, q35] = some (.tuple ⟨[q822, q36]⟩, []) := by kernel_rfl
theorem d360 : deepRunC env0 1000 100 1 [] 19 [q831, q19] = some (.tuple ⟨[q831, q36]⟩, []) := by kernel_rfl
theorem d366 : deepRunC env0 1000 100 1 [] 19 [q831, q86] = some (.tuple ⟨[q840, q651]⟩, []) := by kernel_rfl
theorem d372 : deepRunC env0 1000 100 1 [] 19 [q840, q38] = some (.tuple ⟨[q841, q42]⟩, []) := by kernel_rfl
theorem d378 : deepRunC env0 1000 100 1 [] 19 [q849, q35] = some (.tuple ⟨[q849, q36]⟩, []) := by kernel_rfl
theorem d384 : deepRunC env0 1000 100 1 [] 19 [q858, q19] = some (.tuple ⟨[q858, q36]⟩, []) := by kernel_rfl
theorem d390 : deepRunC env0 1000 100 1 [] 19 [q858, q51] = some (.tuple ⟨[q868, q869]⟩, []) := by kernel_rfl
theorem d396 : deepRunC env0 1000 100 1 [] 19 [q868, q38] = some (.tuple ⟨[q870, q42]⟩, []) := by kernel_rfl
end Go.Proofs.YtnnnknojnfphlaaGreat.Cl
