/-
  What modl.Do answers, each by a run of the machine.
-/
import Derived.Test.YtnnnknojnfphlaaGreatMuM
namespace Go.Proofs.YtnnnknojnfphlaaGreat.Cl
open Go Go.Cm
theorem d4 : deepRunC env0 1000 100 1 [] 19 [q33, q35] = some (.tuple ⟨[q33, q36]⟩, []) := by kernel_rfl
theorem d10 : deepRunC env0 1000 100 1 [] 19 [q68, q19] = some (.tuple ⟨[q72, q73]⟩, []) := by kernel_rfl
theorem d16 : deepRunC env0 1000 100 1 [] 19 [q63, q86] = some (.tuple ⟨[q96, q97]⟩, []) := by kernel_rfl
theorem d22 : deepRunC env0 1000 100 1 [] 19 [q109, q38] = some (.tuple ⟨[q112, q42]⟩, []) := by kernel_rfl
theorem d28 : deepRunC env0 1000 100 1 [] 19 [q142, q35] = some (.tuple ⟨[q142, q36]⟩, []) := by kernel_rfl
theorem d34 : deepRunC env0 1000 100 1 [] 19 [q168, q19] = some (.tuple ⟨[q172, q173]⟩, []) := by kernel_rfl
theorem d40 : deepRunC env0 1000 100 1 [] 19 [q163, q51] = some (.tuple ⟨[q200, q201]⟩, []) := by kernel_rfl
theorem d46 : deepRunC env0 1000 100 1 [] 19 [q213, q38] = some (.tuple ⟨[q216, q42]⟩, []) := by kernel_rfl
theorem d52 : deepRunC env0 1000 100 1 [] 19 [q226, q19] = some (.tuple ⟨[q228, q34]⟩, []) := by kernel_rfl
theorem d58 : deepRunC env0 1000 100 1 [] 19 [q224, q51] = some (.tuple ⟨[q245, q97]⟩, []) := by kernel_rfl
theorem d64 : deepRunC env0 1000 100 1 [] 19 [q251, q38] = some (.tuple ⟨[q253, q42]⟩, []) := by kernel_rfl
theorem d70 : deepRunC env0 1000 100 1 [] 19 [q269, q35] = some (.tuple ⟨[q269, q36]⟩, []) := by kernel_rfl
theorem d76 : deepRunC env0 1000 100 1 [] 19 [q283, q19] = some (.tuple ⟨[q285, q143]⟩, []) := by kernel_rfl
theorem d82 : deepRunC env0 1000 100 1 [] 19 [q281, q86] = some (.tuple ⟨[q299, q201]⟩, []) := by kernel_rfl
theorem d88 : deepRunC env0 1000 100 1 [] 19 [q305, q38] = some (.tuple ⟨[q307, q42]⟩, []) := by kernel_rfl
theorem d94 : deepRunC env0 1000 100 1 [] 19 [q325, q35] = some (.tuple ⟨[q325, q36]⟩, []) := by kernel_rfl
theorem d100 : deepRunC env0 1000 100 1 [] 19 [q224, q223] = some (.tuple ⟨[q334, q26]⟩, []) := by kernel_rfl
theorem d106 : deepRunC env0 1000 100 1 [] 19 [q341, q38] = some (.tuple ⟨[q344, q42]⟩, []) := by kernel_rfl
theorem d112 : deepRunC env0 1000 100 1 [] 19 [q361, q35] = some (.tuple ⟨[q361, q36]⟩, []) := by kernel_rfl
theorem d118 : deepRunC env0 1000 100 1 [] 19 [q375, q19] = some (.tuple ⟨[q377, q118]⟩, []) := by kernel_rfl
theorem d124 : deepRunC env0 1000 100 1 [] 19 [q373, q51] = some (.tuple ⟨[q391, q201]⟩, []) := by kernel_rfl
theorem d130 : deepRunC env0 1000 100 1 [] 19 [q397, q38] = some (.tuple ⟨[q399, q42]⟩, []) := by kernel_rfl
theorem d136 : deepRunC env0 1000 100 1 [] 19 [q415, q35] = some (.tuple ⟨[q415, q36]⟩, []) := by kernel_rfl
theorem d142 : deepRunC env0 1000 100 1 [] 19 [q431, q19] = some (.tuple ⟨[q433, q222]⟩, []) := by kernel_rfl
theorem d148 : deepRunC env0 1000 100 1 [] 19 [q428, q51] = some (.tuple ⟨[q428, q36]⟩, []) := by kernel_rfl
theorem d154 : deepRunC env0 1000 100 1 [] 19 [q452, q35] = some (.tuple ⟨[q452, q36]⟩, []) := by kernel_rfl
theorem d160 : deepRunC env0 1000 100 1 [] 19 [q468, q19] = some (.tuple ⟨[q470, q257]⟩, []) := by kernel_rfl
theorem d166 : deepRunC env0 1000 100 1 [] 19 [q466, q86] = some (.tuple ⟨[q484, q201]⟩, []) := by kernel_rfl
theorem d172 : deepRunC env0 1000 100 1 [] 19 [q490, q38] = some (.tuple ⟨[q492, q42]⟩, []) := by kernel_rfl
theorem d178 : deepRunC env0 1000 100 1 [] 19 [q508, q35] = some (.tuple ⟨[q508, q36]⟩, []) := by kernel_rfl
theorem d184 : deepRunC env0 1000 100 1 [] 19 [q522, q19] = some (.tuple ⟨[q524, q311]⟩, []) := by kernel_rfl
theorem d190 : deepRunC env0 1000 100 1 [] 19 [q520, q51] = some (.tuple ⟨[q539, q540]⟩, []) := by kernel_rfl
theorem d196 : deepRunC env0 1000 100 1 [] 19 [q546, q38] = some (.tuple ⟨[q548, q42]⟩, []) := by kernel_rfl
theorem d202 : deepRunC env0 1000 100 1 [] 19 [q558, q19] = some (.tuple ⟨[q560, q349]⟩, []) := by kernel_rfl
theorem d208 : deepRunC env0 1000 100 1 [] 19 [q556, q51] = some (.tuple ⟨[q577, q201]⟩, []) := by kernel_rfl
theorem d214 : deepRunC env0 1000 100 1 [] 19 [q583, q38] = some (.tuple ⟨[q585, q42]⟩, []) := by kernel_rfl
theorem d220 : deepRunC env0 1000 100 1 [] 19 [q601, q35] = some (.tuple ⟨[q601, q36]⟩, []) := by kernel_rfl
theorem d226 : deepRunC env0 1000 100 1 [] 19 [q615, q19] = some (.tuple ⟨[q617, q403]⟩, []) := by kernel_rfl
theorem d232 : deepRunC env0 1000 100 1 [] 19 [q613, q86] = some (.tuple ⟨[q631, q540]⟩, []) := by kernel_rfl
theorem d238 : deepRunC env0 1000 100 1 [] 19 [q637, q38] = some (.tuple ⟨[q639, q42]⟩, []) := by kernel_rfl
theorem d244 : deepRunC env0 1000 100 1 [] 19 [q657, q35] = some (.tuple ⟨[q657, q36]⟩, []) := by kernel_rfl
theorem d250 : deepRunC env0 1000 100 1 [] 19 [q556, q223] = some (.tuple ⟨[q667, q239]⟩, []) := by kernel_rfl
theorem d256 : deepRunC env0 1000 100 1 [] 19 [q671, q38] = some (.tuple ⟨[q674, q42]⟩, []) := by kernel_rfl
theorem d262 : deepRunC env0 1000 100 1 [] 19 [q687, q35] = some (.tuple ⟨[q687, q36]⟩, []) := by kernel_rfl
theorem d268 : deepRunC env0 1000 100 1 [] 19 [q699, q19] = some (.tuple ⟨[q701, q496]⟩, []) := by kernel_rfl
theorem d274 : deepRunC env0 1000 100 1 [] 19 [q697, q51] = some (.tuple ⟨[q711, q540]⟩, []) := by kernel_rfl
theorem d280 : deepRunC env0 1000 100 1 [] 19 [q715, q38] = some (.tuple ⟨[q717, q42]⟩, []) := by kernel_rfl
theorem d286 : deepRunC env0 1000 100 1 [] 19 [q729, q35] = some (.tuple ⟨[q729, q36]⟩, []) := by kernel_rfl
theorem d292 : deepRunC env0 1000 100 1 [] 19 [q743, q19] = some (.tuple ⟨[q745, q554]⟩, []) := by kernel_rfl
theorem d298 : deepRunC env0 1000 100 1 [] 19 [q740, q51] = some (.tuple ⟨[q740, q36]⟩, []) := by kernel_rfl
theorem d304 : deepRunC env0 1000 100 1 [] 19 [q753, q35] = some (.tuple ⟨[q753, q36]⟩, []) := by kernel_rfl
theorem d310 : deepRunC env0 1000 100 1 [] 19 [q766, q19] = some (.tuple ⟨[q766, q36]⟩, []) := by kernel_rfl
theorem d316 : deepRunC env0 1000 100 1 [] 19 [q764, q86] = some (.tuple ⟨[q776, q540]⟩, []) := by kernel_rfl
theorem d322 : deepRunC env0 1000 100 1 [] 19 [q778, q38] = some (.tuple ⟨[q780, q42]⟩, []) := by kernel_rfl
theorem d328 : deepRunC env0 1000 100 1 [] 19 [q790, q35] = some (.tuple ⟨[q790, q36]⟩, []) := by kernel_rfl
theorem d334 : deepRunC env0 1000 100 1 [] 19 [q802, q19] = some (.tuple ⟨[q802, q36]⟩, []) := by kernel_rfl
theorem d340 : deepRunC env0 1000 100 1 [] 19 [q800, q51] = some (.tuple ⟨[q813, q814]⟩, []) := by kernel_rfl
theorem d346 : deepRunC env0 1000 100 1 [] 19 [q816, q38] = some (.tuple ⟨[q818, q42]⟩, []) := by kernel_rfl
theorem d352 : deepRunC env0 1000 100 1 [] 19 [q822, q19] = some (.tuple ⟨[q822, q36]⟩, []) := by kernel_rfl
theorem d358 : deepRunC env0 1000 100 1 [] 19 [q822, q51] = some (.tuple ⟨[q831, q540]⟩, []) := by kernel_rfl
theorem d364 : deepRunC env0 1000 100 1 [] 19 [q831, q38] = some (.tuple ⟨[q832, q42]⟩, []) := by kernel_rfl
theorem d370 : deepRunC env0 1000 100 1 [] 19 [q840, q35] = some (.tuple ⟨[q840, q36]⟩, []) := by kernel_rfl
theorem d376 : deepRunC env0 1000 100 1 [] 19 [q849, q19] = some (.tuple ⟨[q849, q36]⟩, []) := by kernel_rfl
theorem d382 : deepRunC env0 1000 100 1 [] 19 [q849, q86] = some (.tuple ⟨[q858, q814]⟩, []) := by kernel_rfl
theorem d388 : deepRunC env0 1000 100 1 [] 19 [q858, q38] = some (.tuple ⟨[q859, q42]⟩, []) := by kernel_rfl
theorem d394 : deepRunC env0 1000 100 1 [] 19 [q868, q35] = some (.tuple ⟨[q868, q36]⟩, []) := by kernel_rfl
theorem d400 : deepRunC env0 1000 100 1 [] 19 [q822, q223] = some (.tuple ⟨[q822, q36]⟩, []) := by kernel_rfl
end Go.Proofs.YtnnnknojnfphlaaGreat.Cl
