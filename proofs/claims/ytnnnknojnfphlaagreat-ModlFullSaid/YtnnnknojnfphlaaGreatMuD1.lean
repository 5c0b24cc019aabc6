/-
  What modl.Do answers, each by a run of the machine.
-/
import Derived.Test.YtnnnknojnfphlaaGreatMuM
namespace Go.Proofs.YtnnnknojnfphlaaGreat.Cl
open Go Go.Cm
theorem d1 : deepRunC env0 1000 100 1 [] 19 [q8, q10] = some (.tuple ⟨[q17, q18]⟩, []) := by kernel_rfl
theorem d7 : deepRunC env0 1000 100 1 [] 19 [q41, q43] = some (.tuple ⟨[q49, q50]⟩, []) := by kernel_rfl
theorem d13 : deepRunC env0 1000 100 1 [] 19 [q76, q37] = some (.tuple ⟨[q76, q36]⟩, []) := by kernel_rfl
theorem d19 : deepRunC env0 1000 100 1 [] 19 [q105, q27] = some (.tuple ⟨[q109, q110]⟩, []) := by kernel_rfl
theorem d25 : deepRunC env0 1000 100 1 [] 19 [q129, q10] = some (.tuple ⟨[q134, q135]⟩, []) := by kernel_rfl
theorem d31 : deepRunC env0 1000 100 1 [] 19 [q145, q43] = some (.tuple ⟨[q150, q151]⟩, []) := by kernel_rfl
theorem d37 : deepRunC env0 1000 100 1 [] 19 [q176, q37] = some (.tuple ⟨[q176, q36]⟩, []) := by kernel_rfl
theorem d43 : deepRunC env0 1000 100 1 [] 19 [q209, q27] = some (.tuple ⟨[q213, q214]⟩, []) := by kernel_rfl
theorem d49 : deepRunC env0 1000 100 1 [] 19 [q200, q86] = some (.tuple ⟨[q200, q36]⟩, []) := by kernel_rfl
theorem d55 : deepRunC env0 1000 100 1 [] 19 [q231, q37] = some (.tuple ⟨[q231, q36]⟩, []) := by kernel_rfl
theorem d61 : deepRunC env0 1000 100 1 [] 19 [q249, q27] = some (.tuple ⟨[q251, q85]⟩, []) := by kernel_rfl
theorem d67 : deepRunC env0 1000 100 1 [] 19 [q263, q10] = some (.tuple ⟨[q265, q106]⟩, []) := by kernel_rfl
theorem d73 : deepRunC env0 1000 100 1 [] 19 [q271, q43] = some (.tuple ⟨[q274, q275]⟩, []) := by kernel_rfl
theorem d79 : deepRunC env0 1000 100 1 [] 19 [q287, q37] = some (.tuple ⟨[q287, q36]⟩, []) := by kernel_rfl
theorem d85 : deepRunC env0 1000 100 1 [] 19 [q303, q27] = some (.tuple ⟨[q305, q185]⟩, []) := by kernel_rfl
theorem d91 : deepRunC env0 1000 100 1 [] 19 [q318, q10] = some (.tuple ⟨[q321, q210]⟩, []) := by kernel_rfl
theorem d97 : deepRunC env0 1000 100 1 [] 19 [q327, q43] = some (.tuple ⟨[q332, q333]⟩, []) := by kernel_rfl
theorem d103 : deepRunC env0 1000 100 1 [] 19 [q338, q27] = some (.tuple ⟨[q341, q239]⟩, []) := by kernel_rfl
theorem d109 : deepRunC env0 1000 100 1 [] 19 [q355, q10] = some (.tuple ⟨[q357, q77]⟩, []) := by kernel_rfl
theorem d115 : deepRunC env0 1000 100 1 [] 19 [q363, q43] = some (.tuple ⟨[q366, q367]⟩, []) := by kernel_rfl
theorem d121 : deepRunC env0 1000 100 1 [] 19 [q379, q37] = some (.tuple ⟨[q379, q36]⟩, []) := by kernel_rfl
theorem d127 : deepRunC env0 1000 100 1 [] 19 [q395, q27] = some (.tuple ⟨[q397, q293]⟩, []) := by kernel_rfl
theorem d133 : deepRunC env0 1000 100 1 [] 19 [q409, q10] = some (.tuple ⟨[q411, q177]⟩, []) := by kernel_rfl
theorem d139 : deepRunC env0 1000 100 1 [] 19 [q417, q43] = some (.tuple ⟨[q420, q421]⟩, []) := by kernel_rfl
theorem d145 : deepRunC env0 1000 100 1 [] 19 [q435, q37] = some (.tuple ⟨[q435, q36]⟩, []) := by kernel_rfl
theorem d151 : deepRunC env0 1000 100 1 [] 19 [q445, q10] = some (.tuple ⟨[q447, q50]⟩, []) := by kernel_rfl
theorem d157 : deepRunC env0 1000 100 1 [] 19 [q455, q43] = some (.tuple ⟨[q459, q460]⟩, []) := by kernel_rfl
theorem d163 : deepRunC env0 1000 100 1 [] 19 [q472, q37] = some (.tuple ⟨[q472, q36]⟩, []) := by kernel_rfl
theorem d169 : deepRunC env0 1000 100 1 [] 19 [q488, q27] = some (.tuple ⟨[q490, q385]⟩, []) := by kernel_rfl
theorem d175 : deepRunC env0 1000 100 1 [] 19 [q502, q10] = some (.tuple ⟨[q504, q151]⟩, []) := by kernel_rfl
theorem d181 : deepRunC env0 1000 100 1 [] 19 [q510, q43] = some (.tuple ⟨[q513, q514]⟩, []) := by kernel_rfl
theorem d187 : deepRunC env0 1000 100 1 [] 19 [q526, q37] = some (.tuple ⟨[q526, q36]⟩, []) := by kernel_rfl
theorem d193 : deepRunC env0 1000 100 1 [] 19 [q544, q27] = some (.tuple ⟨[q546, q443]⟩, []) := by kernel_rfl
theorem d199 : deepRunC env0 1000 100 1 [] 19 [q539, q86] = some (.tuple ⟨[q539, q36]⟩, []) := by kernel_rfl
theorem d205 : deepRunC env0 1000 100 1 [] 19 [q563, q37] = some (.tuple ⟨[q563, q36]⟩, []) := by kernel_rfl
theorem d211 : deepRunC env0 1000 100 1 [] 19 [q581, q27] = some (.tuple ⟨[q583, q478]⟩, []) := by kernel_rfl
theorem d217 : deepRunC env0 1000 100 1 [] 19 [q595, q10] = some (.tuple ⟨[q597, q275]⟩, []) := by kernel_rfl
theorem d223 : deepRunC env0 1000 100 1 [] 19 [q603, q43] = some (.tuple ⟨[q606, q607]⟩, []) := by kernel_rfl
theorem d229 : deepRunC env0 1000 100 1 [] 19 [q619, q37] = some (.tuple ⟨[q619, q36]⟩, []) := by kernel_rfl
theorem d235 : deepRunC env0 1000 100 1 [] 19 [q635, q27] = some (.tuple ⟨[q637, q532]⟩, []) := by kernel_rfl
theorem d241 : deepRunC env0 1000 100 1 [] 19 [q650, q10] = some (.tuple ⟨[q653, q333]⟩, []) := by kernel_rfl
theorem d247 : deepRunC env0 1000 100 1 [] 19 [q659, q43] = some (.tuple ⟨[q664, q665]⟩, []) := by kernel_rfl
theorem d253 : deepRunC env0 1000 100 1 [] 19 [q671, q27] = some (.tuple ⟨[q671, q36]⟩, []) := by kernel_rfl
theorem d259 : deepRunC env0 1000 100 1 [] 19 [q683, q10] = some (.tuple ⟨[q685, q367]⟩, []) := by kernel_rfl
theorem d265 : deepRunC env0 1000 100 1 [] 19 [q689, q43] = some (.tuple ⟨[q691, q589]⟩, []) := by kernel_rfl
theorem d271 : deepRunC env0 1000 100 1 [] 19 [q701, q37] = some (.tuple ⟨[q701, q36]⟩, []) := by kernel_rfl
theorem d277 : deepRunC env0 1000 100 1 [] 19 [q715, q27] = some (.tuple ⟨[q715, q36]⟩, []) := by kernel_rfl
theorem d283 : deepRunC env0 1000 100 1 [] 19 [q725, q10] = some (.tuple ⟨[q727, q421]⟩, []) := by kernel_rfl
theorem d289 : deepRunC env0 1000 100 1 [] 19 [q731, q43] = some (.tuple ⟨[q733, q643]⟩, []) := by kernel_rfl
theorem d295 : deepRunC env0 1000 100 1 [] 19 [q745, q37] = some (.tuple ⟨[q745, q36]⟩, []) := by kernel_rfl
theorem d301 : deepRunC env0 1000 100 1 [] 19 [q751, q10] = some (.tuple ⟨[q753, q460]⟩, []) := by kernel_rfl
theorem d307 : deepRunC env0 1000 100 1 [] 19 [q755, q43] = some (.tuple ⟨[q758, q571]⟩, []) := by kernel_rfl
theorem d313 : deepRunC env0 1000 100 1 [] 19 [q766, q37] = some (.tuple ⟨[q766, q36]⟩, []) := by kernel_rfl
theorem d319 : deepRunC env0 1000 100 1 [] 19 [q778, q27] = some (.tuple ⟨[q778, q36]⟩, []) := by kernel_rfl
theorem d325 : deepRunC env0 1000 100 1 [] 19 [q788, q10] = some (.tuple ⟨[q790, q514]⟩, []) := by kernel_rfl
theorem d331 : deepRunC env0 1000 100 1 [] 19 [q792, q43] = some (.tuple ⟨[q794, q625]⟩, []) := by kernel_rfl
theorem d337 : deepRunC env0 1000 100 1 [] 19 [q802, q37] = some (.tuple ⟨[q802, q36]⟩, []) := by kernel_rfl
theorem d343 : deepRunC env0 1000 100 1 [] 19 [q816, q27] = some (.tuple ⟨[q816, q36]⟩, []) := by kernel_rfl
theorem d349 : deepRunC env0 1000 100 1 [] 19 [q813, q86] = some (.tuple ⟨[q813, q36]⟩, []) := by kernel_rfl
theorem d355 : deepRunC env0 1000 100 1 [] 19 [q822, q37] = some (.tuple ⟨[q822, q36]⟩, []) := by kernel_rfl
theorem d361 : deepRunC env0 1000 100 1 [] 19 [q831, q27] = some (.tuple ⟨[q831, q36]⟩, []) := by kernel_rfl
theorem d367 : deepRunC env0 1000 100 1 [] 19 [q840, q10] = some (.tuple ⟨[q840, q36]⟩, []) := by kernel_rfl
theorem d373 : deepRunC env0 1000 100 1 [] 19 [q841, q43] = some (.tuple ⟨[q843, q607]⟩, []) := by kernel_rfl
theorem d379 : deepRunC env0 1000 100 1 [] 19 [q849, q37] = some (.tuple ⟨[q849, q36]⟩, []) := by kernel_rfl
theorem d385 : deepRunC env0 1000 100 1 [] 19 [q858, q27] = some (.tuple ⟨[q858, q36]⟩, []) := by kernel_rfl
theorem d391 : deepRunC env0 1000 100 1 [] 19 [q868, q10] = some (.tuple ⟨[q868, q36]⟩, []) := by kernel_rfl
theorem d397 : deepRunC env0 1000 100 1 [] 19 [q870, q43] = some (.tuple ⟨[q872, q665]⟩, []) := by kernel_rfl
end Go.Proofs.YtnnnknojnfphlaaGreat.Cl
