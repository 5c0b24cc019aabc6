/-
  The law's cases, by the machine.
-/
import Derived.Test.YtigeegdnhmgkbaaGreatScA
namespace Go.Proofs.YtigeegdnhmgkbaaGreat.Cl
open Go Go.Cm
theorem sP_0 : yesC envP 1000 100 6 [tok 0, symAt 2 15 0] 1 = true := by kernel_rfl
theorem sP_1 : yesC envP 1000 100 6 [tok 0, symAt 2 15 1] 1 = true := by kernel_rfl
theorem sP_2 : yesC envP 1000 100 6 [tok 0, symAt 2 15 2] 1 = true := by kernel_rfl
theorem sP_3 : yesC envP 1000 100 6 [tok 0, symAt 2 15 3] 1 = true := by kernel_rfl
theorem sP_4 : yesC envP 1000 100 6 [tok 0, symAt 2 15 4] 1 = true := by kernel_rfl
theorem sP_5 : yesC envP 1000 100 6 [tok 0, symAt 2 15 5] 1 = true := by kernel_rfl
theorem sP_6 : yesC envP 1000 100 6 [tok 0, symAt 2 15 6] 1 = true := by kernel_rfl
theorem sP_7 : yesC envP 1000 100 6 [tok 0, symAt 2 15 7] 1 = true := by kernel_rfl
theorem sP_8 : yesC envP 1000 100 6 [tok 0, symAt 2 15 8] 1 = true := by kernel_rfl
theorem sP_9 : yesC envP 1000 100 6 [tok 0, symAt 2 15 9] 1 = true := by kernel_rfl
theorem sP_10 : yesC envP 1000 100 6 [tok 0, symAt 2 15 10] 1 = true := by kernel_rfl
theorem sP_11 : yesC envP 1000 100 6 [tok 0, symAt 2 15 11] 1 = true := by kernel_rfl
theorem sP_12 : yesC envP 1000 100 6 [tok 0, symAt 2 15 12] 1 = true := by kernel_rfl
theorem sP_13 : yesC envP 1000 100 6 [tok 0, symAt 2 15 13] 1 = true := by kernel_rfl
theorem sP_14 : yesC envP 1000 100 6 [tok 0, symAt 2 15 14] 1 = true := by kernel_rfl
theorem sP_15 : yesC envP 1000 100 6 [tok 0, symAt 2 15 15] 1 = true := by kernel_rfl
theorem sP : ∀ k, k ≤ 15 → yesC envP 1000 100 6 [tok 0, symAt 2 15 k] 1 = true
  | 0, _ => sP_0
  | 1, _ => sP_1
  | 2, _ => sP_2
  | 3, _ => sP_3
  | 4, _ => sP_4
  | 5, _ => sP_5
  | 6, _ => sP_6
  | 7, _ => sP_7
  | 8, _ => sP_8
  | 9, _ => sP_9
  | 10, _ => sP_10
  | 11, _ => sP_11
  | 12, _ => sP_12
  | 13, _ => sP_13
  | 14, _ => sP_14
  | 15, _ => sP_15
  | k + 16, h => by omega
end Go.Proofs.YtigeegdnhmgkbaaGreat.Cl
