/-
  The law's cases, by the machine.
-/
import Derived.Test.YtigeegdnhmgkbaaGreatScA
namespace Go.Proofs.YtigeegdnhmgkbaaGreat.Cl
open Go Go.Cm
theorem sN_0 : yesC envN 1000 100 6 [tok 0, symAt 2 15 0] 1 = true := by kernel_rfl
theorem sN_1 : yesC envN 1000 100 6 [tok 0, symAt 2 15 1] 1 = true := by kernel_rfl
theorem sN_2 : yesC envN 1000 100 6 [tok 0, symAt 2 15 2] 1 = true := by kernel_rfl
theorem sN_3 : yesC envN 1000 100 6 [tok 0, symAt 2 15 3] 1 = true := by kernel_rfl
theorem sN_4 : yesC envN 1000 100 6 [tok 0, symAt 2 15 4] 1 = true := by kernel_rfl
theorem sN_5 : yesC envN 1000 100 6 [tok 0, symAt 2 15 5] 1 = true := by kernel_rfl
theorem sN_6 : yesC envN 1000 100 6 [tok 0, symAt 2 15 6] 1 = true := by kernel_rfl
theorem sN_7 : yesC envN 1000 100 6 [tok 0, symAt 2 15 7] 1 = true := by kernel_rfl
theorem sN_8 : yesC envN 1000 100 6 [tok 0, symAt 2 15 8] 1 = true := by kernel_rfl
theorem sN_9 : yesC envN 1000 100 6 [tok 0, symAt 2 15 9] 1 = true := by kernel_rfl
theorem sN_10 : yesC envN 1000 100 6 [tok 0, symAt 2 15 10] 1 = true := by kernel_rfl
theorem sN_11 : yesC envN 1000 100 6 [tok 0, symAt 2 15 11] 1 = true := by kernel_rfl
theorem sN_12 : yesC envN 1000 100 6 [tok 0, symAt 2 15 12] 1 = true := by kernel_rfl
theorem sN_13 : yesC envN 1000 100 6 [tok 0, symAt 2 15 13] 1 = true := by kernel_rfl
theorem sN_14 : yesC envN 1000 100 6 [tok 0, symAt 2 15 14] 1 = true := by kernel_rfl
theorem sN_15 : yesC envN 1000 100 6 [tok 0, symAt 2 15 15] 1 = true := by kernel_rfl
theorem sN : ∀ k, k ≤ 15 → yesC envN 1000 100 6 [tok 0, symAt 2 15 k] 1 = true
  | 0, _ => sN_0
  | 1, _ => sN_1
  | 2, _ => sN_2
  | 3, _ => sN_3
  | 4, _ => sN_4
  | 5, _ => sN_5
  | 6, _ => sN_6
  | 7, _ => sN_7
  | 8, _ => sN_8
  | 9, _ => sN_9
  | 10, _ => sN_10
  | 11, _ => sN_11
  | 12, _ => sN_12
  | 13, _ => sN_13
  | 14, _ => sN_14
  | 15, _ => sN_15
  | k + 16, h => by omega
end Go.Proofs.YtigeegdnhmgkbaaGreat.Cl
