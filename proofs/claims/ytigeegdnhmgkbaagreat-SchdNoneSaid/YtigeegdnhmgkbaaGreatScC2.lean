/-
  The law's cases, by the machine.
-/
import Derived.Test.YtigeegdnhmgkbaaGreatScA
namespace Go.Proofs.YtigeegdnhmgkbaaGreat.Cl
open Go Go.Cm
theorem s2_0 : yesC env2 1000 100 6 [.int .i64 2, symAt 2 15 0] 1 = true := by kernel_rfl
theorem s2_1 : yesC env2 1000 100 6 [.int .i64 2, symAt 2 15 1] 1 = true := by kernel_rfl
theorem s2_2 : yesC env2 1000 100 6 [.int .i64 2, symAt 2 15 2] 1 = true := by kernel_rfl
theorem s2_3 : yesC env2 1000 100 6 [.int .i64 2, symAt 2 15 3] 1 = true := by kernel_rfl
theorem s2_4 : yesC env2 1000 100 6 [.int .i64 2, symAt 2 15 4] 1 = true := by kernel_rfl
theorem s2_5 : yesC env2 1000 100 6 [.int .i64 2, symAt 2 15 5] 1 = true := by kernel_rfl
theorem s2_6 : yesC env2 1000 100 6 [.int .i64 2, symAt 2 15 6] 1 = true := by kernel_rfl
theorem s2_7 : yesC env2 1000 100 6 [.int .i64 2, symAt 2 15 7] 1 = true := by kernel_rfl
theorem s2_8 : yesC env2 1000 100 6 [.int .i64 2, symAt 2 15 8] 1 = true := by kernel_rfl
theorem s2_9 : yesC env2 1000 100 6 [.int .i64 2, symAt 2 15 9] 1 = true := by kernel_rfl
theorem s2_10 : yesC env2 1000 100 6 [.int .i64 2, symAt 2 15 10] 1 = true := by kernel_rfl
theorem s2_11 : yesC env2 1000 100 6 [.int .i64 2, symAt 2 15 11] 1 = true := by kernel_rfl
theorem s2_12 : yesC env2 1000 100 6 [.int .i64 2, symAt 2 15 12] 1 = true := by kernel_rfl
theorem s2_13 : yesC env2 1000 100 6 [.int .i64 2, symAt 2 15 13] 1 = true := by kernel_rfl
theorem s2_14 : yesC env2 1000 100 6 [.int .i64 2, symAt 2 15 14] 1 = true := by kernel_rfl
theorem s2_15 : yesC env2 1000 100 6 [.int .i64 2, symAt 2 15 15] 1 = true := by kernel_rfl
theorem s2 : ∀ k, k ≤ 15 → yesC env2 1000 100 6 [.int .i64 2, symAt 2 15 k] 1 = true
  | 0, _ => s2_0
  | 1, _ => s2_1
  | 2, _ => s2_2
  | 3, _ => s2_3
  | 4, _ => s2_4
  | 5, _ => s2_5
  | 6, _ => s2_6
  | 7, _ => s2_7
  | 8, _ => s2_8
  | 9, _ => s2_9
  | 10, _ => s2_10
  | 11, _ => s2_11
  | 12, _ => s2_12
  | 13, _ => s2_13
  | 14, _ => s2_14
  | 15, _ => s2_15
  | k + 16, h => by omega
end Go.Proofs.YtigeegdnhmgkbaaGreat.Cl
