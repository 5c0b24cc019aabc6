/-
  The law's cases, by the machine.
-/
import Derived.Test.YtigeegdnhmgkbaaGreatScA
namespace Go.Proofs.YtigeegdnhmgkbaaGreat.Cl
open Go Go.Cm
theorem s1_0 : yesC env2 1000 100 6 [.int .i64 1, symAt 2 15 0] 1 = true := by kernel_rfl
theorem s1_1 : yesC env2 1000 100 6 [.int .i64 1, symAt 2 15 1] 1 = true := by kernel_rfl
theorem s1_2 : yesC env2 1000 100 6 [.int .i64 1, symAt 2 15 2] 1 = true := by kernel_rfl
theorem s1_3 : yesC env2 1000 100 6 [.int .i64 1, symAt 2 15 3] 1 = true := by kernel_rfl
theorem s1_4 : yesC env2 1000 100 6 [.int .i64 1, symAt 2 15 4] 1 = true := by kernel_rfl
theorem s1_5 : yesC env2 1000 100 6 [.int .i64 1, symAt 2 15 5] 1 = true := by kernel_rfl
theorem s1_6 : yesC env2 1000 100 6 [.int .i64 1, symAt 2 15 6] 1 = true := by kernel_rfl
theorem s1_7 : yesC env2 1000 100 6 [.int .i64 1, symAt 2 15 7] 1 = true := by kernel_rfl
theorem s1_8 : yesC env2 1000 100 6 [.int .i64 1, symAt 2 15 8] 1 = true := by kernel_rfl
theorem s1_9 : yesC env2 1000 100 6 [.int .i64 1, symAt 2 15 9] 1 = true := by kernel_rfl
theorem s1_10 : yesC env2 1000 100 6 [.int .i64 1, symAt 2 15 10] 1 = true := by kernel_rfl
theorem s1_11 : yesC env2 1000 100 6 [.int .i64 1, symAt 2 15 11] 1 = true := by kernel_rfl
theorem s1_12 : yesC env2 1000 100 6 [.int .i64 1, symAt 2 15 12] 1 = true := by kernel_rfl
theorem s1_13 : yesC env2 1000 100 6 [.int .i64 1, symAt 2 15 13] 1 = true := by kernel_rfl
theorem s1_14 : yesC env2 1000 100 6 [.int .i64 1, symAt 2 15 14] 1 = true := by kernel_rfl
theorem s1_15 : yesC env2 1000 100 6 [.int .i64 1, symAt 2 15 15] 1 = true := by kernel_rfl
theorem s1 : ∀ k, k ≤ 15 → yesC env2 1000 100 6 [.int .i64 1, symAt 2 15 k] 1 = true
  | 0, _ => s1_0
  | 1, _ => s1_1
  | 2, _ => s1_2
  | 3, _ => s1_3
  | 4, _ => s1_4
  | 5, _ => s1_5
  | 6, _ => s1_6
  | 7, _ => s1_7
  | 8, _ => s1_8
  | 9, _ => s1_9
  | 10, _ => s1_10
  | 11, _ => s1_11
  | 12, _ => s1_12
  | 13, _ => s1_13
  | 14, _ => s1_14
  | 15, _ => s1_15
  | k + 16, h => by omega
end Go.Proofs.YtigeegdnhmgkbaaGreat.Cl
