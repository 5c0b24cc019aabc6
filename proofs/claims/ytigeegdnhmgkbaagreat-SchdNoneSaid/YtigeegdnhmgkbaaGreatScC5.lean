/-
  The law's cases, by the machine.
-/
import Derived.Test.YtigeegdnhmgkbaaGreatScA
namespace Go.Proofs.YtigeegdnhmgkbaaGreat.Cl
open Go Go.Cm
theorem s5_0 : yesC env2 1000 100 6 [.int .i64 5, symAt 2 15 0] 1 = true := by kernel_rfl
theorem s5_1 : yesC env2 1000 100 6 [.int .i64 5, symAt 2 15 1] 1 = true := by kernel_rfl
theorem s5_2 : yesC env2 1000 100 6 [.int .i64 5, symAt 2 15 2] 1 = true := by kernel_rfl
theorem s5_3 : yesC env2 1000 100 6 [.int .i64 5, symAt 2 15 3] 1 = true := by kernel_rfl
theorem s5_4 : yesC env2 1000 100 6 [.int .i64 5, symAt 2 15 4] 1 = true := by kernel_rfl
theorem s5_5 : yesC env2 1000 100 6 [.int .i64 5, symAt 2 15 5] 1 = true := by kernel_rfl
theorem s5_6 : yesC env2 1000 100 6 [.int .i64 5, symAt 2 15 6] 1 = true := by kernel_rfl
theorem s5_7 : yesC env2 1000 100 6 [.int .i64 5, symAt 2 15 7] 1 = true := by kernel_rfl
theorem s5_8 : yesC env2 1000 100 6 [.int .i64 5, symAt 2 15 8] 1 = true := by kernel_rfl
theorem s5_9 : yesC env2 1000 100 6 [.int .i64 5, symAt 2 15 9] 1 = true := by kernel_rfl
theorem s5_10 : yesC env2 1000 100 6 [.int .i64 5, symAt 2 15 10] 1 = true := by kernel_rfl
theorem s5_11 : yesC env2 1000 100 6 [.int .i64 5, symAt 2 15 11] 1 = true := by kernel_rfl
theorem s5_12 : yesC env2 1000 100 6 [.int .i64 5, symAt 2 15 12] 1 = true := by kernel_rfl
theorem s5_13 : yesC env2 1000 100 6 [.int .i64 5, symAt 2 15 13] 1 = true := by kernel_rfl
theorem s5_14 : yesC env2 1000 100 6 [.int .i64 5, symAt 2 15 14] 1 = true := by kernel_rfl
theorem s5_15 : yesC env2 1000 100 6 [.int .i64 5, symAt 2 15 15] 1 = true := by kernel_rfl
theorem s5 : ∀ k, k ≤ 15 → yesC env2 1000 100 6 [.int .i64 5, symAt 2 15 k] 1 = true
  | 0, _ => s5_0
  | 1, _ => s5_1
  | 2, _ => s5_2
  | 3, _ => s5_3
  | 4, _ => s5_4
  | 5, _ => s5_5
  | 6, _ => s5_6
  | 7, _ => s5_7
  | 8, _ => s5_8
  | 9, _ => s5_9
  | 10, _ => s5_10
  | 11, _ => s5_11
  | 12, _ => s5_12
  | 13, _ => s5_13
  | 14, _ => s5_14
  | 15, _ => s5_15
  | k + 16, h => by omega
end Go.Proofs.YtigeegdnhmgkbaaGreat.Cl
