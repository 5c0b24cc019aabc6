/-
  The law's cases, by the machine.
-/
import Derived.Test.YtigeegdnhmgkbaaGreatScA
namespace Go.Proofs.YtigeegdnhmgkbaaGreat.Cl
open Go Go.Cm
theorem s7_0 : yesC env2 1000 100 6 [.int .i64 7, symAt 2 15 0] 1 = true := by kernel_rfl
theorem s7_1 : yesC env2 1000 100 6 [.int .i64 7, symAt 2 15 1] 1 = true := by kernel_rfl
theorem s7_2 : yesC env2 1000 100 6 [.int .i64 7, symAt 2 15 2] 1 = true := by kernel_rfl
theorem s7_3 : yesC env2 1000 100 6 [.int .i64 7, symAt 2 15 3] 1 = true := by kernel_rfl
theorem s7_4 : yesC env2 1000 100 6 [.int .i64 7, symAt 2 15 4] 1 = true := by kernel_rfl
theorem s7_5 : yesC env2 1000 100 6 [.int .i64 7, symAt 2 15 5] 1 = true := by kernel_rfl
theorem s7_6 : yesC env2 1000 100 6 [.int .i64 7, symAt 2 15 6] 1 = true := by kernel_rfl
theorem s7_7 : yesC env2 1000 100 6 [.int .i64 7, symAt 2 15 7] 1 = true := by kernel_rfl
theorem s7_8 : yesC env2 1000 100 6 [.int .i64 7, symAt 2 15 8] 1 = true := by kernel_rfl
theorem s7_9 : yesC env2 1000 100 6 [.int .i64 7, symAt 2 15 9] 1 = true := by kernel_rfl
theorem s7_10 : yesC env2 1000 100 6 [.int .i64 7, symAt 2 15 10] 1 = true := by kernel_rfl
theorem s7_11 : yesC env2 1000 100 6 [.int .i64 7, symAt 2 15 11] 1 = true := by kernel_rfl
theorem s7_12 : yesC env2 1000 100 6 [.int .i64 7, symAt 2 15 12] 1 = true := by kernel_rfl
theorem s7_13 : yesC env2 1000 100 6 [.int .i64 7, symAt 2 15 13] 1 = true := by kernel_rfl
theorem s7_14 : yesC env2 1000 100 6 [.int .i64 7, symAt 2 15 14] 1 = true := by kernel_rfl
theorem s7_15 : yesC env2 1000 100 6 [.int .i64 7, symAt 2 15 15] 1 = true := by kernel_rfl
theorem s7 : ∀ k, k ≤ 15 → yesC env2 1000 100 6 [.int .i64 7, symAt 2 15 k] 1 = true
  | 0, _ => s7_0
  | 1, _ => s7_1
  | 2, _ => s7_2
  | 3, _ => s7_3
  | 4, _ => s7_4
  | 5, _ => s7_5
  | 6, _ => s7_6
  | 7, _ => s7_7
  | 8, _ => s7_8
  | 9, _ => s7_9
  | 10, _ => s7_10
  | 11, _ => s7_11
  | 12, _ => s7_12
  | 13, _ => s7_13
  | 14, _ => s7_14
  | 15, _ => s7_15
  | k + 16, h => by omega
end Go.Proofs.YtigeegdnhmgkbaaGreat.Cl
