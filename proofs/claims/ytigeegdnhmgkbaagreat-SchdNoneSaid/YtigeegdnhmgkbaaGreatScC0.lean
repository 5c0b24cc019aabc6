/-
  The law's cases, by the machine.
-/
import Derived.Test.YtigeegdnhmgkbaaGreatScA
namespace Go.Proofs.YtigeegdnhmgkbaaGreat.Cl
open Go Go.Cm
theorem s0_0 : yesC env2 1000 100 6 [.int .i64 0, symAt 2 15 0] 1 = true := by kernel_rfl
theorem s0_1 : yesC env2 1000 100 6 [.int .i64 0, symAt 2 15 1] 1 = true := by kernel_rfl
theorem s0_2 : yesC env2 1000 100 6 [.int .i64 0, symAt 2 15 2] 1 = true := by kernel_rfl
theorem s0_3 : yesC env2 1000 100 6 [.int .i64 0, symAt 2 15 3] 1 = true := by kernel_rfl
theorem s0_4 : yesC env2 1000 100 6 [.int .i64 0, symAt 2 15 4] 1 = true := by kernel_rfl
theorem s0_5 : yesC env2 1000 100 6 [.int .i64 0, symAt 2 15 5] 1 = true := by kernel_rfl
theorem s0_6 : yesC env2 1000 100 6 [.int .i64 0, symAt 2 15 6] 1 = true := by kernel_rfl
theorem s0_7 : yesC env2 1000 100 6 [.int .i64 0, symAt 2 15 7] 1 = true := by kernel_rfl
theorem s0_8 : yesC env2 1000 100 6 [.int .i64 0, symAt 2 15 8] 1 = true := by kernel_rfl
theorem s0_9 : yesC env2 1000 100 6 [.int .i64 0, symAt 2 15 9] 1 = true := by kernel_rfl
theorem s0_10 : yesC env2 1000 100 6 [.int .i64 0, symAt 2 15 10] 1 = true := by kernel_rfl
theorem s0_11 : yesC env2 1000 100 6 [.int .i64 0, symAt 2 15 11] 1 = true := by kernel_rfl
theorem s0_12 : yesC env2 1000 100 6 [.int .i64 0, symAt 2 15 12] 1 = true := by kernel_rfl
theorem s0_13 : yesC env2 1000 100 6 [.int .i64 0, symAt 2 15 13] 1 = true := by kernel_rfl
theorem s0_14 : yesC env2 1000 100 6 [.int .i64 0, symAt 2 15 14] 1 = true := by kernel_rfl
theorem s0_15 : yesC env2 1000 100 6 [.int .i64 0, symAt 2 15 15] 1 = true := by kernel_rfl
theorem s0 : ∀ k, k ≤ 15 → yesC env2 1000 100 6 [.int .i64 0, symAt 2 15 k] 1 = true
  | 0, _ => s0_0
  | 1, _ => s0_1
  | 2, _ => s0_2
  | 3, _ => s0_3
  | 4, _ => s0_4
  | 5, _ => s0_5
  | 6, _ => s0_6
  | 7, _ => s0_7
  | 8, _ => s0_8
  | 9, _ => s0_9
  | 10, _ => s0_10
  | 11, _ => s0_11
  | 12, _ => s0_12
  | 13, _ => s0_13
  | 14, _ => s0_14
  | 15, _ => s0_15
  | k + 16, h => by omega
end Go.Proofs.YtigeegdnhmgkbaaGreat.Cl
