/-
  The law's cases, by the machine.
-/
import Derived.Test.YtigeegdnhmgkbaaGreatScA
namespace Go.Proofs.YtigeegdnhmgkbaaGreat.Cl
open Go Go.Cm
theorem s4_0 : yesC env2 1000 100 6 [.int .i64 4, symAt 2 15 0] 1 = true := by kernel_rfl
theorem s4_1 : yesC env2 1000 100 6 [.int .i64 4, symAt 2 15 1] 1 = true := by kernel_rfl
theorem s4_2 : yesC env2 1000 100 6 [.int .i64 4, symAt 2 15 2] 1 = true := by kernel_rfl
theorem s4_3 : yesC env2 1000 100 6 [.int .i64 4, symAt 2 15 3] 1 = true := by kernel_rfl
theorem s4_4 : yesC env2 1000 100 6 [.int .i64 4, symAt 2 15 4] 1 = true := by kernel_rfl
theorem s4_5 : yesC env2 1000 100 6 [.int .i64 4, symAt 2 15 5] 1 = true := by kernel_rfl
theorem s4_6 : yesC env2 1000 100 6 [.int .i64 4, symAt 2 15 6] 1 = true := by kernel_rfl
theorem s4_7 : yesC env2 1000 100 6 [.int .i64 4, symAt 2 15 7] 1 = true := by kernel_rfl
theorem s4_8 : yesC env2 1000 100 6 [.int .i64 4, symAt 2 15 8] 1 = true := by kernel_rfl
theorem s4_9 : yesC env2 1000 100 6 [.int .i64 4, symAt 2 15 9] 1 = true := by kernel_rfl
theorem s4_10 : yesC env2 1000 100 6 [.int .i64 4, symAt 2 15 10] 1 = true := by kernel_rfl
theorem s4_11 : yesC env2 1000 100 6 [.int .i64 4, symAt 2 15 11] 1 = true := by kernel_rfl
theorem s4_12 : yesC env2 1000 100 6 [.int .i64 4, symAt 2 15 12] 1 = true := by kernel_rfl
theorem s4_13 : yesC env2 1000 100 6 [.int .i64 4, symAt 2 15 13] 1 = true := by kernel_rfl
theorem s4_14 : yesC env2 1000 100 6 [.int .i64 4, symAt 2 15 14] 1 = true := by kernel_rfl
theorem s4_15 : yesC env2 1000 100 6 [.int .i64 4, symAt 2 15 15] 1 = true := by kernel_rfl
theorem s4 : ∀ k, k ≤ 15 → yesC env2 1000 100 6 [.int .i64 4, symAt 2 15 k] 1 = true
  | 0, _ => s4_0
  | 1, _ => s4_1
  | 2, _ => s4_2
  | 3, _ => s4_3
  | 4, _ => s4_4
  | 5, _ => s4_5
  | 6, _ => s4_6
  | 7, _ => s4_7
  | 8, _ => s4_8
  | 9, _ => s4_9
  | 10, _ => s4_10
  | 11, _ => s4_11
  | 12, _ => s4_12
  | 13, _ => s4_13
  | 14, _ => s4_14
  | 15, _ => s4_15
  | k + 16, h => by omega
end Go.Proofs.YtigeegdnhmgkbaaGreat.Cl
