/-
  The law's cases, by the machine.
-/
import Derived.Test.YtigeegdnhmgkbaaGreatScA
namespace Go.Proofs.YtigeegdnhmgkbaaGreat.Cl
open Go Go.Cm
theorem s6_0 : yesC env2 1000 100 6 [.int .i64 6, symAt 2 15 0] 1 = true := by kernel_rfl
theorem s6_1 : yesC env2 1000 100 6 [.int .i64 6, symAt 2 15 1] 1 = true := by kernel_rfl
theorem s6_2 : yesC env2 1000 100 6 [.int .i64 6, symAt 2 15 2] 1 = true := by kernel_rfl
theorem s6_3 : yesC env2 1000 100 6 [.int .i64 6, symAt 2 15 3] 1 = true := by kernel_rfl
theorem s6_4 : yesC env2 1000 100 6 [.int .i64 6, symAt 2 15 4] 1 = true := by kernel_rfl
theorem s6_5 : yesC env2 1000 100 6 [.int .i64 6, symAt 2 15 5] 1 = true := by kernel_rfl
theorem s6_6 : yesC env2 1000 100 6 [.int .i64 6, symAt 2 15 6] 1 = true := by kernel_rfl
theorem s6_7 : yesC env2 1000 100 6 [.int .i64 6, symAt 2 15 7] 1 = true := by kernel_rfl
theorem s6_8 : yesC env2 1000 100 6 [.int .i64 6, symAt 2 15 8] 1 = true := by kernel_rfl
theorem s6_9 : yesC env2 1000 100 6 [.int .i64 6, symAt 2 15 9] 1 = true := by kernel_rfl
theorem s6_10 : yesC env2 1000 100 6 [.int .i64 6, symAt 2 15 10] 1 = true := by kernel_rfl
theorem s6_11 : yesC env2 1000 100 6 [.int .i64 6, symAt 2 15 11] 1 = true := by kernel_rfl
theorem s6_12 : yesC env2 1000 100 6 [.int .i64 6, symAt 2 15 12] 1 = true := by kernel_rfl
theorem s6_13 : yesC env2 1000 100 6 [.int .i64 6, symAt 2 15 13] 1 = true := by kernel_rfl
theorem s6_14 : yesC env2 1000 100 6 [.int .i64 6, symAt 2 15 14] 1 = true := by kernel_rfl
theorem s6_15 : yesC env2 1000 100 6 [.int .i64 6, symAt 2 15 15] 1 = true := by kernel_rfl
theorem s6 : ∀ k, k ≤ 15 → yesC env2 1000 100 6 [.int .i64 6, symAt 2 15 k] 1 = true
  | 0, _ => s6_0
  | 1, _ => s6_1
  | 2, _ => s6_2
  | 3, _ => s6_3
  | 4, _ => s6_4
  | 5, _ => s6_5
  | 6, _ => s6_6
  | 7, _ => s6_7
  | 8, _ => s6_8
  | 9, _ => s6_9
  | 10, _ => s6_10
  | 11, _ => s6_11
  | 12, _ => s6_12
  | 13, _ => s6_13
  | 14, _ => s6_14
  | 15, _ => s6_15
  | k + 16, h => by omega
end Go.Proofs.YtigeegdnhmgkbaaGreat.Cl
