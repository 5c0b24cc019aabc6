/-
  The law's cases, by the machine.
-/
import Derived.Test.YtigeegdnhmgkbaaGreatScA
namespace Go.Proofs.YtigeegdnhmgkbaaGreat.Cl
open Go Go.Cm
theorem s3_0 : yesC env2 1000 100 6 [.int .i64 3, symAt 2 15 0] 1 = true := by kernel_rfl
theorem s3_1 : yesC env2 1000 100 6 [.int .i64 3, symAt 2 15 1] 1 = true := by kernel_rfl
theorem s3_2 : yesC env2 1000 100 6 [.int .i64 3, symAt 2 15 2] 1 = true := by kernel_rfl
theorem s3_3 : yesC env2 1000 100 6 [.int .i64 3, symAt 2 15 3] 1 = true := by kernel_rfl
theorem s3_4 : yesC env2 1000 100 6 [.int .i64 3, symAt 2 15 4] 1 = true := by kernel_rfl
theorem s3_5 : yesC env2 1000 100 6 [.int .i64 3, symAt 2 15 5] 1 = true := by kernel_rfl
theorem s3_6 : yesC env2 1000 100 6 [.int .i64 3, symAt 2 15 6] 1 = true := by kernel_rfl
theorem s3_7 : yesC env2 1000 100 6 [.int .i64 3, symAt 2 15 7] 1 = true := by kernel_rfl
theorem s3_8 : yesC env2 1000 100 6 [.int .i64 3, symAt 2 15 8] 1 = true := by kernel_rfl
theorem s3_9 : yesC env2 1000 100 6 [.int .i64 3, symAt 2 15 9] 1 = true := by kernel_rfl
theorem s3_10 : yesC env2 1000 100 6 [.int .i64 3, symAt 2 15 10] 1 = true := by kernel_rfl
theorem s3_11 : yesC env2 1000 100 6 [.int .i64 3, symAt 2 15 11] 1 = true := by kernel_rfl
theorem s3_12 : yesC env2 1000 100 6 [.int .i64 3, symAt 2 15 12] 1 = true := by kernel_rfl
theorem s3_13 : yesC env2 1000 100 6 [.int .i64 3, symAt 2 15 13] 1 = true := by kernel_rfl
theorem s3_14 : yesC env2 1000 100 6 [.int .i64 3, symAt 2 15 14] 1 = true := by kernel_rfl
theorem s3_15 : yesC env2 1000 100 6 [.int .i64 3, symAt 2 15 15] 1 = true := by kernel_rfl
theorem s3 : ∀ k, k ≤ 15 → yesC env2 1000 100 6 [.int .i64 3, symAt 2 15 k] 1 = true
  | 0, _ => s3_0
  | 1, _ => s3_1
  | 2, _ => s3_2
  | 3, _ => s3_3
  | 4, _ => s3_4
  | 5, _ => s3_5
  | 6, _ => s3_6
  | 7, _ => s3_7
  | 8, _ => s3_8
  | 9, _ => s3_9
  | 10, _ => s3_10
  | 11, _ => s3_11
  | 12, _ => s3_12
  | 13, _ => s3_13
  | 14, _ => s3_14
  | 15, _ => s3_15
  | k + 16, h => by omega
end Go.Proofs.YtigeegdnhmgkbaaGreat.Cl
