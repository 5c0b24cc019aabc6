/-
  Some of the law's cases, by the machine.
-/
import Derived.Test.YtnnnknojnfphlaaGreatMuE
namespace Go.Proofs.YtnnnknojnfphlaaGreat.Cl
open Go Go.Cm
theorem u2_0 : yesC envU 1000 100 4 [symAt 2 15 2, symAt 2 15 0] 1 = true := by kernel_rfl
theorem u6_0 : yesC envU 1000 100 4 [symAt 2 15 6, symAt 2 15 0] 1 = true := by kernel_rfl
theorem u10_0 : yesC envU 1000 100 4 [symAt 2 15 10, symAt 2 15 0] 1 = true := by kernel_rfl
theorem u14_0 : yesC envU 1000 100 4 [symAt 2 15 14, symAt 2 15 0] 1 = true := by kernel_rfl
theorem u2_1 : yesC envU 1000 100 4 [symAt 2 15 2, symAt 2 15 1] 1 = true := by kernel_rfl
theorem u6_1 : yesC envU 1000 100 4 [symAt 2 15 6, symAt 2 15 1] 1 = true := by kernel_rfl
theorem u10_1 : yesC envU 1000 100 4 [symAt 2 15 10, symAt 2 15 1] 1 = true := by kernel_rfl
theorem u14_1 : yesC envU 1000 100 4 [symAt 2 15 14, symAt 2 15 1] 1 = true := by kernel_rfl
theorem u2_2 : yesC envU 1000 100 4 [symAt 2 15 2, symAt 2 15 2] 1 = true := by kernel_rfl
theorem u6_2 : yesC envU 1000 100 4 [symAt 2 15 6, symAt 2 15 2] 1 = true := by kernel_rfl
theorem u10_2 : yesC envU 1000 100 4 [symAt 2 15 10, symAt 2 15 2] 1 = true := by kernel_rfl
theorem u14_2 : yesC envU 1000 100 4 [symAt 2 15 14, symAt 2 15 2] 1 = true := by kernel_rfl
theorem u2_3 : yesC envU 1000 100 4 [symAt 2 15 2, symAt 2 15 3] 1 = true := by kernel_rfl
theorem u6_3 : yesC envU 1000 100 4 [symAt 2 15 6, symAt 2 15 3] 1 = true := by kernel_rfl
theorem u10_3 : yesC envU 1000 100 4 [symAt 2 15 10, symAt 2 15 3] 1 = true := by kernel_rfl
theorem u14_3 : yesC envU 1000 100 4 [symAt 2 15 14, symAt 2 15 3] 1 = true := by kernel_rfl
theorem u2_4 : yesC envU 1000 100 4 [symAt 2 15 2, symAt 2 15 4] 1 = true := by kernel_rfl
theorem u6_4 : yesC envU 1000 100 4 [symAt 2 15 6, symAt 2 15 4] 1 = true := by kernel_rfl
theorem u10_4 : yesC envU 1000 100 4 [symAt 2 15 10, symAt 2 15 4] 1 = true := by kernel_rfl
theorem u14_4 : yesC envU 1000 100 4 [symAt 2 15 14, symAt 2 15 4] 1 = true := by kernel_rfl
theorem u2_5 : yesC envU 1000 100 4 [symAt 2 15 2, symAt 2 15 5] 1 = true := by kernel_rfl
theorem u6_5 : yesC envU 1000 100 4 [symAt 2 15 6, symAt 2 15 5] 1 = true := by kernel_rfl
theorem u10_5 : yesC envU 1000 100 4 [symAt 2 15 10, symAt 2 15 5] 1 = true := by kernel_rfl
theorem u14_5 : yesC envU 1000 100 4 [symAt 2 15 14, symAt 2 15 5] 1 = true := by kernel_rfl
theorem u2_6 : yesC envU 1000 100 4 [symAt 2 15 2, symAt 2 15 6] 1 = true := by kernel_rfl
theorem u6_6 : yesC envU 1000 100 4 [symAt 2 15 6, symAt 2 15 6] 1 = true := by kernel_rfl
theorem u10_6 : yesC envU 1000 100 4 [symAt 2 15 10, symAt 2 15 6] 1 = true := by kernel_rfl
theorem u14_6 : yesC envU 1000 100 4 [symAt 2 15 14, symAt 2 15 6] 1 = true := by kernel_rfl
theorem u2_7 : yesC envU 1000 100 4 [symAt 2 15 2, symAt 2 15 7] 1 = true := by kernel_rfl
theorem u6_7 : yesC envU 1000 100 4 [symAt 2 15 6, symAt 2 15 7] 1 = true := by kernel_rfl
theorem u10_7 : yesC envU 1000 100 4 [symAt 2 15 10, symAt 2 15 7] 1 = true := by kernel_rfl
theorem u14_7 : yesC envU 1000 100 4 [symAt 2 15 14, symAt 2 15 7] 1 = true := by kernel_rfl
theorem u2_8 : yesC envU 1000 100 4 [symAt 2 15 2, symAt 2 15 8] 1 = true := by kernel_rfl
theorem u6_8 : yesC envU 1000 100 4 [symAt 2 15 6, symAt 2 15 8] 1 = true := by kernel_rfl
theorem u10_8 : yesC envU 1000 100 4 [symAt 2 15 10, symAt 2 15 8] 1 = true := by kernel_rfl
theorem u14_8 : yesC envU 1000 100 4 [symAt 2 15 14, symAt 2 15 8] 1 = true := by kernel_rfl
theorem u2_9 : yesC envU 1000 100 4 [symAt 2 15 2, symAt 2 15 9] 1 = true := by kernel_rfl
theorem u6_9 : yesC envU 1000 100 4 [symAt 2 15 6, symAt 2 15 9] 1 = true := by kernel_rfl
theorem u10_9 : yesC envU 1000 100 4 [symAt 2 15 10, symAt 2 15 9] 1 = true := by kernel_rfl
theorem u14_9 : yesC envU 1000 100 4 [symAt 2 15 14, symAt 2 15 9] 1 = true := by kernel_rfl
theorem u2_10 : yesC envU 1000 100 4 [symAt 2 15 2, symAt 2 15 10] 1 = true := by kernel_rfl
theorem u6_10 : yesC envU 1000 100 4 [symAt 2 15 6, symAt 2 15 10] 1 = true := by kernel_rfl
theorem u10_10 : yesC envU 1000 100 4 [symAt 2 15 10, symAt 2 15 10] 1 = true := by kernel_rfl
theorem u14_10 : yesC envU 1000 100 4 [symAt 2 15 14, symAt 2 15 10] 1 = true := by kernel_rfl
theorem u2_11 : yesC envU 1000 100 4 [symAt 2 15 2, symAt 2 15 11] 1 = true := by kernel_rfl
theorem u6_11 : yesC envU 1000 100 4 [symAt 2 15 6, symAt 2 15 11] 1 = true := by kernel_rfl
theorem u10_11 : yesC envU 1000 100 4 [symAt 2 15 10, symAt 2 15 11] 1 = true := by kernel_rfl
theorem u14_11 : yesC envU 1000 100 4 [symAt 2 15 14, symAt 2 15 11] 1 = true := by kernel_rfl
theorem u2_12 : yesC envU 1000 100 4 [symAt 2 15 2, symAt 2 15 12] 1 = true := by kernel_rfl
theorem u6_12 : yesC envU 1000 100 4 [symAt 2 15 6, symAt 2 15 12] 1 = true := by kernel_rfl
theorem u10_12 : yesC envU 1000 100 4 [symAt 2 15 10, symAt 2 15 12] 1 = true := by kernel_rfl
theorem u14_12 : yesC envU 1000 100 4 [symAt 2 15 14, symAt 2 15 12] 1 = true := by kernel_rfl
theorem u2_13 : yesC envU 1000 100 4 [symAt 2 15 2, symAt 2 15 13] 1 = true := by kernel_rfl
theorem u6_13 : yesC envU 1000 100 4 [symAt 2 15 6, symAt 2 15 13] 1 = true := by kernel_rfl
theorem u10_13 : yesC envU 1000 100 4 [symAt 2 15 10, symAt 2 15 13] 1 = true := by kernel_rfl
theorem u14_13 : yesC envU 1000 100 4 [symAt 2 15 14, symAt 2 15 13] 1 = true := by kernel_rfl
theorem u2_14 : yesC envU 1000 100 4 [symAt 2 15 2, symAt 2 15 14] 1 = true := by kernel_rfl
theorem u6_14 : yesC envU 1000 100 4 [symAt 2 15 6, symAt 2 15 14] 1 = true := by kernel_rfl
theorem u10_14 : yesC envU 1000 100 4 [symAt 2 15 10, symAt 2 15 14] 1 = true := by kernel_rfl
theorem u14_14 : yesC envU 1000 100 4 [symAt 2 15 14, symAt 2 15 14] 1 = true := by kernel_rfl
theorem u2_15 : yesC envU 1000 100 4 [symAt 2 15 2, symAt 2 15 15] 1 = true := by kernel_rfl
theorem u6_15 : yesC envU 1000 100 4 [symAt 2 15 6, symAt 2 15 15] 1 = true := by kernel_rfl
theorem u10_15 : yesC envU 1000 100 4 [symAt 2 15 10, symAt 2 15 15] 1 = true := by kernel_rfl
theorem u14_15 : yesC envU 1000 100 4 [symAt 2 15 14, symAt 2 15 15] 1 = true := by kernel_rfl
end Go.Proofs.YtnnnknojnfphlaaGreat.Cl
