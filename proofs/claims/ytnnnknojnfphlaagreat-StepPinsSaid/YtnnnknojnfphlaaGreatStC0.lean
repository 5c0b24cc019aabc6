/-
  Some of the law's cases, by the machine.
-/
import Derived.Test.YtnnnknojnfphlaaGreatStE
namespace Go.Proofs.YtnnnknojnfphlaaGreat.Cl
open Go Go.Cm
theorem p0_0 : yesC envP 1000 100 3 [symAt 2 15 0, symAt 2 15 0] 1 = true := by kernel_rfl
theorem p6_0 : yesC envP 1000 100 3 [symAt 2 15 6, symAt 2 15 0] 1 = true := by kernel_rfl
theorem p12_0 : yesC envP 1000 100 3 [symAt 2 15 12, symAt 2 15 0] 1 = true := by kernel_rfl
theorem p2_1 : yesC envP 1000 100 3 [symAt 2 15 2, symAt 2 15 1] 1 = true := by kernel_rfl
theorem p8_1 : yesC envP 1000 100 3 [symAt 2 15 8, symAt 2 15 1] 1 = true := by kernel_rfl
theorem p14_1 : yesC envP 1000 100 3 [symAt 2 15 14, symAt 2 15 1] 1 = true := by kernel_rfl
theorem p4_2 : yesC envP 1000 100 3 [symAt 2 15 4, symAt 2 15 2] 1 = true := by kernel_rfl
theorem p10_2 : yesC envP 1000 100 3 [symAt 2 15 10, symAt 2 15 2] 1 = true := by kernel_rfl
theorem p0_3 : yesC envP 1000 100 3 [symAt 2 15 0, symAt 2 15 3] 1 = true := by kernel_rfl
theorem p6_3 : yesC envP 1000 100 3 [symAt 2 15 6, symAt 2 15 3] 1 = true := by kernel_rfl
theorem p12_3 : yesC envP 1000 100 3 [symAt 2 15 12, symAt 2 15 3] 1 = true := by kernel_rfl
theorem p2_4 : yesC envP 1000 100 3 [symAt 2 15 2, symAt 2 15 4] 1 = true := by kernel_rfl
theorem p8_4 : yesC envP 1000 100 3 [symAt 2 15 8, symAt 2 15 4] 1 = true := by kernel_rfl
theorem p14_4 : yesC envP 1000 100 3 [symAt 2 15 14, symAt 2 15 4] 1 = true := by kernel_rfl
theorem p4_5 : yesC envP 1000 100 3 [symAt 2 15 4, symAt 2 15 5] 1 = true := by kernel_rfl
theorem p10_5 : yesC envP 1000 100 3 [symAt 2 15 10, symAt 2 15 5] 1 = true := by kernel_rfl
theorem p0_6 : yesC envP 1000 100 3 [symAt 2 15 0, symAt 2 15 6] 1 = true := by kernel_rfl
theorem p6_6 : yesC envP 1000 100 3 [symAt 2 15 6, symAt 2 15 6] 1 = true := by kernel_rfl
theorem p12_6 : yesC envP 1000 100 3 [symAt 2 15 12, symAt 2 15 6] 1 = true := by kernel_rfl
theorem p2_7 : yesC envP 1000 100 3 [symAt 2 15 2, symAt 2 15 7] 1 = true := by kernel_rfl
theorem p8_7 : yesC envP 1000 100 3 [symAt 2 15 8, symAt 2 15 7] 1 = true := by kernel_rfl
theorem p14_7 : yesC envP 1000 100 3 [symAt 2 15 14, symAt 2 15 7] 1 = true := by kernel_rfl
theorem p4_8 : yesC envP 1000 100 3 [symAt 2 15 4, symAt 2 15 8] 1 = true := by kernel_rfl
theorem p10_8 : yesC envP 1000 100 3 [symAt 2 15 10, symAt 2 15 8] 1 = true := by kernel_rfl
theorem p0_9 : yesC envP 1000 100 3 [symAt 2 15 0, symAt 2 15 9] 1 = true := by kernel_rfl
theorem p6_9 : yesC envP 1000 100 3 [symAt 2 15 6, symAt 2 15 9] 1 = true := by kernel_rfl
theorem p12_9 : yesC envP 1000 100 3 [symAt 2 15 12, symAt 2 15 9] 1 = true := by kernel_rfl
theorem p2_10 : yesC envP 1000 100 3 [symAt 2 15 2, symAt 2 15 10] 1 = true := by kernel_rfl
theorem p8_10 : yesC envP 1000 100 3 [symAt 2 15 8, symAt 2 15 10] 1 = true := by kernel_rfl
theorem p14_10 : yesC envP 1000 100 3 [symAt 2 15 14, symAt 2 15 10] 1 = true := by kernel_rfl
theorem p4_11 : yesC envP 1000 100 3 [symAt 2 15 4, symAt 2 15 11] 1 = true := by kernel_rfl
theorem p10_11 : yesC envP 1000 100 3 [symAt 2 15 10, symAt 2 15 11] 1 = true := by kernel_rfl
theorem p0_12 : yesC envP 1000 100 3 [symAt 2 15 0, symAt 2 15 12] 1 = true := by kernel_rfl
theorem p6_12 : yesC envP 1000 100 3 [symAt 2 15 6, symAt 2 15 12] 1 = true := by kernel_rfl
theorem p12_12 : yesC envP 1000 100 3 [symAt 2 15 12, symAt 2 15 12] 1 = true := by kernel_rfl
theorem p2_13 : yesC envP 1000 100 3 [symAt 2 15 2, symAt 2 15 13] 1 = true := by kernel_rfl
theorem p8_13 : yesC envP 1000 100 3 [symAt 2 15 8, symAt 2 15 13] 1 = true := by kernel_rfl
theorem p14_13 : yesC envP 1000 100 3 [symAt 2 15 14, symAt 2 15 13] 1 = true := by kernel_rfl
theorem p4_14 : yesC envP 1000 100 3 [symAt 2 15 4, symAt 2 15 14] 1 = true := by kernel_rfl
theorem p10_14 : yesC envP 1000 100 3 [symAt 2 15 10, symAt 2 15 14] 1 = true := by kernel_rfl
theorem p0_15 : yesC envP 1000 100 3 [symAt 2 15 0, symAt 2 15 15] 1 = true := by kernel_rfl
theorem p6_15 : yesC envP 1000 100 3 [symAt 2 15 6, symAt 2 15 15] 1 = true := by kernel_rfl
theorem p12_15 : yesC envP 1000 100 3 [symAt 2 15 12, symAt 2 15 15] 1 = true := by kernel_rfl
end Go.Proofs.YtnnnknojnfphlaaGreat.Cl
