/-
  Some of the law's cases, by the machine.
-/
import Derived.Test.YtnnnknojnfphlaaGreatStE
namespace Go.Proofs.YtnnnknojnfphlaaGreat.Cl
open Go Go.Cm
theorem p2_0 : yesC envP 1000 100 3 [symAt 2 15 2, symAt 2 15 0] 1 = true := by kernel_rfl
theorem p8_0 : yesC envP 1000 100 3 [symAt 2 15 8, symAt 2 15 0] 1 = true := by kernel_rfl
theorem p14_0 : yesC envP 1000 100 3 [symAt 2 15 14, symAt 2 15 0] 1 = true := by kernel_rfl
theorem p4_1 : yesC envP 1000 100 3 [symAt 2 15 4, symAt 2 15 1] 1 = true := by kernel_rfl
theorem p10_1 : yesC envP 1000 100 3 [symAt 2 15 10, symAt 2 15 1] 1 = true := by kernel_rfl
theorem p0_2 : yesC envP 1000 100 3 [symAt 2 15 0, symAt 2 15 2] 1 = true := by kernel_rfl
theorem p6_2 : yesC envP 1000 100 3 [symAt 2 15 6, symAt 2 15 2] 1 = true := by kernel_rfl
theorem p12_2 : yesC envP 1000 100 3 [symAt 2 15 12, symAt 2 15 2] 1 = true := by kernel_rfl
theorem p2_3 : yesC envP 1000 100 3 [symAt 2 15 2, symAt 2 15 3] 1 = true := by kernel_rfl
theorem p8_3 : yesC envP 1000 100 3 [symAt 2 15 8, symAt 2 15 3] 1 = true := by kernel_rfl
theorem p14_3 : yesC envP 1000 100 3 [symAt 2 15 14, symAt 2 15 3] 1 = true := by kernel_rfl
theorem p4_4 : yesC envP 1000 100 3 [symAt 2 15 4, symAt 2 15 4] 1 = true := by kernel_rfl
theorem p10_4 : yesC envP 1000 100 3 [symAt 2 15 10, symAt 2 15 4] 1 = true := by kernel_rfl
theorem p0_5 : yesC envP 1000 100 3 [symAt 2 15 0, symAt 2 15 5] 1 = true := by kernel_rfl
theorem p6_5 : yesC envP 1000 100 3 [symAt 2 15 6, symAt 2 15 5] 1 = true := by kernel_rfl
theorem p12_5 : yesC envP 1000 100 3 [symAt 2 15 12, symAt 2 15 5] 1 = true := by kernel_rfl
theorem p2_6 : yesC envP 1000 100 3 [symAt 2 15 2, symAt 2 15 6] 1 = true := by kernel_rfl
theorem p8_6 : yesC envP 1000 100 3 [symAt 2 15 8, symAt 2 15 6] 1 = true := by kernel_rfl
theorem p14_6 : yesC envP 1000 100 3 [symAt 2 15 14, symAt 2 15 6] 1 = true := by kernel_rfl
theorem p4_7 : yesC envP 1000 100 3 [symAt 2 15 4, symAt 2 15 7] 1 = true := by kernel_rfl
theorem p10_7 : yesC envP 1000 100 3 [symAt 2 15 10, symAt 2 15 7] 1 = true := by kernel_rfl
theorem p0_8 : yesC envP 1000 100 3 [symAt 2 15 0, symAt 2 15 8] 1 = true := by kernel_rfl
theorem p6_8 : yesC envP 1000 100 3 [symAt 2 15 6, symAt 2 15 8] 1 = true := by kernel_rfl
theorem p12_8 : yesC envP 1000 100 3 [symAt 2 15 12, symAt 2 15 8] 1 = true := by kernel_rfl
theorem p2_9 : yesC envP 1000 100 3 [symAt 2 15 2, symAt 2 15 9] 1 = true := by kernel_rfl
theorem p8_9 : yesC envP 1000 100 3 [symAt 2 15 8, symAt 2 15 9] 1 = true := by kernel_rfl
theorem p14_9 : yesC envP 1000 100 3 [symAt 2 15 14, symAt 2 15 9] 1 = true := by kernel_rfl
theorem p4_10 : yesC envP 1000 100 3 [symAt 2 15 4, symAt 2 15 10] 1 = true := by kernel_rfl
theorem p10_10 : yesC envP 1000 100 3 [symAt 2 15 10, symAt 2 15 10] 1 = true := by kernel_rfl
theorem p0_11 : yesC envP 1000 100 3 [symAt 2 15 0, symAt 2 15 11] 1 = true := by kernel_rfl
theorem p6_11 : yesC envP 1000 100 3 [symAt 2 15 6, symAt 2 15 11] 1 = true := by kernel_rfl
theorem p12_11 : yesC envP 1000 100 3 [symAt 2 15 12, symAt 2 15 11] 1 = true := by kernel_rfl
theorem p2_12 : yesC envP 1000 100 3 [symAt 2 15 2, symAt 2 15 12] 1 = true := by kernel_rfl
theorem p8_12 : yesC envP 1000 100 3 [symAt 2 15 8, symAt 2 15 12] 1 = true := by kernel_rfl
theorem p14_12 : yesC envP 1000 100 3 [symAt 2 15 14, symAt 2 15 12] 1 = true := by kernel_rfl
theorem p4_13 : yesC envP 1000 100 3 [symAt 2 15 4, symAt 2 15 13] 1 = true := by kernel_rfl
theorem p10_13 : yesC envP 1000 100 3 [symAt 2 15 10, symAt 2 15 13] 1 = true := by kernel_rfl
theorem p0_14 : yesC envP 1000 100 3 [symAt 2 15 0, symAt 2 15 14] 1 = true := by kernel_rfl
theorem p6_14 : yesC envP 1000 100 3 [symAt 2 15 6, symAt 2 15 14] 1 = true := by kernel_rfl
theorem p12_14 : yesC envP 1000 100 3 [symAt 2 15 12, symAt 2 15 14] 1 = true := by kernel_rfl
theorem p2_15 : yesC envP 1000 100 3 [symAt 2 15 2, symAt 2 15 15] 1 = true := by kernel_rfl
theorem p8_15 : yesC envP 1000 100 3 [symAt 2 15 8, symAt 2 15 15] 1 = true := by kernel_rfl
theorem p14_15 : yesC envP 1000 100 3 [symAt 2 15 14, symAt 2 15 15] 1 = true := by kernel_rfl
end Go.Proofs.YtnnnknojnfphlaaGreat.Cl
