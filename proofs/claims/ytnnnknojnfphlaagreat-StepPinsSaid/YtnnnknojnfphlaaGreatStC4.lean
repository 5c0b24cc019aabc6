/-
  Some of the law's cases, by the machine.
-/
import Derived.Test.YtnnnknojnfphlaaGreatStE
namespace Go.Proofs.YtnnnknojnfphlaaGreat.Cl
open Go Go.Cm
theorem p4_0 : yesC envP 1000 100 3 [symAt 2 15 4, symAt 2 15 0] 1 = true := by kernel_rfl
theorem p10_0 : yesC envP 1000 100 3 [symAt 2 15 10, symAt 2 15 0] 1 = true := by kernel_rfl
theorem p0_1 : yesC envP 1000 100 3 [symAt 2 15 0, symAt 2 15 1] 1 = true := by kernel_rfl
theorem p6_1 : yesC envP 1000 100 3 [symAt 2 15 6, symAt 2 15 1] 1 = true := by kernel_rfl
theorem p12_1 : yesC envP 1000 100 3 [symAt 2 15 12, symAt 2 15 1] 1 = true := by kernel_rfl
theorem p2_2 : yesC envP 1000 100 3 [symAt 2 15 2, symAt 2 15 2] 1 = true := by kernel_rfl
theorem p8_2 : yesC envP 1000 100 3 [symAt 2 15 8, symAt 2 15 2] 1 = true := by kernel_rfl
theorem p14_2 : yesC envP 1000 100 3 [symAt 2 15 14, symAt 2 15 2] 1 = true := by kernel_rfl
theorem p4_3 : yesC envP 1000 100 3 [symAt 2 15 4, symAt 2 15 3] 1 = true := by kernel_rfl
theorem p10_3 : yesC envP 1000 100 3 [symAt 2 15 10, symAt 2 15 3] 1 = true := by kernel_rfl
theorem p0_4 : yesC envP 1000 100 3 [symAt 2 15 0, symAt 2 15 4] 1 = true := by kernel_rfl
theorem p6_4 : yesC envP 1000 100 3 [symAt 2 15 6, symAt 2 15 4] 1 = true := by kernel_rfl
theorem p12_4 : yesC envP 1000 100 3 [symAt 2 15 12, symAt 2 15 4] 1 = true := by kernel_rfl
theorem p2_5 : yesC envP 1000 100 3 [symAt 2 15 2, symAt 2 15 5] 1 = true := by kernel_rfl
theorem p8_5 : yesC envP 1000 100 3 [symAt 2 15 8, symAt 2 15 5] 1 = true := by kernel_rfl
theorem p14_5 : yesC envP 1000 100 3 [symAt 2 15 14, symAt 2 15 5] 1 = true := by kernel_rfl
theorem p4_6 : yesC envP 1000 100 3 [symAt 2 15 4, symAt 2 15 6] 1 = true := by kernel_rfl
theorem p10_6 : yesC envP 1000 100 3 [symAt 2 15 10, symAt 2 15 6] 1 = true := by kernel_rfl
theorem p0_7 : yesC envP 1000 100 3 [symAt 2 15 0, symAt 2 15 7] 1 = true := by kernel_rfl
theorem p6_7 : yesC envP 1000 100 3 [symAt 2 15 6, symAt 2 15 7] 1 = true := by kernel_rfl
theorem p12_7 : yesC envP 1000 100 3 [symAt 2 15 12, symAt 2 15 7] 1 = true := by kernel_rfl
theorem p2_8 : yesC envP 1000 100 3 [symAt 2 15 2, symAt 2 15 8] 1 = true := by kernel_rfl
theorem p8_8 : yesC envP 1000 100 3 [symAt 2 15 8, symAt 2 15 8] 1 = true := by kernel_rfl
theorem p14_8 : yesC envP 1000 100 3 [symAt 2 15 14, symAt 2 15 8] 1 = true := by kernel_rfl
theorem p4_9 : yesC envP 1000 100 3 [symAt 2 15 4, symAt 2 15 9] 1 = true := by kernel_rfl
theorem p10_9 : yesC envP 1000 100 3 [symAt 2 15 10, symAt 2 15 9] 1 = true := by kernel_rfl
theorem p0_10 : yesC envP 1000 100 3 [symAt 2 15 0, symAt 2 15 10] 1 = true := by kernel_rfl
theorem p6_10 : yesC envP 1000 100 3 [symAt 2 15 6, symAt 2 15 10] 1 = true := by kernel_rfl
theorem p12_10 : yesC envP 1000 100 3 [symAt 2 15 12, symAt 2 15 10] 1 = true := by kernel_rfl
theorem p2_11 : yesC envP 1000 100 3 [symAt 2 15 2, symAt 2 15 11] 1 = true := by kernel_rfl
theorem p8_11 : yesC envP 1000 100 3 [symAt 2 15 8, symAt 2 15 11] 1 = true := by kernel_rfl
theorem p14_11 : yesC envP 1000 100 3 [symAt 2 15 14, symAt 2 15 11] 1 = true := by kernel_rfl
theorem p4_12 : yesC envP 1000 100 3 [symAt 2 15 4, symAt 2 15 12] 1 = true := by kernel_rfl
theorem p10_12 : yesC envP 1000 100 3 [symAt 2 15 10, symAt 2 15 12] 1 = true := by kernel_rfl
theorem p0_13 : yesC envP 1000 100 3 [symAt 2 15 0, symAt 2 15 13] 1 = true := by kernel_rfl
theorem p6_13 : yesC envP 1000 100 3 [symAt 2 15 6, symAt 2 15 13] 1 = true := by kernel_rfl
theorem p12_13 : yesC envP 1000 100 3 [symAt 2 15 12, symAt 2 15 13] 1 = true := by kernel_rfl
theorem p2_14 : yesC envP 1000 100 3 [symAt 2 15 2, symAt 2 15 14] 1 = true := by kernel_rfl
theorem p8_14 : yesC envP 1000 100 3 [symAt 2 15 8, symAt 2 15 14] 1 = true := by kernel_rfl
theorem p14_14 : yesC envP 1000 100 3 [symAt 2 15 14, symAt 2 15 14] 1 = true := by kernel_rfl
theorem p4_15 : yesC envP 1000 100 3 [symAt 2 15 4, symAt 2 15 15] 1 = true := by kernel_rfl
theorem p10_15 : yesC envP 1000 100 3 [symAt 2 15 10, symAt 2 15 15] 1 = true := by kernel_rfl
end Go.Proofs.YtnnnknojnfphlaaGreat.Cl
