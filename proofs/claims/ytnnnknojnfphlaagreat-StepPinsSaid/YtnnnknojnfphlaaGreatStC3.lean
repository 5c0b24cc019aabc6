/-
  Some of the law's cases, by the machine.
-/
import Derived.Test.YtnnnknojnfphlaaGreatStE
namespace Go.Proofs.YtnnnknojnfphlaaGreat.Cl
open Go Go.Cm
theorem p3_0 : yesC envP 1000 100 3 [symAt 2 15 3, symAt 2 15 0] 1 = true := by kernel_rfl
theorem p9_0 : yesC envP 1000 100 3 [symAt 2 15 9, symAt 2 15 0] 1 = true := by kernel_rfl
theorem p15_0 : yesC envP 1000 100 3 [symAt 2 15 15, symAt 2 15 0] 1 = true := by kernel_rfl
theorem p5_1 : yesC envP 1000 100 3 [symAt 2 15 5, symAt 2 15 1] 1 = true := by kernel_rfl
theorem p11_1 : yesC envP 1000 100 3 [symAt 2 15 11, symAt 2 15 1] 1 = true := by kernel_rfl
theorem p1_2 : yesC envP 1000 100 3 [symAt 2 15 1, symAt 2 15 2] 1 = true := by kernel_rfl
theorem p7_2 : yesC envP 1000 100 3 [symAt 2 15 7, symAt 2 15 2] 1 = true := by kernel_rfl
theorem p13_2 : yesC envP 1000 100 3 [symAt 2 15 13, symAt 2 15 2] 1 = true := by kernel_rfl
theorem p3_3 : yesC envP 1000 100 3 [symAt 2 15 3, symAt 2 15 3] 1 = true := by kernel_rfl
theorem p9_3 : yesC envP 1000 100 3 [symAt 2 15 9, symAt 2 15 3] 1 = true := by kernel_rfl
theorem p15_3 : yesC envP 1000 100 3 [symAt 2 15 15, symAt 2 15 3] 1 = true := by kernel_rfl
theorem p5_4 : yesC envP 1000 100 3 [symAt 2 15 5, symAt 2 15 4] 1 = true := by kernel_rfl
theorem p11_4 : yesC envP 1000 100 3 [symAt 2 15 11, symAt 2 15 4] 1 = true := by kernel_rfl
theorem p1_5 : yesC envP 1000 100 3 [symAt 2 15 1, symAt 2 15 5] 1 = true := by kernel_rfl
theorem p7_5 : yesC envP 1000 100 3 [symAt 2 15 7, symAt 2 15 5] 1 = true := by kernel_rfl
theorem p13_5 : yesC envP 1000 100 3 [symAt 2 15 13, symAt 2 15 5] 1 = true := by kernel_rfl
theorem p3_6 : yesC envP 1000 100 3 [symAt 2 15 3, symAt 2 15 6] 1 = true := by kernel_rfl
theorem p9_6 : yesC envP 1000 100 3 [symAt 2 15 9, symAt 2 15 6] 1 = true := by kernel_rfl
theorem p15_6 : yesC envP 1000 100 3 [symAt 2 15 15, symAt 2 15 6] 1 = true := by kernel_rfl
theorem p5_7 : yesC envP 1000 100 3 [symAt 2 15 5, symAt 2 15 7] 1 = true := by kernel_rfl
theorem p11_7 : yesC envP 1000 100 3 [symAt 2 15 11, symAt 2 15 7] 1 = true := by kernel_rfl
theorem p1_8 : yesC envP 1000 100 3 [symAt 2 15 1, symAt 2 15 8] 1 = true := by kernel_rfl
theorem p7_8 : yesC envP 1000 100 3 [symAt 2 15 7, symAt 2 15 8] 1 = true := by kernel_rfl
theorem p13_8 : yesC envP 1000 100 3 [symAt 2 15 13, symAt 2 15 8] 1 = true := by kernel_rfl
theorem p3_9 : yesC envP 1000 100 3 [symAt 2 15 3, symAt 2 15 9] 1 = true := by kernel_rfl
theorem p9_9 : yesC envP 1000 100 3 [symAt 2 15 9, symAt 2 15 9] 1 = true := by kernel_rfl
theorem p15_9 : yesC envP 1000 100 3 [symAt 2 15 15, symAt 2 15 9] 1 = true := by kernel_rfl
theorem p5_10 : yesC envP 1000 100 3 [symAt 2 15 5, symAt 2 15 10] 1 = true := by kernel_rfl
theorem p11_10 : yesC envP 1000 100 3 [symAt 2 15 11, symAt 2 15 10] 1 = true := by kernel_rfl
theorem p1_11 : yesC envP 1000 100 3 [symAt 2 15 1, symAt 2 15 11] 1 = true := by kernel_rfl
theorem p7_11 : yesC envP 1000 100 3 [symAt 2 15 7, symAt 2 15 11] 1 = true := by kernel_rfl
theorem p13_11 : yesC envP 1000 100 3 [symAt 2 15 13, symAt 2 15 11] 1 = true := by kernel_rfl
theorem p3_12 : yesC envP 1000 100 3 [symAt 2 15 3, symAt 2 15 12] 1 = true := by kernel_rfl
theorem p9_12 : yesC envP 1000 100 3 [symAt 2 15 9, symAt 2 15 12] 1 = true := by kernel_rfl
theorem p15_12 : yesC envP 1000 100 3 [symAt 2 15 15, symAt 2 15 12] 1 = true := by kernel_rfl
theorem p5_13 : yesC envP 1000 100 3 [symAt 2 15 5, symAt 2 15 13] 1 = true := by kernel_rfl
theorem p11_13 : yesC envP 1000 100 3 [symAt 2 15 11, symAt 2 15 13] 1 = true := by kernel_rfl
theorem p1_14 : yesC envP 1000 100 3 [symAt 2 15 1, symAt 2 15 14] 1 = true := by kernel_rfl
theorem p7_14 : yesC envP 1000 100 3 [symAt 2 15 7, symAt 2 15 14] 1 = true := by kernel_rfl
theorem p13_14 : yesC envP 1000 100 3 [symAt 2 15 13, symAt 2 15 14] 1 = true := by kernel_rfl
theorem p3_15 : yesC envP 1000 100 3 [symAt 2 15 3, symAt 2 15 15] 1 = true := by kernel_rfl
theorem p9_15 : yesC envP 1000 100 3 [symAt 2 15 9, symAt 2 15 15] 1 = true := by kernel_rfl
theorem p15_15 : yesC envP 1000 100 3 [symAt 2 15 15, symAt 2 15 15] 1 = true := by kernel_rfl
end Go.Proofs.YtnnnknojnfphlaaGreat.Cl
