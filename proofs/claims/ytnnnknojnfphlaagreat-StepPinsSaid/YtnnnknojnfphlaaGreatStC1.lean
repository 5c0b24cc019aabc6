/-
  Some of the law's cases, by the machine.
-/
import Derived.Test.YtnnnknojnfphlaaGreatStE
namespace Go.Proofs.YtnnnknojnfphlaaGreat.Cl
open Go Go.Cm
theorem p1_0 : yesC envP 1000 100 3 [symAt 2 15 1, symAt 2 15 0] 1 = true := by kernel_rfl
theorem p7_0 : yesC envP 1000 100 3 [symAt 2 15 7, symAt 2 15 0] 1 = true := by kernel_rfl
theorem p13_0 : yesC envP 1000 100 3 [symAt 2 15 13, symAt 2 15 0] 1 = true := by kernel_rfl
theorem p3_1 : yesC envP 1000 100 3 [symAt 2 15 3, symAt 2 15 1] 1 = true := by kernel_rfl
theorem p9_1 : yesC envP 1000 100 3 [symAt 2 15 9, symAt 2 15 1] 1 = true := by kernel_rfl
theorem p15_1 : yesC envP 1000 100 3 [symAt 2 15 15, symAt 2 15 1] 1 = true := by kernel_rfl
theorem p5_2 : yesC envP 1000 100 3 [symAt 2 15 5, symAt 2 15 2] 1 = true := by kernel_rfl
theorem p11_2 : yesC envP 1000 100 3 [symAt 2 15 11, symAt 2 15 2] 1 = true := by kernel_rfl
theorem p1_3 : yesC envP 1000 100 3 [symAt 2 15 1, symAt 2 15 3] 1 = true := by kernel_rfl
theorem p7_3 : yesC envP 1000 100 3 [symAt 2 15 7, symAt 2 15 3] 1 = true := by kernel_rfl
theorem p13_3 : yesC envP 1000 100 3 [symAt 2 15 13, symAt 2 15 3] 1 = true := by kernel_rfl
theorem p3_4 : yesC envP 1000 100 3 [symAt 2 15 3, symAt 2 15 4] 1 = true := by kernel_rfl
theorem p9_4 : yesC envP 1000 100 3 [symAt 2 15 9, symAt 2 15 4] 1 = true := by kernel_rfl
theorem p15_4 : yesC envP 1000 100 3 [symAt 2 15 15, symAt 2 15 4] 1 = true := by kernel_rfl
theorem p5_5 : yesC envP 1000 100 3 [symAt 2 15 5, symAt 2 15 5] 1 = true := by kernel_rfl
theorem p11_5 : yesC envP 1000 100 3 [symAt 2 15 11, symAt 2 15 5] 1 = true := by kernel_rfl
theorem p1_6 : yesC envP 1000 100 3 [symAt 2 15 1, symAt 2 15 6] 1 = true := by kernel_rfl
theorem p7_6 : yesC envP 1000 100 3 [symAt 2 15 7, symAt 2 15 6] 1 = true := by kernel_rfl
theorem p13_6 : yesC envP 1000 100 3 [symAt 2 15 13, symAt 2 15 6] 1 = true := by kernel_rfl
theorem p3_7 : yesC envP 1000 100 3 [symAt 2 15 3, symAt 2 15 7] 1 = true := by kernel_rfl
theorem p9_7 : yesC envP 1000 100 3 [symAt 2 15 9, symAt 2 15 7] 1 = true := by kernel_rfl
theorem p15_7 : yesC envP 1000 100 3 [symAt 2 15 15, symAt 2 15 7] 1 = true := by kernel_rfl
theorem p5_8 : yesC envP 1000 100 3 [symAt 2 15 5, symAt 2 15 8] 1 = true := by kernel_rfl
theorem p11_8 : yesC envP 1000 100 3 [symAt 2 15 11, symAt 2 15 8] 1 = true := by kernel_rfl
theorem p1_9 : yesC envP 1000 100 3 [symAt 2 15 1, symAt 2 15 9] 1 = true := by kernel_rfl
theorem p7_9 : yesC envP 1000 100 3 [symAt 2 15 7, symAt 2 15 9] 1 = true := by kernel_rfl
theorem p13_9 : yesC envP 1000 100 3 [symAt 2 15 13, symAt 2 15 9] 1 = true := by kernel_rfl
theorem p3_10 : yesC envP 1000 100 3 [symAt 2 15 3, symAt 2 15 10] 1 = true := by kernel_rfl
theorem p9_10 : yesC envP 1000 100 3 [symAt 2 15 9, symAt 2 15 10] 1 = true := by kernel_rfl
theorem p15_10 : yesC envP 1000 100 3 [symAt 2 15 15, symAt 2 15 10] 1 = true := by kernel_rfl
theorem p5_11 : yesC envP 1000 100 3 [symAt 2 15 5, symAt 2 15 11] 1 = true := by kernel_rfl
theorem p11_11 : yesC envP 1000 100 3 [symAt 2 15 11, symAt 2 15 11] 1 = true := by kernel_rfl
theorem p1_12 : yesC envP 1000 100 3 [symAt 2 15 1, symAt 2 15 12] 1 = true := by kernel_rfl
theorem p7_12 : yesC envP 1000 100 3 [symAt 2 15 7, symAt 2 15 12] 1 = true := by kernel_rfl
theorem p13_12 : yesC envP 1000 100 3 [symAt 2 15 13, symAt 2 15 12] 1 = true := by kernel_rfl
theorem p3_13 : yesC envP 1000 100 3 [symAt 2 15 3, symAt 2 15 13] 1 = true := by kernel_rfl
theorem p9_13 : yesC envP 1000 100 3 [symAt 2 15 9, symAt 2 15 13] 1 = true := by kernel_rfl
theorem p15_13 : yesC envP 1000 100 3 [symAt 2 15 15, symAt 2 15 13] 1 = true := by kernel_rfl
theorem p5_14 : yesC envP 1000 100 3 [symAt 2 15 5, symAt 2 15 14] 1 = true := by kernel_rfl
theorem p11_14 : yesC envP 1000 100 3 [symAt 2 15 11, symAt 2 15 14] 1 = true := by kernel_rfl
theorem p1_15 : yesC envP 1000 100 3 [symAt 2 15 1, symAt 2 15 15] 1 = true := by kernel_rfl
theorem p7_15 : yesC envP 1000 100 3 [symAt 2 15 7, symAt 2 15 15] 1 = true := by kernel_rfl
theorem p13_15 : yesC envP 1000 100 3 [symAt 2 15 13, symAt 2 15 15] 1 = true := by kernel_rfl
end Go.Proofs.YtnnnknojnfphlaaGreat.Cl
