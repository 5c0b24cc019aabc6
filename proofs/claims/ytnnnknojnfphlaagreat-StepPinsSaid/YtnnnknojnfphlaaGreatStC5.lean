/-
  Some of the law's cases, by the machine.
-/
import Derived.Test.YtnnnknojnfphlaaGreatStE
namespace Go.Proofs.YtnnnknojnfphlaaGreat.Cl
open Go Go.Cm
theorem p5_0 : yesC envP 1000 100 3 [symAt 2 15 5, symAt 2 15 0] 1 = true := by kernel_rfl
theorem p11_0 : yesC envP 1000 100 3 [symAt 2 15 11, symAt 2 15 0] 1 = true := by kernel_rfl
theorem p1_1 : yesC envP 1000 100 3 [symAt 2 15 1, symAt 2 15 1] 1 = true := by kernel_rfl
theorem p7_1 : yesC envP 1000 100 3 [symAt 2 15 7, symAt 2 15 1] 1 = true := by kernel_rfl
theorem p13_1 : yesC envP 1000 100 3 [symAt 2 15 13, symAt 2 15 1] 1 = true := by kernel_rfl
theorem p3_2 : yesC envP 1000 100 3 [symAt 2 15 3, symAt 2 15 2] 1 = true := by kernel_rfl
theorem p9_2 : yesC envP 1000 100 3 [symAt 2 15 9, symAt 2 15 2] 1 = true := by kernel_rfl
theorem p15_2 : yesC envP 1000 100 3 [symAt 2 15 15, symAt 2 15 2] 1 = true := by kernel_rfl
theorem p5_3 : yesC envP 1000 100 3 [symAt 2 15 5, symAt 2 15 3] 1 = true := by kernel_rfl
theorem p11_3 : yesC envP 1000 100 3 [symAt 2 15 11, symAt 2 15 3] 1 = true := by kernel_rfl
theorem p1_4 : yesC envP 1000 100 3 [symAt 2 15 1, symAt 2 15 4] 1 = true := by kernel_rfl
theorem p7_4 : yesC envP 1000 100 3 [symAt 2 15 7, symAt 2 15 4] 1 = true := by kernel_rfl
theorem p13_4 : yesC envP 1000 100 3 [symAt 2 15 13, symAt 2 15 4] 1 = true := by kernel_rfl
theorem p3_5 : yesC envP 1000 100 3 [symAt 2 15 3, symAt 2 15 5] 1 = true := by kernel_rfl
theorem p9_5 : yesC envP 1000 100 3 [symAt 2 15 9, symAt 2 15 5] 1 = true := by kernel_rfl
theorem p15_5 : yesC envP 1000 100 3 [symAt 2 15 15, symAt 2 15 5] 1 = true := by kernel_rfl
theorem p5_6 : yesC envP 1000 100 3 [symAt 2 15 5, symAt 2 15 6] 1 = true := by kernel_rfl
theorem p11_6 : yesC envP 1000 100 3 [symAt 2 15 11, symAt 2 15 6] 1 = true := by kernel_rfl
theorem p1_7 : yesC envP 1000 100 3 [symAt 2 15 1, symAt 2 15 7] 1 = true := by kernel_rfl
theorem p7_7 : yesC envP 1000 100 3 [symAt 2 15 7, symAt 2 15 7] 1 = true := by kernel_rfl
theorem p13_7 : yesC envP 1000 100 3 [symAt 2 15 13, symAt 2 15 7] 1 = true := by kernel_rfl
theorem p3_8 : yesC envP 1000 100 3 [symAt 2 15 3, symAt 2 15 8] 1 = true := by kernel_rfl
theorem p9_8 : yesC envP 1000 100 3 [symAt 2 15 9, symAt 2 15 8] 1 = true := by kernel_rfl
theorem p15_8 : yesC envP 1000 100 3 [symAt 2 15 15, symAt 2 15 8] 1 = true := by kernel_rfl
theorem p5_9 : yesC envP 1000 100 3 [symAt 2 15 5, symAt 2 15 9] 1 = true := by kernel_rfl
theorem p11_9 : yesC envP 1000 100 3 [symAt 2 15 11, symAt 2 15 9] 1 = true := by kernel_rfl
theorem p1_10 : yesC envP 1000 100 3 [symAt 2 15 1, symAt 2 15 10] 1 = true := by kernel_rfl
theorem p7_10 : yesC envP 1000 100 3 [symAt 2 15 7, symAt 2 15 10] 1 = true := by kernel_rfl
theorem p13_10 : yesC envP 1000 100 3 [symAt 2 15 13, symAt 2 15 10] 1 = true := by kernel_rfl
theorem p3_11 : yesC envP 1000 100 3 [symAt 2 15 3, symAt 2 15 11] 1 = true := by kernel_rfl
theorem p9_11 : yesC envP 1000 100 3 [symAt 2 15 9, symAt 2 15 11] 1 = true := by kernel_rfl
theorem p15_11 : yesC envP 1000 100 3 [symAt 2 15 15, symAt 2 15 11] 1 = true := by kernel_rfl
theorem p5_12 : yesC envP 1000 100 3 [symAt 2 15 5, symAt 2 15 12] 1 = true := by kernel_rfl
theorem p11_12 : yesC envP 1000 100 3 [symAt 2 15 11, symAt 2 15 12] 1 = true := by kernel_rfl
theorem p1_13 : yesC envP 1000 100 3 [symAt 2 15 1, symAt 2 15 13] 1 = true := by kernel_rfl
theorem p7_13 : yesC envP 1000 100 3 [symAt 2 15 7, symAt 2 15 13] 1 = true := by kernel_rfl
theorem p13_13 : yesC envP 1000 100 3 [symAt 2 15 13, symAt 2 15 13] 1 = true := by kernel_rfl
theorem p3_14 : yesC envP 1000 100 3 [symAt 2 15 3, symAt 2 15 14] 1 = true := by kernel_rfl
theorem p9_14 : yesC envP 1000 100 3 [symAt 2 15 9, symAt 2 15 14] 1 = true := by kernel_rfl
theorem p15_14 : yesC envP 1000 100 3 [symAt 2 15 15, symAt 2 15 14] 1 = true := by kernel_rfl
theorem p5_15 : yesC envP 1000 100 3 [symAt 2 15 5, symAt 2 15 15] 1 = true := by kernel_rfl
theorem p11_15 : yesC envP 1000 100 3 [symAt 2 15 11, symAt 2 15 15] 1 = true := by kernel_rfl
end Go.Proofs.YtnnnknojnfphlaaGreat.Cl
