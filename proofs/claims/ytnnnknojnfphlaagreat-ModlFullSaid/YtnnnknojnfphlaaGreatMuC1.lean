/-
  Some of the law's cases, by the machine.
-/
import Derived.Test.YtnnnknojnfphlaaGreatMuE
namespace Go.Proofs.YtnnnknojnfphlaaGreat.Cl
open Go Go.Cm
theorem u1_0 : yesC envU 1000 100 4 [symAt 2 15 1, symAt 2 15 0] 1 = true := by kernel_rfl
theorem u5_0 : yesC envU 1000 100 4 [symAt 2 15 5, symAt 2 15 0] 1 = true := by kernel_rfl
theorem u9_0 : yesC envU 1000 100 4 [symAt 2 15 9, symAt 2 15 0] 1 = true := by kernel_rfl
theorem u13_0 : yesC envU 1000 100 4 [symAt 2 15 13, symAt 2 15 0] 1 = true := by kernel_rfl
theorem u1_1 : yesC envU 1000 100 4 [symAt 2 15 1, symAt 2 15 1] 1 = true := by kernel_rfl
theorem u5_1 : yesC envU 1000 100 4 [symAt 2 15 5, symAt 2 15 1] 1 = true := by kernel_rfl
theorem u9_1 : yesC envU 1000 100 4 [symAt 2 15 9, symAt 2 15 1] 1 = true := by kernel_rfl
theorem u13_1 : yesC envU 1000 100 4 [symAt 2 15 13, symAt 2 15 1] 1 = true := by kernel_rfl
theorem u1_2 : yesC envU 1000 100 4 [symAt 2 15 1, symAt 2 15 2] 1 = true := by kernel_rfl
theorem u5_2 : yesC envU 1000 100 4 [symAt 2 15 5, symAt 2 15 2] 1 = true := by kernel_rfl
theorem u9_2 : yesC envU 1000 100 4 [symAt 2 15 9, symAt 2 15 2] 1 = true := by kernel_rfl
theorem u13_2 : yesC envU 1000 100 4 [symAt 2 15 13, symAt 2 15 2] 1 = true := by kernel_rfl
theorem u1_3 : yesC envU 1000 100 4 [symAt 2 15 1, symAt 2 15 3] 1 = true := by kernel_rfl
theorem u5_3 : yesC envU 1000 100 4 [symAt 2 15 5, symAt 2 15 3] 1 = true := by kernel_rfl
theorem u9_3 : yesC envU 1000 100 4 [symAt 2 15 9, symAt 2 15 3] 1 = true := by kernel_rfl
theorem u13_3 : yesC envU 1000 100 4 [symAt 2 15 13, symAt 2 15 3] 1 = true := by kernel_rfl
theorem u1_4 : yesC envU 1000 100 4 [symAt 2 15 1, symAt 2 15 4] 1 = true := by kernel_rfl
theorem u5_4 : yesC envU 1000 100 4 [symAt 2 15 5, symAt 2 15 4] 1 = true := by kernel_rfl
theorem u9_4 : yesC envU 1000 100 4 [symAt 2 15 9, symAt 2 15 4] 1 = true := by kernel_rfl
theorem u13_4 : yesC envU 1000 100 4 [symAt 2 15 13, symAt 2 15 4] 1 = true := by kernel_rfl
theorem u1_5 : yesC envU 1000 100 4 [symAt 2 15 1, symAt 2 15 5] 1 = true := by kernel_rfl
theorem u5_5 : yesC envU 1000 100 4 [symAt 2 15 5, symAt 2 15 5] 1 = true := by kernel_rfl
theorem u9_5 : yesC envU 1000 100 4 [symAt 2 15 9, symAt 2 15 5] 1 = true := by kernel_rfl
theorem u13_5 : yesC envU 1000 100 4 [symAt 2 15 13, symAt 2 15 5] 1 = true := by kernel_rfl
theorem u1_6 : yesC envU 1000 100 4 [symAt 2 15 1, symAt 2 15 6] 1 = true := by kernel_rfl
theorem u5_6 : yesC envU 1000 100 4 [symAt 2 15 5, symAt 2 15 6] 1 = true := by kernel_rfl
theorem u9_6 : yesC envU 1000 100 4 [symAt 2 15 9, symAt 2 15 6] 1 = true := by kernel_rfl
theorem u13_6 : yesC envU 1000 100 4 [symAt 2 15 13, symAt 2 15 6] 1 = true := by kernel_rfl
theorem u1_7 : yesC envU 1000 100 4 [symAt 2 15 1, symAt 2 15 7] 1 = true := by kernel_rfl
theorem u5_7 : yesC envU 1000 100 4 [symAt 2 15 5, symAt 2 15 7] 1 = true := by kernel_rfl
theorem u9_7 : yesC envU 1000 100 4 [symAt 2 15 9, symAt 2 15 7] 1 = true := by kernel_rfl
theorem u13_7 : yesC envU 1000 100 4 [symAt 2 15 13, symAt 2 15 7] 1 = true := by kernel_rfl
theorem u1_8 : yesC envU 1000 100 4 [symAt 2 15 1, symAt 2 15 8] 1 = true := by kernel_rfl
theorem u5_8 : yesC envU 1000 100 4 [symAt 2 15 5, symAt 2 15 8] 1 = true := by kernel_rfl
theorem u9_8 : yesC envU 1000 100 4 [symAt 2 15 9, symAt 2 15 8] 1 = true := by kernel_rfl
theorem u13_8 : yesC envU 1000 100 4 [symAt 2 15 13, symAt 2 15 8] 1 = true := by kernel_rfl
theorem u1_9 : yesC envU 1000 100 4 [symAt 2 15 1, symAt 2 15 9] 1 = true := by kernel_rfl
theorem u5_9 : yesC envU 1000 100 4 [symAt 2 15 5, symAt 2 15 9] 1 = true := by kernel_rfl
theorem u9_9 : yesC envU 1000 100 4 [symAt 2 15 9, symAt 2 15 9] 1 = true := by kernel_rfl
theorem u13_9 : yesC envU 1000 100 4 [symAt 2 15 13, symAt 2 15 9] 1 = true := by kernel_rfl
theorem u1_10 : yesC envU 1000 100 4 [symAt 2 15 1, symAt 2 15 10] 1 = true := by kernel_rfl
theorem u5_10 : yesC envU 1000 100 4 [symAt 2 15 5, symAt 2 15 10] 1 = true := by kernel_rfl
theorem u9_10 : yesC envU 1000 100 4 [symAt 2 15 9, symAt 2 15 10] 1 = true := by kernel_rfl
theorem u13_10 : yesC envU 1000 100 4 [symAt 2 15 13, symAt 2 15 10] 1 = true := by kernel_rfl
theorem u1_11 : yesC envU 1000 100 4 [symAt 2 15 1, symAt 2 15 11] 1 = true := by kernel_rfl
theorem u5_11 : yesC envU 1000 100 4 [symAt 2 15 5, symAt 2 15 11] 1 = true := by kernel_rfl
theorem u9_11 : yesC envU 1000 100 4 [symAt 2 15 9, symAt 2 15 11] 1 = true := by kernel_rfl
theorem u13_11 : yesC envU 1000 100 4 [symAt 2 15 13, symAt 2 15 11] 1 = true := by kernel_rfl
theorem u1_12 : yesC envU 1000 100 4 [symAt 2 15 1, symAt 2 15 12] 1 = true := by kernel_rfl
theorem u5_12 : yesC envU 1000 100 4 [symAt 2 15 5, symAt 2 15 12] 1 = true := by kernel_rfl
theorem u9_12 : yesC envU 1000 100 4 [symAt 2 15 9, symAt 2 15 12] 1 = true := by kernel_rfl
theorem u13_12 : yesC envU 1000 100 4 [symAt 2 15 13, symAt 2 15 12] 1 = true := by kernel_rfl
theorem u1_13 : yesC envU 1000 100 4 [symAt 2 15 1, symAt 2 15 13] 1 = true := by kernel_rfl
theorem u5_13 : yesC envU 1000 100 4 [symAt 2 15 5, symAt 2 15 13] 1 = true := by kernel_rfl
theorem u9_13 : yesC envU 1000 100 4 [symAt 2 15 9, symAt 2 15 13] 1 = true := by kernel_rfl
theorem u13_13 : yesC envU 1000 100 4 [symAt 2 15 13, symAt 2 15 13] 1 = true := by kernel_rfl
theorem u1_14 : yesC envU 1000 100 4 [symAt 2 15 1, symAt 2 15 14] 1 = true := by kernel_rfl
theorem u5_14 : yesC envU 1000 100 4 [symAt 2 15 5, symAt 2 15 14] 1 = true := by kernel_rfl
theorem u9_14 : yesC envU 1000 100 4 [symAt 2 15 9, symAt 2 15 14] 1 = true := by kernel_rfl
theorem u13_14 : yesC envU 1000 100 4 [symAt 2 15 13, symAt 2 15 14] 1 = true := by kernel_rfl
theorem u1_15 : yesC envU 1000 100 4 [symAt 2 15 1, symAt 2 15 15] 1 = true := by kernel_rfl
theorem u5_15 : yesC envU 1000 100 4 [symAt 2 15 5, symAt 2 15 15] 1 = true := by kernel_rfl
theorem u9_15 : yesC envU 1000 100 4 [symAt 2 15 9, symAt 2 15 15] 1 = true := by kernel_rfl
theorem u13_15 : yesC envU 1000 100 4 [symAt 2 15 13, symAt 2 15 15] 1 = true := by kernel_rfl
end Go.Proofs.YtnnnknojnfphlaaGreat.Cl
