/-
  Some of the law's cases, by the machine.
-/
import Derived.Test.YtnnnknojnfphlaaGreatMuE
namespace Go.Proofs.YtnnnknojnfphlaaGreat.Cl
open Go Go.Cm
theorem u3_0 : yesC envU 1000 100 4 [symAt 2 15 3, symAt 2 15 0] 1 = true := by kernel_rfl
theorem u7_0 : yesC envU 1000 100 4 [symAt 2 15 7, symAt 2 15 0] 1 = true := by kernel_rfl
theorem u11_0 : yesC envU 1000 100 4 [symAt 2 15 11, symAt 2 15 0] 1 = true := by kernel_rfl
theorem u15_0 : yesC envU 1000 100 4 [symAt 2 15 15, symAt 2 15 0] 1 = true := by kernel_rfl
theorem u3_1 : yesC envU 1000 100 4 [symAt 2 15 3, symAt 2 15 1] 1 = true := by kernel_rfl
theorem u7_1 : yesC envU 1000 100 4 [symAt 2 15 7, symAt 2 15 1] 1 = true := by kernel_rfl
theorem u11_1 : yesC envU 1000 100 4 [symAt 2 15 11, symAt 2 15 1] 1 = true := by kernel_rfl
theorem u15_1 : yesC envU 1000 100 4 [symAt 2 15 15, symAt 2 15 1] 1 = true := by kernel_rfl
theorem u3_2 : yesC envU 1000 100 4 [symAt 2 15 3, symAt 2 15 2] 1 = true := by kernel_rfl
theorem u7_2 : yesC envU 1000 100 4 [symAt 2 15 7, symAt 2 15 2] 1 = true := by kernel_rfl
theorem u11_2 : yesC envU 1000 100 4 [symAt 2 15 11, symAt 2 15 2] 1 = true := by kernel_rfl
theorem u15_2 : yesC envU 1000 100 4 [symAt 2 15 15, symAt 2 15 2] 1 = true := by kernel_rfl
theorem u3_3 : yesC envU 1000 100 4 [symAt 2 15 3, symAt 2 15 3] 1 = true := by kernel_rfl
theorem u7_3 : yesC envU 1000 100 4 [symAt 2 15 7, symAt 2 15 3] 1 = true := by kernel_rfl
theorem u11_3 : yesC envU 1000 100 4 [symAt 2 15 11, symAt 2 15 3] 1 = true := by kernel_rfl
theorem u15_3 : yesC envU 1000 100 4 [symAt 2 15 15, symAt 2 15 3] 1 = true := by kernel_rfl
theorem u3_4 : yesC envU 1000 100 4 [symAt 2 15 3, symAt 2 15 4] 1 = true := by kernel_rfl
theorem u7_4 : yesC envU 1000 100 4 [symAt 2 15 7, symAt 2 15 4] 1 = true := by kernel_rfl
theorem u11_4 : yesC envU 1000 100 4 [symAt 2 15 11, symAt 2 15 4] 1 = true := by kernel_rfl
theorem u15_4 : yesC envU 1000 100 4 [symAt 2 15 15, symAt 2 15 4] 1 = true := by kernel_rfl
theorem u3_5 : yesC envU 1000 100 4 [symAt 2 15 3, symAt 2 15 5] 1 = true := by kernel_rfl
theorem u7_5 : yesC envU 1000 100 4 [symAt 2 15 7, symAt 2 15 5] 1 = true := by kernel_rfl
theorem u11_5 : yesC envU 1000 100 4 [symAt 2 15 11, symAt 2 15 5] 1 = true := by kernel_rfl
theorem u15_5 : yesC envU 1000 100 4 [symAt 2 15 15, symAt 2 15 5] 1 = true := by kernel_rfl
theorem u3_6 : yesC envU 1000 100 4 [symAt 2 15 3, symAt 2 15 6] 1 = true := by kernel_rfl
theorem u7_6 : yesC envU 1000 100 4 [symAt 2 15 7, symAt 2 15 6] 1 = true := by kernel_rfl
theorem u11_6 : yesC envU 1000 100 4 [symAt 2 15 11, symAt 2 15 6] 1 = true := by kernel_rfl
theorem u15_6 : yesC envU 1000 100 4 [symAt 2 15 15, symAt 2 15 6] 1 = true := by kernel_rfl
theorem u3_7 : yesC envU 1000 100 4 [symAt 2 15 3, symAt 2 15 7] 1 = true := by kernel_rfl
theorem u7_7 : yesC envU 1000 100 4 [symAt 2 15 7, symAt 2 15 7] 1 = true := by kernel_rfl
theorem u11_7 : yesC envU 1000 100 4 [symAt 2 15 11, symAt 2 15 7] 1 = true := by kernel_rfl
theorem u15_7 : yesC envU 1000 100 4 [symAt 2 15 15, symAt 2 15 7] 1 = true := by kernel_rfl
theorem u3_8 : yesC envU 1000 100 4 [symAt 2 15 3, symAt 2 15 8] 1 = true := by kernel_rfl
theorem u7_8 : yesC envU 1000 100 4 [symAt 2 15 7, symAt 2 15 8] 1 = true := by kernel_rfl
theorem u11_8 : yesC envU 1000 100 4 [symAt 2 15 11, symAt 2 15 8] 1 = true := by kernel_rfl
theorem u15_8 : yesC envU 1000 100 4 [symAt 2 15 15, symAt 2 15 8] 1 = true := by kernel_rfl
theorem u3_9 : yesC envU 1000 100 4 [symAt 2 15 3, symAt 2 15 9] 1 = true := by kernel_rfl
theorem u7_9 : yesC envU 1000 100 4 [symAt 2 15 7, symAt 2 15 9] 1 = true := by kernel_rfl
theorem u11_9 : yesC envU 1000 100 4 [symAt 2 15 11, symAt 2 15 9] 1 = true := by kernel_rfl
theorem u15_9 : yesC envU 1000 100 4 [symAt 2 15 15, symAt 2 15 9] 1 = true := by kernel_rfl
theorem u3_10 : yesC envU 1000 100 4 [symAt 2 15 3, symAt 2 15 10] 1 = true := by kernel_rfl
theorem u7_10 : yesC envU 1000 100 4 [symAt 2 15 7, symAt 2 15 10] 1 = true := by kernel_rfl
theorem u11_10 : yesC envU 1000 100 4 [symAt 2 15 11, symAt 2 15 10] 1 = true := by kernel_rfl
theorem u15_10 : yesC envU 1000 100 4 [symAt 2 15 15, symAt 2 15 10] 1 = true := by kernel_rfl
theorem u3_11 : yesC envU 1000 100 4 [symAt 2 15 3, symAt 2 15 11] 1 = true := by kernel_rfl
theorem u7_11 : yesC envU 1000 100 4 [symAt 2 15 7, symAt 2 15 11] 1 = true := by kernel_rfl
theorem u11_11 : yesC envU 1000 100 4 [symAt 2 15 11, symAt 2 15 11] 1 = true := by kernel_rfl
theorem u15_11 : yesC envU 1000 100 4 [symAt 2 15 15, symAt 2 15 11] 1 = true := by kernel_rfl
theorem u3_12 : yesC envU 1000 100 4 [symAt 2 15 3, symAt 2 15 12] 1 = true := by kernel_rfl
theorem u7_12 : yesC envU 1000 100 4 [symAt 2 15 7, symAt 2 15 12] 1 = true := by kernel_rfl
theorem u11_12 : yesC envU 1000 100 4 [symAt 2 15 11, symAt 2 15 12] 1 = true := by kernel_rfl
theorem u15_12 : yesC envU 1000 100 4 [symAt 2 15 15, symAt 2 15 12] 1 = true := by kernel_rfl
theorem u3_13 : yesC envU 1000 100 4 [symAt 2 15 3, symAt 2 15 13] 1 = true := by kernel_rfl
theorem u7_13 : yesC envU 1000 100 4 [symAt 2 15 7, symAt 2 15 13] 1 = true := by kernel_rfl
theorem u11_13 : yesC envU 1000 100 4 [symAt 2 15 11, symAt 2 15 13] 1 = true := by kernel_rfl
theorem u15_13 : yesC envU 1000 100 4 [symAt 2 15 15, symAt 2 15 13] 1 = true := by kernel_rfl
theorem u3_14 : yesC envU 1000 100 4 [symAt 2 15 3, symAt 2 15 14] 1 = true := by kernel_rfl
theorem u7_14 : yesC envU 1000 100 4 [symAt 2 15 7, symAt 2 15 14] 1 = true := by kernel_rfl
theorem u11_14 : yesC envU 1000 100 4 [symAt 2 15 11, symAt 2 15 14] 1 = true := by kernel_rfl
theorem u15_14 : yesC envU 1000 100 4 [symAt 2 15 15, symAt 2 15 14] 1 = true := by kernel_rfl
theorem u3_15 : yesC envU 1000 100 4 [symAt 2 15 3, symAt 2 15 15] 1 = true := by kernel_rfl
theorem u7_15 : yesC envU 1000 100 4 [symAt 2 15 7, symAt 2 15 15] 1 = true := by kernel_rfl
theorem u11_15 : yesC envU 1000 100 4 [symAt 2 15 11, symAt 2 15 15] 1 = true := by kernel_rfl
theorem u15_15 : yesC envU 1000 100 4 [symAt 2 15 15, symAt 2 15 15] 1 = true := by kernel_rfl
end Go.Proofs.YtnnnknojnfphlaaGreat.Cl
