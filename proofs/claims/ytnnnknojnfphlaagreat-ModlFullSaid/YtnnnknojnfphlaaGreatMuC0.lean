/-
  Some of the law's cases, by the machine.
-/
import Derived.Test.YtnnnknojnfphlaaGreatMuE
namespace Go.Proofs.YtnnnknojnfphlaaGreat.Cl
open Go Go.Cm
theorem u0_0 : yesC envU 1000 100 4 [symAt 2 15 0, symAt 2 15 0] 1 = true := by kernel_rfl
theorem u4_0 : yesC envU 1000 100 4 [symAt 2 15 4, symAt 2 15 0] 1 = true := by kernel_rfl
theorem u8_0 : yesC envU 1000 100 4 [symAt 2 15 8, symAt 2 15 0] 1 = true := by kernel_rfl
theorem u12_0 : yesC envU 1000 100 4 [symAt 2 15 12, symAt 2 15 0] 1 = true := by kernel_rfl
theorem u0_1 : yesC envU 1000 100 4 [symAt 2 15 0, symAt 2 15 1] 1 = true := by kernel_rfl
theorem u4_1 : yesC envU 1000 100 4 [symAt 2 15 4, symAt 2 15 1] 1 = true := by kernel_rfl
theorem u8_1 : yesC envU 1000 100 4 [symAt 2 15 8, symAt 2 15 1] 1 = true := by kernel_rfl
theorem u12_1 : yesC envU 1000 100 4 [symAt 2 15 12, symAt 2 15 1] 1 = true := by kernel_rfl
theorem u0_2 : yesC envU 1000 100 4 [symAt 2 15 0, symAt 2 15 2] 1 = true := by kernel_rfl
theorem u4_2 : yesC envU 1000 100 4 [symAt 2 15 4, symAt 2 15 2] 1 = true := by kernel_rfl
theorem u8_2 : yesC envU 1000 100 4 [symAt 2 15 8, symAt 2 15 2] 1 = true := by kernel_rfl
theorem u12_2 : yesC envU 1000 100 4 [symAt 2 15 12, symAt 2 15 2] 1 = true := by kernel_rfl
theorem u0_3 : yesC envU 1000 100 4 [symAt 2 15 0, symAt 2 15 3] 1 = true := by kernel_rfl
theorem u4_3 : yesC envU 1000 100 4 [symAt 2 15 4, symAt 2 15 3] 1 = true := by kernel_rfl
theorem u8_3 : yesC envU 1000 100 4 [symAt 2 15 8, symAt 2 15 3] 1 = true := by kernel_rfl
theorem u12_3 : yesC envU 1000 100 4 [symAt 2 15 12, symAt 2 15 3] 1 = true := by kernel_rfl
theorem u0_4 : yesC envU 1000 100 4 [symAt 2 15 0, symAt 2 15 4] 1 = true := by kernel_rfl
theorem u4_4 : yesC envU 1000 100 4 [symAt 2 15 4, symAt 2 15 4] 1 = true := by kernel_rfl
theorem u8_4 : yesC envU 1000 100 4 [symAt 2 15 8, symAt 2 15 4] 1 = true := by kernel_rfl
theorem u12_4 : yesC envU 1000 100 4 [symAt 2 15 12, symAt 2 15 4] 1 = true := by kernel_rfl
theorem u0_5 : yesC envU 1000 100 4 [symAt 2 15 0, symAt 2 15 5] 1 = true := by kernel_rfl
theorem u4_5 : yesC envU 1000 100 4 [symAt 2 15 4, symAt 2 15 5] 1 = true := by kernel_rfl
theorem u8_5 : yesC envU 1000 100 4 [symAt 2 15 8, symAt 2 15 5] 1 = true := by kernel_rfl
theorem u12_5 : yesC envU 1000 100 4 [symAt 2 15 12, symAt 2 15 5] 1 = true := by kernel_rfl
theorem u0_6 : yesC envU 1000 100 4 [symAt 2 15 0, symAt 2 15 6] 1 = true := by kernel_rfl
theorem u4_6 : yesC envU 1000 100 4 [symAt 2 15 4, symAt 2 15 6] 1 = true := by kernel_rfl
theorem u8_6 : yesC envU 1000 100 4 [symAt 2 15 8, symAt 2 15 6] 1 = true := by kernel_rfl
theorem u12_6 : yesC envU 1000 100 4 [symAt 2 15 12, symAt 2 15 6] 1 = true := by kernel_rfl
theorem u0_7 : yesC envU 1000 100 4 [symAt 2 15 0, symAt 2 15 7] 1 = true := by kernel_rfl
theorem u4_7 : yesC envU 1000 100 4 [symAt 2 15 4, symAt 2 15 7] 1 = true := by kernel_rfl
theorem u8_7 : yesC envU 1000 100 4 [symAt 2 15 8, symAt 2 15 7] 1 = true := by kernel_rfl
theorem u12_7 : yesC envU 1000 100 4 [symAt 2 15 12, symAt 2 15 7] 1 = true := by kernel_rfl
theorem u0_8 : yesC envU 1000 100 4 [symAt 2 15 0, symAt 2 15 8] 1 = true := by kernel_rfl
theorem u4_8 : yesC envU 1000 100 4 [symAt 2 15 4, symAt 2 15 8] 1 = true := by kernel_rfl
theorem u8_8 : yesC envU 1000 100 4 [symAt 2 15 8, symAt 2 15 8] 1 = true := by kernel_rfl
theorem u12_8 : yesC envU 1000 100 4 [symAt 2 15 12, symAt 2 15 8] 1 = true := by kernel_rfl
theorem u0_9 : yesC envU 1000 100 4 [symAt 2 15 0, symAt 2 15 9] 1 = true := by kernel_rfl
theorem u4_9 : yesC envU 1000 100 4 [symAt 2 15 4, symAt 2 15 9] 1 = true := by kernel_rfl
theorem u8_9 : yesC envU 1000 100 4 [symAt 2 15 8, symAt 2 15 9] 1 = true := by kernel_rfl
theorem u12_9 : yesC envU 1000 100 4 [symAt 2 15 12, symAt 2 15 9] 1 = true := by kernel_rfl
theorem u0_10 : yesC envU 1000 100 4 [symAt 2 15 0, symAt 2 15 10] 1 = true := by kernel_rfl
theorem u4_10 : yesC envU 1000 100 4 [symAt 2 15 4, symAt 2 15 10] 1 = true := by kernel_rfl
theorem u8_10 : yesC envU 1000 100 4 [symAt 2 15 8, symAt 2 15 10] 1 = true := by kernel_rfl
theorem u12_10 : yesC envU 1000 100 4 [symAt 2 15 12, symAt 2 15 10] 1 = true := by kernel_rfl
theorem u0_11 : yesC envU 1000 100 4 [symAt 2 15 0, symAt 2 15 11] 1 = true := by kernel_rfl
theorem u4_11 : yesC envU 1000 100 4 [symAt 2 15 4, symAt 2 15 11] 1 = true := by kernel_rfl
theorem u8_11 : yesC envU 1000 100 4 [symAt 2 15 8, symAt 2 15 11] 1 = true := by kernel_rfl
theorem u12_11 : yesC envU 1000 100 4 [symAt 2 15 12, symAt 2 15 11] 1 = true := by kernel_rfl
theorem u0_12 : yesC envU 1000 100 4 [symAt 2 15 0, symAt 2 15 12] 1 = true := by kernel_rfl
theorem u4_12 : yesC envU 1000 100 4 [symAt 2 15 4, symAt 2 15 12] 1 = true := by kernel_rfl
theorem u8_12 : yesC envU 1000 100 4 [symAt 2 15 8, symAt 2 15 12] 1 = true := by kernel_rfl
theorem u12_12 : yesC envU 1000 100 4 [symAt 2 15 12, symAt 2 15 12] 1 = true := by kernel_rfl
theorem u0_13 : yesC envU 1000 100 4 [symAt 2 15 0, symAt 2 15 13] 1 = true := by kernel_rfl
theorem u4_13 : yesC envU 1000 100 4 [symAt 2 15 4, symAt 2 15 13] 1 = true := by kernel_rfl
theorem u8_13 : yesC envU 1000 100 4 [symAt 2 15 8, symAt 2 15 13] 1 = true := by kernel_rfl
theorem u12_13 : yesC envU 1000 100 4 [symAt 2 15 12, symAt 2 15 13] 1 = true := by kernel_rfl
theorem u0_14 : yesC envU 1000 100 4 [symAt 2 15 0, symAt 2 15 14] 1 = true := by kernel_rfl
theorem u4_14 : yesC envU 1000 100 4 [symAt 2 15 4, symAt 2 15 14] 1 = true := by kernel_rfl
theorem u8_14 : yesC envU 1000 100 4 [symAt 2 15 8, symAt 2 15 14] 1 = true := by kernel_rfl
theorem u12_14 : yesC envU 1000 100 4 [symAt 2 15 12, symAt 2 15 14] 1 = true := by kernel_rfl
theorem u0_15 : yesC envU 1000 100 4 [symAt 2 15 0, symAt 2 15 15] 1 = true := by kernel_rfl
theorem u4_15 : yesC envU 1000 100 4 [symAt 2 15 4, symAt 2 15 15] 1 = true := by kernel_rfl
theorem u8_15 : yesC envU 1000 100 4 [symAt 2 15 8, symAt 2 15 15] 1 = true := by kernel_rfl
theorem u12_15 : yesC envU 1000 100 4 [symAt 2 15 12, symAt 2 15 15] 1 = true := by kernel_rfl
end Go.Proofs.YtnnnknojnfphlaaGreat.Cl
