/-
  What the row says of the program's text, held against it. The law, of whatever arguments. TextFrames: for every input of the types of its arguments the law returns true; the arguments read behind the call as they read before. Narrowed as its row is: the listed package-level variables start as the program's text lays them (the card ties them).
-/
import Derived.Test.YtfofdglgacfklaaGreatDoorCards
import Derived.WalkKit
import Derived.ProofKit
import Derived.OpenShut
import Derived.Deep.DeepHandedRow
import Derived.Test.YtfofdglgacfklaaGreatDoorFfC0
import Derived.Test.YtfofdglgacfklaaGreatDoorFfC2
import Derived.Test.YtfofdglgacfklaaGreatDoorFfC4
import Derived.Test.YtfofdglgacfklaaGreatDoorFfC6
import Derived.Test.YtfofdglgacfklaaGreatDoorTie
import Derived.Below
import Derived.Lib.LaidTab
namespace Go.Proofs.YtfofdglgacfklaaGreatDoor.textFrames
open Go.ChangeShapes Go.WideShapes Go.ChangeAt Go.RowKit

theorem fa : (Rows.textFramesRow.inPlace == Tryz.pinned.checked.prog.inPlace 3) = true := by kernel_rfl
theorem fb : (Rows.textFramesRow.unfollowed == Tryz.pinned.checked.prog.unfollowed 3) = true := by kernel_rfl
theorem fc : (Rows.textFramesRow.recurses == Tryz.pinned.checked.prog.recurses 3) = true := by kernel_rfl
theorem fd : (Rows.textFramesRow.named == Tryz.pinned.checked.prog.varsNamed 3) = true := by kernel_rfl
set_option maxHeartbeats 4000000 in
theorem facts : joinedFacts Tryz.pinned.checked.prog 3 Tryz.f3 Rows.textFramesSpec Rows.textFramesRow = true := by
  unfold joinedFacts
  simp only [Bool.and_eq_true]
  repeat' apply And.intro
  all_goals first
    | with_reducible exact fa
    | with_reducible exact fb
    | with_reducible exact fc
    | with_reducible exact fd
    | kernel_rfl

end Go.Proofs.YtfofdglgacfklaaGreatDoor.textFrames
namespace Go.Proofs.YtfofdglgacfklaaGreatDoor.Cl
open Go Go.Cm Go.Cm.Tx
theorem f0 (a e : Int) : ∀ h, h ≤ 15 → ∀ o, yesC (envX a e) 1000 100 3 [symAt 2 15 0, symAt 2 15 h, tok 0, .bool o, tok 8] 2 = true
  | 0, _, true => f0_0_true a e
  | 0, _, false => f0_0_false a e
  | 1, _, true => f0_1_true a e
  | 1, _, false => f0_1_false a e
  | 2, _, true => f0_2_true a e
  | 2, _, false => f0_2_false a e
  | 3, _, true => f0_3_true a e
  | 3, _, false => f0_3_false a e
  | 4, _, true => f0_4_true a e
  | 4, _, false => f0_4_false a e
  | 5, _, true => f0_5_true a e
  | 5, _, false => f0_5_false a e
  | 6, _, true => f0_6_true a e
  | 6, _, false => f0_6_false a e
  | 7, _, true => f0_7_true a e
  | 7, _, false => f0_7_false a e
  | 8, _, true => f0_8_true a e
  | 8, _, false => f0_8_false a e
  | 9, _, true => f0_9_true a e
  | 9, _, false => f0_9_false a e
  | 10, _, true => f0_10_true a e
  | 10, _, false => f0_10_false a e
  | 11, _, true => f0_11_true a e
  | 11, _, false => f0_11_false a e
  | 12, _, true => f0_12_true a e
  | 12, _, false => f0_12_false a e
  | 13, _, true => f0_13_true a e
  | 13, _, false => f0_13_false a e
  | 14, _, true => f0_14_true a e
  | 14, _, false => f0_14_false a e
  | 15, _, true => f0_15_true a e
  | 15, _, false => f0_15_false a e
  | h + 16, hh, _ => by omega
theorem f1 (a e : Int) : ∀ h, h ≤ 15 → ∀ o, yesC (envX a e) 1000 100 3 [symAt 2 15 1, symAt 2 15 h, tok 0, .bool o, tok 8] 2 = true
  | 0, _, true => f1_0_true a e
  | 0, _, false => f1_0_false a e
  | 1, _, true => f1_1_true a e
  | 1, _, false => f1_1_false a e
  | 2, _, true => f1_2_true a e
  | 2, _, false => f1_2_false a e
  | 3, _, true => f1_3_true a e
  | 3, _, false => f1_3_false a e
  | 4, _, true => f1_4_true a e
  | 4, _, false => f1_4_false a e
  | 5, _, true => f1_5_true a e
  | 5, _, false => f1_5_false a e
  | 6, _, true => f1_6_true a e
  | 6, _, false => f1_6_false a e
  | 7, _, true => f1_7_true a e
  | 7, _, false => f1_7_false a e
  | 8, _, true => f1_8_true a e
  | 8, _, false => f1_8_false a e
  | 9, _, true => f1_9_true a e
  | 9, _, false => f1_9_false a e
  | 10, _, true => f1_10_true a e
  | 10, _, false => f1_10_false a e
  | 11, _, true => f1_11_true a e
  | 11, _, false => f1_11_false a e
  | 12, _, true => f1_12_true a e
  | 12, _, false => f1_12_false a e
  | 13, _, true => f1_13_true a e
  | 13, _, false => f1_13_false a e
  | 14, _, true => f1_14_true a e
  | 14, _, false => f1_14_false a e
  | 15, _, true => f1_15_true a e
  | 15, _, false => f1_15_false a e
  | h + 16, hh, _ => by omega
theorem f2 (a e : Int) : ∀ h, h ≤ 15 → ∀ o, yesC (envX a e) 1000 100 3 [symAt 2 15 2, symAt 2 15 h, tok 0, .bool o, tok 8] 2 = true
  | 0, _, true => f2_0_true a e
  | 0, _, false => f2_0_false a e
  | 1, _, true => f2_1_true a e
  | 1, _, false => f2_1_false a e
  | 2, _, true => f2_2_true a e
  | 2, _, false => f2_2_false a e
  | 3, _, true => f2_3_true a e
  | 3, _, false => f2_3_false a e
  | 4, _, true => f2_4_true a e
  | 4, _, false => f2_4_false a e
  | 5, _, true => f2_5_true a e
  | 5, _, false => f2_5_false a e
  | 6, _, true => f2_6_true a e
  | 6, _, false => f2_6_false a e
  | 7, _, true => f2_7_true a e
  | 7, _, false => f2_7_false a e
  | 8, _, true => f2_8_true a e
  | 8, _, false => f2_8_false a e
  | 9, _, true => f2_9_true a e
  | 9, _, false => f2_9_false a e
  | 10, _, true => f2_10_true a e
  | 10, _, false => f2_10_false a e
  | 11, _, true => f2_11_true a e
  | 11, _, false => f2_11_false a e
  | 12, _, true => f2_12_true a e
  | 12, _, false => f2_12_false a e
  | 13, _, true => f2_13_true a e
  | 13, _, false => f2_13_false a e
  | 14, _, true => f2_14_true a e
  | 14, _, false => f2_14_false a e
  | 15, _, true => f2_15_true a e
  | 15, _, false => f2_15_false a e
  | h + 16, hh, _ => by omega
theorem f3 (a e : Int) : ∀ h, h ≤ 15 → ∀ o, yesC (envX a e) 1000 100 3 [symAt 2 15 3, symAt 2 15 h, tok 0, .bool o, tok 8] 2 = true
  | 0, _, true => f3_0_true a e
  | 0, _, false => f3_0_false a e
  | 1, _, true => f3_1_true a e
  | 1, _, false => f3_1_false a e
  | 2, _, true => f3_2_true a e
  | 2, _, false => f3_2_false a e
  | 3, _, true => f3_3_true a e
  | 3, _, false => f3_3_false a e
  | 4, _, true => f3_4_true a e
  | 4, _, false => f3_4_false a e
  | 5, _, true => f3_5_true a e
  | 5, _, false => f3_5_false a e
  | 6, _, true => f3_6_true a e
  | 6, _, false => f3_6_false a e
  | 7, _, true => f3_7_true a e
  | 7, _, false => f3_7_false a e
  | 8, _, true => f3_8_true a e
  | 8, _, false => f3_8_false a e
  | 9, _, true => f3_9_true a e
  | 9, _, false => f3_9_false a e
  | 10, _, true => f3_10_true a e
  | 10, _, false => f3_10_false a e
  | 11, _, true => f3_11_true a e
  | 11, _, false => f3_11_false a e
  | 12, _, true => f3_12_true a e
  | 12, _, false => f3_12_false a e
  | 13, _, true => f3_13_true a e
  | 13, _, false => f3_13_false a e
  | 14, _, true => f3_14_true a e
  | 14, _, false => f3_14_false a e
  | 15, _, true => f3_15_true a e
  | 15, _, false => f3_15_false a e
  | h + 16, hh, _ => by omega
theorem f4 (a e : Int) : ∀ h, h ≤ 15 → ∀ o, yesC (envX a e) 1000 100 3 [symAt 2 15 4, symAt 2 15 h, tok 0, .bool o, tok 8] 2 = true
  | 0, _, true => f4_0_true a e
  | 0, _, false => f4_0_false a e
  | 1, _, true => f4_1_true a e
  | 1, _, false => f4_1_false a e
  | 2, _, true => f4_2_true a e
  | 2, _, false => f4_2_false a e
  | 3, _, true => f4_3_true a e
  | 3, _, false => f4_3_false a e
  | 4, _, true => f4_4_true a e
  | 4, _, false => f4_4_false a e
  | 5, _, true => f4_5_true a e
  | 5, _, false => f4_5_false a e
  | 6, _, true => f4_6_true a e
  | 6, _, false => f4_6_false a e
  | 7, _, true => f4_7_true a e
  | 7, _, false => f4_7_false a e
  | 8, _, true => f4_8_true a e
  | 8, _, false => f4_8_false a e
  | 9, _, true => f4_9_true a e
  | 9, _, false => f4_9_false a e
  | 10, _, true => f4_10_true a e
  | 10, _, false => f4_10_false a e
  | 11, _, true => f4_11_true a e
  | 11, _, false => f4_11_false a e
  | 12, _, true => f4_12_true a e
  | 12, _, false => f4_12_false a e
  | 13, _, true => f4_13_true a e
  | 13, _, false => f4_13_false a e
  | 14, _, true => f4_14_true a e
  | 14, _, false => f4_14_false a e
  | 15, _, true => f4_15_true a e
  | 15, _, false => f4_15_false a e
  | h + 16, hh, _ => by omega
theorem f5 (a e : Int) : ∀ h, h ≤ 15 → ∀ o, yesC (envX a e) 1000 100 3 [symAt 2 15 5, symAt 2 15 h, tok 0, .bool o, tok 8] 2 = true
  | 0, _, true => f5_0_true a e
  | 0, _, false => f5_0_false a e
  | 1, _, true => f5_1_true a e
  | 1, _, false => f5_1_false a e
  | 2, _, true => f5_2_true a e
  | 2, _, false => f5_2_false a e
  | 3, _, true => f5_3_true a e
  | 3, _, false => f5_3_false a e
  | 4, _, true => f5_4_true a e
  | 4, _, false => f5_4_false a e
  | 5, _, true => f5_5_true a e
  | 5, _, false => f5_5_false a e
  | 6, _, true => f5_6_true a e
  | 6, _, false => f5_6_false a e
  | 7, _, true => f5_7_true a e
  | 7, _, false => f5_7_false a e
  | 8, _, true => f5_8_true a e
  | 8, _, false => f5_8_false a e
  | 9, _, true => f5_9_true a e
  | 9, _, false => f5_9_false a e
  | 10, _, true => f5_10_true a e
  | 10, _, false => f5_10_false a e
  | 11, _, true => f5_11_true a e
  | 11, _, false => f5_11_false a e
  | 12, _, true => f5_12_true a e
  | 12, _, false => f5_12_false a e
  | 13, _, true => f5_13_true a e
  | 13, _, false => f5_13_false a e
  | 14, _, true => f5_14_true a e
  | 14, _, false => f5_14_false a e
  | 15, _, true => f5_15_true a e
  | 15, _, false => f5_15_false a e
  | h + 16, hh, _ => by omega
theorem f6 (a e : Int) : ∀ h, h ≤ 15 → ∀ o, yesC (envX a e) 1000 100 3 [symAt 2 15 6, symAt 2 15 h, tok 0, .bool o, tok 8] 2 = true
  | 0, _, true => f6_0_true a e
  | 0, _, false => f6_0_false a e
  | 1, _, true => f6_1_true a e
  | 1, _, false => f6_1_false a e
  | 2, _, true => f6_2_true a e
  | 2, _, false => f6_2_false a e
  | 3, _, true => f6_3_true a e
  | 3, _, false => f6_3_false a e
  | 4, _, true => f6_4_true a e
  | 4, _, false => f6_4_false a e
  | 5, _, true => f6_5_true a e
  | 5, _, false => f6_5_false a e
  | 6, _, true => f6_6_true a e
  | 6, _, false => f6_6_false a e
  | 7, _, true => f6_7_true a e
  | 7, _, false => f6_7_false a e
  | 8, _, true => f6_8_true a e
  | 8, _, false => f6_8_false a e
  | 9, _, true => f6_9_true a e
  | 9, _, false => f6_9_false a e
  | 10, _, true => f6_10_true a e
  | 10, _, false => f6_10_false a e
  | 11, _, true => f6_11_true a e
  | 11, _, false => f6_11_false a e
  | 12, _, true => f6_12_true a e
  | 12, _, false => f6_12_false a e
  | 13, _, true => f6_13_true a e
  | 13, _, false => f6_13_false a e
  | 14, _, true => f6_14_true a e
  | 14, _, false => f6_14_false a e
  | 15, _, true => f6_15_true a e
  | 15, _, false => f6_15_false a e
  | h + 16, hh, _ => by omega
theorem f7 (a e : Int) : ∀ h, h ≤ 15 → ∀ o, yesC (envX a e) 1000 100 3 [symAt 2 15 7, symAt 2 15 h, tok 0, .bool o, tok 8] 2 = true
  | 0, _, true => f7_0_true a e
  | 0, _, false => f7_0_false a e
  | 1, _, true => f7_1_true a e
  | 1, _, false => f7_1_false a e
  | 2, _, true => f7_2_true a e
  | 2, _, false => f7_2_false a e
  | 3, _, true => f7_3_true a e
  | 3, _, false => f7_3_false a e
  | 4, _, true => f7_4_true a e
  | 4, _, false => f7_4_false a e
  | 5, _, true => f7_5_true a e
  | 5, _, false => f7_5_false a e
  | 6, _, true => f7_6_true a e
  | 6, _, false => f7_6_false a e
  | 7, _, true => f7_7_true a e
  | 7, _, false => f7_7_false a e
  | 8, _, true => f7_8_true a e
  | 8, _, false => f7_8_false a e
  | 9, _, true => f7_9_true a e
  | 9, _, false => f7_9_false a e
  | 10, _, true => f7_10_true a e
  | 10, _, false => f7_10_false a e
  | 11, _, true => f7_11_true a e
  | 11, _, false => f7_11_false a e
  | 12, _, true => f7_12_true a e
  | 12, _, false => f7_12_false a e
  | 13, _, true => f7_13_true a e
  | 13, _, false => f7_13_false a e
  | 14, _, true => f7_14_true a e
  | 14, _, false => f7_14_false a e
  | 15, _, true => f7_15_true a e
  | 15, _, false => f7_15_false a e
  | h + 16, hh, _ => by omega
theorem f8 (a e : Int) : ∀ h, h ≤ 15 → ∀ o, yesC (envX a e) 1000 100 3 [symAt 2 15 8, symAt 2 15 h, tok 0, .bool o, tok 8] 2 = true
  | 0, _, true => f8_0_true a e
  | 0, _, false => f8_0_false a e
  | 1, _, true => f8_1_true a e
  | 1, _, false => f8_1_false a e
  | 2, _, true => f8_2_true a e
  | 2, _, false => f8_2_false a e
  | 3, _, true => f8_3_true a e
  | 3, _, false => f8_3_false a e
  | 4, _, true => f8_4_true a e
  | 4, _, false => f8_4_false a e
  | 5, _, true => f8_5_true a e
  | 5, _, false => f8_5_false a e
  | 6, _, true => f8_6_true a e
  | 6, _, false => f8_6_false a e
  | 7, _, true => f8_7_true a e
  | 7, _, false => f8_7_false a e
  | 8, _, true => f8_8_true a e
  | 8, _, false => f8_8_false a e
  | 9, _, true => f8_9_true a e
  | 9, _, false => f8_9_false a e
  | 10, _, true => f8_10_true a e
  | 10, _, false => f8_10_false a e
  | 11, _, true => f8_11_true a e
  | 11, _, false => f8_11_false a e
  | 12, _, true => f8_12_true a e
  | 12, _, false => f8_12_false a e
  | 13, _, true => f8_13_true a e
  | 13, _, false => f8_13_false a e
  | 14, _, true => f8_14_true a e
  | 14, _, false => f8_14_false a e
  | 15, _, true => f8_15_true a e
  | 15, _, false => f8_15_false a e
  | h + 16, hh, _ => by omega
theorem f9 (a e : Int) : ∀ h, h ≤ 15 → ∀ o, yesC (envX a e) 1000 100 3 [symAt 2 15 9, symAt 2 15 h, tok 0, .bool o, tok 8] 2 = true
  | 0, _, true => f9_0_true a e
  | 0, _, false => f9_0_false a e
  | 1, _, true => f9_1_true a e
  | 1, _, false => f9_1_false a e
  | 2, _, true => f9_2_true a e
  | 2, _, false => f9_2_false a e
  | 3, _, true => f9_3_true a e
  | 3, _, false => f9_3_false a e
  | 4, _, true => f9_4_true a e
  | 4, _, false => f9_4_false a e
  | 5, _, true => f9_5_true a e
  | 5, _, false => f9_5_false a e
  | 6, _, true => f9_6_true a e
  | 6, _, false => f9_6_false a e
  | 7, _, true => f9_7_true a e
  | 7, _, false => f9_7_false a e
  | 8, _, true => f9_8_true a e
  | 8, _, false => f9_8_false a e
  | 9, _, true => f9_9_true a e
  | 9, _, false => f9_9_false a e
  | 10, _, true => f9_10_true a e
  | 10, _, false => f9_10_false a e
  | 11, _, true => f9_11_true a e
  | 11, _, false => f9_11_false a e
  | 12, _, true => f9_12_true a e
  | 12, _, false => f9_12_false a e
  | 13, _, true => f9_13_true a e
  | 13, _, false => f9_13_false a e
  | 14, _, true => f9_14_true a e
  | 14, _, false => f9_14_false a e
  | 15, _, true => f9_15_true a e
  | 15, _, false => f9_15_false a e
  | h + 16, hh, _ => by omega
theorem f10 (a e : Int) : ∀ h, h ≤ 15 → ∀ o, yesC (envX a e) 1000 100 3 [symAt 2 15 10, symAt 2 15 h, tok 0, .bool o, tok 8] 2 = true
  | 0, _, true => f10_0_true a e
  | 0, _, false => f10_0_false a e
  | 1, _, true => f10_1_true a e
  | 1, _, false => f10_1_false a e
  | 2, _, true => f10_2_true a e
  | 2, _, false => f10_2_false a e
  | 3, _, true => f10_3_true a e
  | 3, _, false => f10_3_false a e
  | 4, _, true => f10_4_true a e
  | 4, _, false => f10_4_false a e
  | 5, _, true => f10_5_true a e
  | 5, _, false => f10_5_false a e
  | 6, _, true => f10_6_true a e
  | 6, _, false => f10_6_false a e
  | 7, _, true => f10_7_true a e
  | 7, _, false => f10_7_false a e
  | 8, _, true => f10_8_true a e
  | 8, _, false => f10_8_false a e
  | 9, _, true => f10_9_true a e
  | 9, _, false => f10_9_false a e
  | 10, _, true => f10_10_true a e
  | 10, _, false => f10_10_false a e
  | 11, _, true => f10_11_true a e
  | 11, _, false => f10_11_false a e
  | 12, _, true => f10_12_true a e
  | 12, _, false => f10_12_false a e
  | 13, _, true => f10_13_true a e
  | 13, _, false => f10_13_false a e
  | 14, _, true => f10_14_true a e
  | 14, _, false => f10_14_false a e
  | 15, _, true => f10_15_true a e
  | 15, _, false => f10_15_false a e
  | h + 16, hh, _ => by omega
theorem f11 (a e : Int) : ∀ h, h ≤ 15 → ∀ o, yesC (envX a e) 1000 100 3 [symAt 2 15 11, symAt 2 15 h, tok 0, .bool o, tok 8] 2 = true
  | 0, _, true => f11_0_true a e
  | 0, _, false => f11_0_false a e
  | 1, _, true => f11_1_true a e
  | 1, _, false => f11_1_false a e
  | 2, _, true => f11_2_true a e
  | 2, _, false => f11_2_false a e
  | 3, _, true => f11_3_true a e
  | 3, _, false => f11_3_false a e
  | 4, _, true => f11_4_true a e
  | 4, _, false => f11_4_false a e
  | 5, _, true => f11_5_true a e
  | 5, _, false => f11_5_false a e
  | 6, _, true => f11_6_true a e
  | 6, _, false => f11_6_false a e
  | 7, _, true => f11_7_true a e
  | 7, _, false => f11_7_false a e
  | 8, _, true => f11_8_true a e
  | 8, _, false => f11_8_false a e
  | 9, _, true => f11_9_true a e
  | 9, _, false => f11_9_false a e
  | 10, _, true => f11_10_true a e
  | 10, _, false => f11_10_false a e
  | 11, _, true => f11_11_true a e
  | 11, _, false => f11_11_false a e
  | 12, _, true => f11_12_true a e
  | 12, _, false => f11_12_false a e
  | 13, _, true => f11_13_true a e
  | 13, _, false => f11_13_false a e
  | 14, _, true => f11_14_true a e
  | 14, _, false => f11_14_false a e
  | 15, _, true => f11_15_true a e
  | 15, _, false => f11_15_false a e
  | h + 16, hh, _ => by omega
theorem f12 (a e : Int) : ∀ h, h ≤ 15 → ∀ o, yesC (envX a e) 1000 100 3 [symAt 2 15 12, symAt 2 15 h, tok 0, .bool o, tok 8] 2 = true
  | 0, _, true => f12_0_true a e
  | 0, _, false => f12_0_false a e
  | 1, _, true => f12_1_true a e
  | 1, _, false => f12_1_false a e
  | 2, _, true => f12_2_true a e
  | 2, _, false => f12_2_false a e
  | 3, _, true => f12_3_true a e
  | 3, _, false => f12_3_false a e
  | 4, _, true => f12_4_true a e
  | 4, _, false => f12_4_false a e
  | 5, _, true => f12_5_true a e
  | 5, _, false => f12_5_false a e
  | 6, _, true => f12_6_true a e
  | 6, _, false => f12_6_false a e
  | 7, _, true => f12_7_true a e
  | 7, _, false => f12_7_false a e
  | 8, _, true => f12_8_true a e
  | 8, _, false => f12_8_false a e
  | 9, _, true => f12_9_true a e
  | 9, _, false => f12_9_false a e
  | 10, _, true => f12_10_true a e
  | 10, _, false => f12_10_false a e
  | 11, _, true => f12_11_true a e
  | 11, _, false => f12_11_false a e
  | 12, _, true => f12_12_true a e
  | 12, _, false => f12_12_false a e
  | 13, _, true => f12_13_true a e
  | 13, _, false => f12_13_false a e
  | 14, _, true => f12_14_true a e
  | 14, _, false => f12_14_false a e
  | 15, _, true => f12_15_true a e
  | 15, _, false => f12_15_false a e
  | h + 16, hh, _ => by omega
theorem f13 (a e : Int) : ∀ h, h ≤ 15 → ∀ o, yesC (envX a e) 1000 100 3 [symAt 2 15 13, symAt 2 15 h, tok 0, .bool o, tok 8] 2 = true
  | 0, _, true => f13_0_true a e
  | 0, _, false => f13_0_false a e
  | 1, _, true => f13_1_true a e
  | 1, _, false => f13_1_false a e
  | 2, _, true => f13_2_true a e
  | 2, _, false => f13_2_false a e
  | 3, _, true => f13_3_true a e
  | 3, _, false => f13_3_false a e
  | 4, _, true => f13_4_true a e
  | 4, _, false => f13_4_false a e
  | 5, _, true => f13_5_true a e
  | 5, _, false => f13_5_false a e
  | 6, _, true => f13_6_true a e
  | 6, _, false => f13_6_false a e
  | 7, _, true => f13_7_true a e
  | 7, _, false => f13_7_false a e
  | 8, _, true => f13_8_true a e
  | 8, _, false => f13_8_false a e
  | 9, _, true => f13_9_true a e
  | 9, _, false => f13_9_false a e
  | 10, _, true => f13_10_true a e
  | 10, _, false => f13_10_false a e
  | 11, _, true => f13_11_true a e
  | 11, _, false => f13_11_false a e
  | 12, _, true => f13_12_true a e
  | 12, _, false => f13_12_false a e
  | 13, _, true => f13_13_true a e
  | 13, _, false => f13_13_false a e
  | 14, _, true => f13_14_true a e
  | 14, _, false => f13_14_false a e
  | 15, _, true => f13_15_true a e
  | 15, _, false => f13_15_false a e
  | h + 16, hh, _ => by omega
theorem f14 (a e : Int) : ∀ h, h ≤ 15 → ∀ o, yesC (envX a e) 1000 100 3 [symAt 2 15 14, symAt 2 15 h, tok 0, .bool o, tok 8] 2 = true
  | 0, _, true => f14_0_true a e
  | 0, _, false => f14_0_false a e
  | 1, _, true => f14_1_true a e
  | 1, _, false => f14_1_false a e
  | 2, _, true => f14_2_true a e
  | 2, _, false => f14_2_false a e
  | 3, _, true => f14_3_true a e
  | 3, _, false => f14_3_false a e
  | 4, _, true => f14_4_true a e
  | 4, _, false => f14_4_false a e
  | 5, _, true => f14_5_true a e
  | 5, _, false => f14_5_false a e
  | 6, _, true => f14_6_true a e
  | 6, _, false => f14_6_false a e
  | 7, _, true => f14_7_true a e
  | 7, _, false => f14_7_false a e
  | 8, _, true => f14_8_true a e
  | 8, _, false => f14_8_false a e
  | 9, _, true => f14_9_true a e
  | 9, _, false => f14_9_false a e
  | 10, _, true => f14_10_true a e
  | 10, _, false => f14_10_false a e
  | 11, _, true => f14_11_true a e
  | 11, _, false => f14_11_false a e
  | 12, _, true => f14_12_true a e
  | 12, _, false => f14_12_false a e
  | 13, _, true => f14_13_true a e
  | 13, _, false => f14_13_false a e
  | 14, _, true => f14_14_true a e
  | 14, _, false => f14_14_false a e
  | 15, _, true => f14_15_true a e
  | 15, _, false => f14_15_false a e
  | h + 16, hh, _ => by omega
theorem f15 (a e : Int) : ∀ h, h ≤ 15 → ∀ o, yesC (envX a e) 1000 100 3 [symAt 2 15 15, symAt 2 15 h, tok 0, .bool o, tok 8] 2 = true
  | 0, _, true => f15_0_true a e
  | 0, _, false => f15_0_false a e
  | 1, _, true => f15_1_true a e
  | 1, _, false => f15_1_false a e
  | 2, _, true => f15_2_true a e
  | 2, _, false => f15_2_false a e
  | 3, _, true => f15_3_true a e
  | 3, _, false => f15_3_false a e
  | 4, _, true => f15_4_true a e
  | 4, _, false => f15_4_false a e
  | 5, _, true => f15_5_true a e
  | 5, _, false => f15_5_false a e
  | 6, _, true => f15_6_true a e
  | 6, _, false => f15_6_false a e
  | 7, _, true => f15_7_true a e
  | 7, _, false => f15_7_false a e
  | 8, _, true => f15_8_true a e
  | 8, _, false => f15_8_false a e
  | 9, _, true => f15_9_true a e
  | 9, _, false => f15_9_false a e
  | 10, _, true => f15_10_true a e
  | 10, _, false => f15_10_false a e
  | 11, _, true => f15_11_true a e
  | 11, _, false => f15_11_false a e
  | 12, _, true => f15_12_true a e
  | 12, _, false => f15_12_false a e
  | 13, _, true => f15_13_true a e
  | 13, _, false => f15_13_false a e
  | 14, _, true => f15_14_true a e
  | 14, _, false => f15_14_false a e
  | 15, _, true => f15_15_true a e
  | 15, _, false => f15_15_false a e
  | h + 16, hh, _ => by omega
theorem f_ (a e : Int) : ∀ w, w ≤ 15 → ∀ h, h ≤ 15 → ∀ o, yesC (envX a e) 1000 100 3 [symAt 2 15 w, symAt 2 15 h, tok 0, .bool o, tok 8] 2 = true
  | 0, _ => f0 a e
  | 1, _ => f1 a e
  | 2, _ => f2 a e
  | 3, _ => f3 a e
  | 4, _ => f4 a e
  | 5, _ => f5 a e
  | 6, _ => f6 a e
  | 7, _ => f7 a e
  | 8, _ => f8 a e
  | 9, _ => f9 a e
  | 10, _ => f10 a e
  | 11, _ => f11 a e
  | 12, _ => f12 a e
  | 13, _ => f13 a e
  | 14, _ => f14 a e
  | 15, _ => f15 a e
  | w + 16, hh => by omega
theorem frames (a0 a1 a2 : Int) (a3 : Bool) (a4 : Int) (w : World) : Calls Tryz.prog 3 #[.int .i64 a0, .int .i64 a1, .int .i64 a2, .bool a3, .int .i64 a4] w fun e w' => e = .returned (.bool true) ∧ Go.RowKit.Below w.heap.size w w' := by
  obtain ⟨k, hk, hr⟩ := sym_bits a0 15 (by decide)
  obtain ⟨j, hj, hs⟩ := sym_bits a1 15 (by decide)
  obtain ⟨n, h⟩ := yes_of_fast (f_ a2 a4 k hk j hj a3)
  have m := madeX a2 a4
  have t0 : VRel (globMu 2 (envX a2 a4).sy) (tok 0) (.int .i64 a2) := (sem_tok (a := a2) (e := a4) (n := 0) rfl : TokV (syX a2 a4) _ _).rel
  have t8 : VRel (globMu 2 (envX a2 a4).sy) (tok 8) (.int .i64 a4) := (sem_tok (a := a2) (e := a4) (n := 8) rfl : TokV (syX a2 a4) _ _).rel
  exact closedAt m.ok m.coded (fun _ h => blt_lt0 h) h (args' := #[.int .i64 a0, .int .i64 a1, .int .i64 a2, .bool a3, .int .i64 a4]) (.cons _ _ _ _ (hr _) (.cons _ _ _ _ (hs _) (.cons _ _ _ _ t0 (.cons _ _ _ _ (.plain _ rfl) (.cons _ _ _ _ t8 .nil))))) w
end Go.Proofs.YtfofdglgacfklaaGreatDoor.Cl
namespace Go.Proofs.YtfofdglgacfklaaGreatDoor.textFrames
open Go.ChangeShapes Go.WideShapes Go.ChangeAt Go.RowKit

theorem own : ownKnob Tryz.prog.godebug = none := by kernel_rfl

set_option maxRecDepth 100000 in
theorem contract (H : Type) (enc : TypeId × Value → H) (W : World) (base : Nat) (args : Array Value) (ds gs : List (DataW H)) (before : List MemPlace)
    (hval : ∀ (j : Nat) t v, Tryz.f3.params[j]? = some t → args[j]? = some v → Value.okWide Tryz.prog W .any base t v)
    (hW : DataW.Whole enc Tryz.prog Tryz.f3.params.toList Rows.textFramesSpec.vars false W args.toList ds gs before) :
    Calls Tryz.prog 3 args W fun e W' => ∃ v, e = .returned v ∧ Rows.textFramesSpec.post enc Tryz.prog Tryz.f3 false true false false W args v W' := by
  have hW' := hW
  obtain ⟨p, q, hA0, hV, rfl, hfz, hnd⟩ := hW
  have hA : DataW.TrodAll enc Tryz.prog W 0 (fun _ => true) true Tryz.f3.params.toList args.toList ds p := hA0
  rw [Tryz.params3] at hA hval
  obtain ⟨v0, vs0, d0, ds0, p0, q0, hargs, rfl, rfl, h0, r0⟩ := trodAll_cons hA
  obtain ⟨v1, vs1, d1, ds1, p1, q1, rfl, rfl, rfl, h1, r1⟩ := trodAll_cons r0
  obtain ⟨v2, vs2, d2, ds2, p2, q2, rfl, rfl, rfl, h2, r2⟩ := trodAll_cons r1
  obtain ⟨v3, vs3, d3, ds3, p3, q3, rfl, rfl, rfl, h3, r3⟩ := trodAll_cons r2
  obtain ⟨v4, vs4, d4, ds4, p4, q4, rfl, rfl, rfl, h4, r4⟩ := trodAll_cons r3
  obtain ⟨rfl, rfl, rfl⟩ := trodAll_nil r4
  obtain rfl : args = #[v0, v1, v2, v3, v4] := by cases args; simp_all
  obtain ⟨rfl, rfl⟩ := trodVars_none hV
  obtain ⟨a0, rfl, rfl, rfl, w0⟩ := open_int Tryz.underlying3 (hval 0 3 v0 rfl rfl) h0
  obtain ⟨a1, rfl, rfl, rfl, w1⟩ := open_int Tryz.underlying3 (hval 1 3 v1 rfl rfl) h1
  obtain ⟨a2, rfl, rfl, rfl, w2⟩ := open_int Tryz.underlying3 (hval 2 3 v2 rfl rfl) h2
  obtain ⟨a3, rfl, rfl, rfl⟩ := open_bool Tryz.underlying4 (hval 3 4 v3 rfl rfl) h3
  obtain ⟨a4, rfl, rfl, rfl, w4⟩ := open_int Tryz.underlying3 (hval 4 3 v4 rfl rfl) h4
  clear hA0
  simp only [List.append_nil] at hW'
  refine (Cl.frames a0 a1 a2 a3 a4 W).mono fun e W' ⟨he, hg⟩ => ?_
  subst he
  exact ⟨_, rfl, ⟨_, _, _, [], [], [], hW', trodAll_cons_mk (shut_bool Tryz.underlying4 _) trodAll_mk0, (trodAll_cons_mk (shut_int Tryz.underlying3 w0) (trodAll_cons_mk (shut_int Tryz.underlying3 w1) (trodAll_cons_mk (shut_int Tryz.underlying3 w2) (trodAll_cons_mk (shut_bool Tryz.underlying4 _) (trodAll_cons_mk (shut_int Tryz.underlying3 w4) trodAll_mk0))))), rfl, hg.frame _, fun h => by cases h⟩⟩

def filled (cs : List Value) : Obj → Obj
  | .cells _ t frozen => .cells cs.toArray t frozen
  | o => o
def cellsOf : DataW Unit → List Value
  | .lit (.int k n) => [.int k n]
  | .agg ps => ps.flatMap fun p => match p with
    | .lit (.int k n) => [.int k n]
    | .agg qs => qs.flatMap fun q => match q with
      | .lit (.int k n) => [.int k n]
      | _ => []
    | _ => []
  | _ => []
/-- A world for the witness: the settled one, the tables holding what their initialisers lay. -/
noncomputable def laidWorld (os : Os) : World :=
  { World.holding Tryz.prog os ⟨#[], #[], []⟩ with heap := ((((((World.holding Tryz.prog os ⟨#[], #[], []⟩).heap.modify 0 (filled (cellsOf Rows.laid_internal_strconv_uint64pow10))).modify 4 (filled (cellsOf Rows.laid_unicode_utf8_first))).modify 5 (filled (cellsOf Rows.laid_unicode_utf8_acceptRanges))).modify 2 (filled (cellsOf Rows.laid_math_bits_deBruijn32tab))).modify 3 (filled (cellsOf Rows.laid_math_bits_deBruijn64tab))) }
theorem laid_met (os : Os) : laidMet Tryz.prog Rows.textFramesRow.laid ((laidWorld os).forCall (fun _ _ => 0) ⟨#[], #[.int .i64 0, .int .i64 0, .int .i64 0, .bool false, .int .i64 0], []⟩).memory :=
  laidMet_of_run' 8 (by kernel_rfl) (by kernel_rfl)
theorem reads (os : Os) {H : Type} (enc : TypeId × Value → H) : ∃ places, DataW.whole enc Tryz.prog ((laidWorld os).forCall (fun _ _ => 0) ⟨#[], #[.int .i64 0, .int .i64 0, .int .i64 0, .bool false, .int .i64 0], []⟩).memory Tryz.f3.params.toList Rows.textFramesSpec.vars false (#[.int .i64 0, .int .i64 0, .int .i64 0, .bool false, .int .i64 0] : Array Value).toList 8 = some ([.lit (.int .i64 0), .lit (.int .i64 0), .lit (.int .i64 0), .lit (.bool false), .lit (.int .i64 0)], [], places) :=
  ⟨[], by kernel_rfl⟩

set_option maxRecDepth 100000 in
theorem lifted (os : Os) (started : os.Started) (H : Type) (enc : TypeId × Value → H) (F : Stop.Interp) :
    ReturnsInHanded {} Tryz.checked os 3 .any ((OpenSpec.ofChange Rows.textFramesSpec).preRow enc Tryz.prog Tryz.f3 Rows.textFramesRow.domain false Rows.textFramesRow.laid) (((OpenSpec.ofChange Rows.textFramesSpec).at F).post enc Tryz.prog Tryz.f3 false true false false) := by
  obtain ⟨places, hx⟩ := reads os enc
  refine returnsInHanded_of_row (C := Tryz.checked) (s := OpenSpec.ofChange Rows.textFramesSpec) own started (by kernel_rfl) Tryz.func3
    (witness_row_at (enc := enc) (C := Tryz.checked) false (laidWorld os) #[.int .i64 0, .int .i64 0, .int .i64 0, .bool false, .int .i64 0] rfl (by kernel_rfl) (by kernel_rfl) (by kernel_rfl)
      (OpenSpec.preRow_of_cond 8 hx (by kernel_rfl) (fun k hk => by cases hk) (by kernel_rfl) (laid_met os))) ?_
  intro W base args ds gs before hval hW _ _ _ hL _ _
  exact contract H enc W base args ds gs before hval hW

theorem said : Rows.TextFramesSaid :=
  OpenClaim.holds_of_cond 3 Tryz.f3 rfl rfl rfl rfl rfl rfl rfl ⟨rfl, rfl, rfl, rfl, rfl⟩ rfl rfl rfl rfl rfl (by kernel_rfl) Tryz.func3 facts
    (of_decide_eq_true (by kernel_rfl)) (by unfold Func.isWrapper; first | (rw [if_pos (by decide +kernel)]; kernel_rfl) | (rw [if_neg (by decide +kernel)]; exact ⟨rfl, rfl⟩))
    (fun os started H enc _ F => by rw [OpenClaim.pre_eq_preRow]; exact lifted os started H enc F)

set_option maxRecDepth 100000 in
theorem plain (f : FuncId) (fn : Func) (hf : Tryz.pinned.checked.prog.funcNamed "polyptych/polyptychlaw28.TextFrames" = some f) (hfn : Tryz.pinned.checked.prog.funcs[f]? = some fn) :
    false = Tryz.pinned.checked.prog.looks [] ∧ ∀ (j : Nat) t, fn.params[j]? = some t → Tryz.pinned.checked.prog.wantsStandIn t = false := by
  obtain rfl : f = 3 := Option.some.inj ((show Tryz.prog.funcNamed "polyptych/polyptychlaw28.TextFrames" = some 3 by kernel_rfl).symm.trans hf) |>.symm
  obtain rfl : fn = Tryz.f3 := (Option.some.inj (Tryz.func3.symm.trans hfn)).symm
  refine ⟨by kernel_rfl, fun j t ht => ?_⟩
  rw [Tryz.params3] at ht
  have hm := Array.mem_of_getElem? ht
  simp only [List.mem_toArray, List.mem_cons, List.not_mem_nil, or_false] at hm
  rcases hm with rfl | rfl | rfl | rfl | rfl <;> first
    | exact (show Tryz.prog.wantsStandIn 3 = false by kernel_rfl)
    | exact (show Tryz.prog.wantsStandIn 4 = false by kernel_rfl)

/-- ████ THE CARD ████ -/
theorem card : Rows.TextFramesCardSaid :=
  Claim7.holds_tied_plain_at .later [] _ _ _ _ said (fun _ h => by cases h) (by kernel_rfl) (fun _ h => by cases h) textFrames_row_tie rfl ⟨rfl, rfl⟩ (by kernel_rfl) rfl plain (by kernel_rfl)
end Go.Proofs.YtfofdglgacfklaaGreatDoor.textFrames
