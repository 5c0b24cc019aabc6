/-
  The law's cases, by the machine; and the law of whatever argument.
-/
import Derived.Test.YtinjjlelliedpaaGreatDoorTxT
namespace Go.Proofs.YtinjjlelliedpaaGreatDoor.Cl
open Go Go.Cm
theorem c0 : yesC envT 1000 100 3 [symAt 0 14 0] 1 = true := by kernel_rfl
theorem c1 : yesC envT 1000 100 3 [symAt 0 14 1] 1 = true := by kernel_rfl
theorem c2 : yesC envT 1000 100 3 [symAt 0 14 2] 1 = true := by kernel_rfl
theorem c3 : yesC envT 1000 100 3 [symAt 0 14 3] 1 = true := by kernel_rfl
theorem c4 : yesC envT 1000 100 3 [symAt 0 14 4] 1 = true := by kernel_rfl
theorem c5 : yesC envT 1000 100 3 [symAt 0 14 5] 1 = true := by kernel_rfl
theorem c6 : yesC envT 1000 100 3 [symAt 0 14 6] 1 = true := by kernel_rfl
theorem c7 : yesC envT 1000 100 3 [symAt 0 14 7] 1 = true := by kernel_rfl
theorem c8 : yesC envT 1000 100 3 [symAt 0 14 8] 1 = true := by kernel_rfl
theorem c9 : yesC envT 1000 100 3 [symAt 0 14 9] 1 = true := by kernel_rfl
theorem c10 : yesC envT 1000 100 3 [symAt 0 14 10] 1 = true := by kernel_rfl
theorem c11 : yesC envT 1000 100 3 [symAt 0 14 11] 1 = true := by kernel_rfl
theorem c12 : yesC envT 1000 100 3 [symAt 0 14 12] 1 = true := by kernel_rfl
theorem c13 : yesC envT 1000 100 3 [symAt 0 14 13] 1 = true := by kernel_rfl
theorem at_ : ∀ k, k < 14 → yesC envT 1000 100 3 [symAt 0 14 k] 1 = true
  | 0, _ => c0
  | 1, _ => c1
  | 2, _ => c2
  | 3, _ => c3
  | 4, _ => c4
  | 5, _ => c5
  | 6, _ => c6
  | 7, _ => c7
  | 8, _ => c8
  | 9, _ => c9
  | 10, _ => c10
  | 11, _ => c11
  | 12, _ => c12
  | 13, _ => c13
  | _ + 14, h => by omega
theorem forms (a0 : Int) (w : World) : Calls Tryz.prog 3 #[.int .i64 a0] w fun e w' => e = .returned (.bool true) ∧ Go.RowKit.Below w.heap.size w w' := by
  obtain ⟨k, hk, hr⟩ := sym_rest a0 14 (by decide) (by decide)
  obtain ⟨n, h⟩ := yes_of_fast (at_ k hk)
  exact closedAt madeT.ok madeT.coded (fun _ h => blt_lt0 h) h (.cons _ _ _ _ (hr _) .nil) w
end Go.Proofs.YtinjjlelliedpaaGreatDoor.Cl
