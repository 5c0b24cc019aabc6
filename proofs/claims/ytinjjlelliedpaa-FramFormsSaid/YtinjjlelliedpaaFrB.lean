/-
  The law's cases, by the machine; and the law of whatever argument.
-/
import Derived.Test.YtinjjlelliedpaaFrA
namespace Go.Proofs.Ytinjjlelliedpaa.Cl
open Go Go.Cm
theorem c0 : yesC env1 1000 100 3 [symAt 0 9 0] 1 = true := by kernel_rfl
theorem c1 : yesC env1 1000 100 3 [symAt 0 9 1] 1 = true := by kernel_rfl
theorem c2 : yesC env1 1000 100 3 [symAt 0 9 2] 1 = true := by kernel_rfl
theorem c3 : yesC env1 1000 100 3 [symAt 0 9 3] 1 = true := by kernel_rfl
theorem c4 : yesC env1 1000 100 3 [symAt 0 9 4] 1 = true := by kernel_rfl
theorem c5 : yesC env1 1000 100 3 [symAt 0 9 5] 1 = true := by kernel_rfl
theorem c6 : yesC env1 1000 100 3 [symAt 0 9 6] 1 = true := by kernel_rfl
theorem c7 : yesC env1 1000 100 3 [symAt 0 9 7] 1 = true := by kernel_rfl
theorem c8 : yesC env1 1000 100 3 [symAt 0 9 8] 1 = true := by kernel_rfl
theorem at_ : ∀ k, k < 9 → yesC env1 1000 100 3 [symAt 0 9 k] 1 = true
  | 0, _ => c0
  | 1, _ => c1
  | 2, _ => c2
  | 3, _ => c3
  | 4, _ => c4
  | 5, _ => c5
  | 6, _ => c6
  | 7, _ => c7
  | 8, _ => c8
  | _ + 9, h => by omega
theorem forms (a0 : Int) (w : World) : Calls Try.prog 3 #[.int .i64 a0] w fun e w' => e = .returned (.bool true) ∧ Go.RowKit.Below w.heap.size w w' := by
  obtain ⟨k, hk, hr⟩ := sym_rest a0 9 (by decide) (by decide)
  obtain ⟨n, h⟩ := yes_of_fast (at_ k hk)
  exact closedAt made1.ok made1.coded (fun _ h => blt_lt0 h) h (.cons _ _ _ _ (hr _) .nil) w
end Go.Proofs.Ytinjjlelliedpaa.Cl
