/-
  The law's cases, by the machine: all of them.
-/
import Derived.Test.YtbdceglmldfnhaaGreatMfC0
import Derived.Test.YtbdceglmldfnhaaGreatMfC1
import Derived.Test.YtbdceglmldfnhaaGreatMfC2
import Derived.Test.YtbdceglmldfnhaaGreatMfC3
namespace Go.Proofs.YtbdceglmldfnhaaGreat.Cl
open Go Go.Cm

theorem at_ : ∀ k, k < 34 → yes env1 100000 3 [symAt 0 34 k] 1 = true
  | 0, _ => case0
  | 1, _ => case1
  | 2, _ => case2
  | 3, _ => case3
  | 4, _ => case4
  | 5, _ => case5
  | 6, _ => case6
  | 7, _ => case7
  | 8, _ => case8
  | 9, _ => case9
  | 10, _ => case10
  | 11, _ => case11
  | 12, _ => case12
  | 13, _ => case13
  | 14, _ => case14
  | 15, _ => case15
  | 16, _ => case16
  | 17, _ => case17
  | 18, _ => case18
  | 19, _ => case19
  | 20, _ => case20
  | 21, _ => case21
  | 22, _ => case22
  | 23, _ => case23
  | 24, _ => case24
  | 25, _ => case25
  | 26, _ => case26
  | 27, _ => case27
  | 28, _ => case28
  | 29, _ => case29
  | 30, _ => case30
  | 31, _ => case31
  | 32, _ => case32
  | 33, _ => case33
  | _ + 34, h => by omega
theorem forms (a0 : Int) (w : World) : Calls Tryz.prog 3 #[.int .i64 a0] w fun e w' => e = .returned (.bool true) ∧ Go.RowKit.Below w.heap.size w w' := by
  obtain ⟨k, hk, hr⟩ := sym_rest a0 34 (by decide) (by decide)
  exact closedAt made1.ok made1.coded (fun _ h => blt_lt0 h) (at_ k hk) (.cons _ _ _ _ (hr _) .nil) w
end Go.Proofs.YtbdceglmldfnhaaGreat.Cl
