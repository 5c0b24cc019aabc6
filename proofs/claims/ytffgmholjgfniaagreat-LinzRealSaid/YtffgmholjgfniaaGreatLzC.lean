/-
  The law's six cases, of whatever arguments.
-/
import Derived.Test.YtffgmholjgfniaaGreatLzBtrue
import Derived.Test.YtffgmholjgfniaaGreatLzBfalse
namespace Go.Proofs.YtffgmholjgfniaaGreat.Cl
open Go Go.Cm

theorem at_ : ∀ b k, k < 3 → yes env1 100000 3 [.bool b, symAt 0 3 k] 1 = true
  | true, 0, _ => true0
  | true, 1, _ => true1
  | true, 2, _ => true2
  | false, 0, _ => false0
  | false, 1, _ => false1
  | false, 2, _ => false2
  | _, _ + 3, h => by omega
theorem real (a0 : Bool) (a1 : Int) (w : World) : Calls Tryz.prog 3 #[.bool a0, .int .i64 a1] w fun e w' => e = .returned (.bool true) ∧ Go.RowKit.Below w.heap.size w w' := by
  obtain ⟨k, hk, hr⟩ := sym_rest a1 3 (by decide) (by decide)
  exact closedAt made1.ok made1.coded (fun _ h => blt_lt0 h) (at_ a0 k hk) (.cons _ _ _ _ (.plain _ rfl) (.cons _ _ _ _ (hr _) .nil)) w
end Go.Proofs.YtffgmholjgfniaaGreat.Cl
