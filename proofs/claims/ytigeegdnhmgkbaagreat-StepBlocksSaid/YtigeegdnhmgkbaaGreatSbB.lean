/-
  The law's four cases, by the machine; and the law, of whatever arguments.
-/
import Derived.Test.YtigeegdnhmgkbaaGreatSbA
namespace Go.Proofs.YtigeegdnhmgkbaaGreat.Cl
open Go Go.Cm
theorem case11 : yesC env1 1000 100 5 [.bool true, .bool true] 1 = true := by kernel_rfl
theorem case10 : yesC env1 1000 100 5 [.bool true, .bool false] 1 = true := by kernel_rfl
theorem case01 : yesC env1 1000 100 5 [.bool false, .bool true] 1 = true := by kernel_rfl
theorem case00 : yesC env1 1000 100 5 [.bool false, .bool false] 1 = true := by kernel_rfl
theorem at_ : ∀ a b, yesC env1 1000 100 5 [.bool a, .bool b] 1 = true
  | true, true => case11
  | true, false => case10
  | false, true => case01
  | false, false => case00
theorem blocks (a0 a1 : Bool) (w : World) : Calls Tryz.prog 5 #[.bool a0, .bool a1] w fun e w' => e = .returned (.bool true) ∧ Go.RowKit.Below w.heap.size w w' := by
  obtain ⟨n, h⟩ := yes_of_fast (at_ a0 a1)
  exact closedAt made1.ok made1.coded (fun _ h => blt_lt0 h) h (.cons _ _ _ _ (.plain _ rfl) (.cons _ _ _ _ (.plain _ rfl) .nil)) w
end Go.Proofs.YtigeegdnhmgkbaaGreat.Cl
