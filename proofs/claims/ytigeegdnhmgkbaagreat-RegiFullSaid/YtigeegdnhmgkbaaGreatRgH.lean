/-
  What the row's form asks of the program, by pieces.
-/
import Derived.Test.YtigeegdnhmgkbaaGreatRows
import Derived.WalkKit
import Derived.Below
import Derived.ProofKit
import Derived.OpenShut
import Derived.Test.YtigeegdnhmgkbaaGreatChecked
namespace Go.Proofs.YtigeegdnhmgkbaaGreat.regiFull
open Go.ChangeShapes Go.WideShapes Go.ChangeAt Go.RowKit
theorem fa : (Rows.regiFullRow.inPlace == Tryz.pinned.checked.prog.inPlace 3) = true := by kernel_rfl
theorem fb : (Rows.regiFullRow.unfollowed == Tryz.pinned.checked.prog.unfollowed 3) = true := by kernel_rfl
theorem fc : (Rows.regiFullRow.recurses == Tryz.pinned.checked.prog.recurses 3) = true := by kernel_rfl
theorem fd : (Rows.regiFullRow.named == Tryz.pinned.checked.prog.varsNamed 3) = true := by kernel_rfl
set_option maxHeartbeats 4000000 in
theorem facts : joinedFacts Tryz.pinned.checked.prog 3 Tryz.f3 Rows.regiFullSpec Rows.regiFullRow = true := by
  unfold joinedFacts
  simp only [Bool.and_eq_true]
  repeat' apply And.intro
  all_goals first
    | with_reducible exact fa
    | with_reducible exact fb
    | with_reducible exact fc
    | with_reducible exact fd
    | kernel_rfl

end Go.Proofs.YtigeegdnhmgkbaaGreat.regiFull
