/-
  NeedLess: for every input of the types of its arguments the law returns true; the arguments read behind the call as they read before. No condition.
-/
import Derived.Test.YtinjjlelliedpaaGreatRows
import Derived.Test.YtinjjlelliedpaaGreatNlD
import Derived.WalkKit
import Derived.Below
import Derived.ProofKit
import Derived.OpenShut
namespace Go.Proofs.YtinjjlelliedpaaGreat.needLess
open Go.ChangeShapes Go.WideShapes Go.ChangeAt Go.RowKit

theorem own : ownKnob Tryz.prog.godebug = none := by kernel_rfl
theorem tidy : Cm.Tidy Tryz.prog := Cm.tidy_of Tryz.prog (by kernel_rfl) (by kernel_rfl) (by kernel_rfl) (by kernel_rfl)
theorem fnIs (H : Type) : ∀ ds : List (DataW H), ds.length = Tryz.f3.params.size → Rows.needLessSpec.fn H ds = { results := [.lit (.bool true)], args := ds }
  | [_, _], _ => rfl
  | [], h => by cases h
  | [_], h => by cases h
  | _ :: _ :: _ :: _, h => by
    have : Tryz.f3.params.size = 2 := rfl
    simp only [List.length_cons, this] at h
    omega

set_option maxRecDepth 100000 in
theorem lifted (os : Os) (started : os.Started) (H : Type) (enc : TypeId × Value → H) :
    ReturnsInHanded {} Tryz.checked os 3 .any (Rows.needLessSpec.pre6 enc Tryz.prog Tryz.f3 Rows.needLessRow.domain false) (Rows.needLessSpec.post enc Tryz.prog Tryz.f3 false true false false) := by
  refine returnsInHanded_of_change (C := Tryz.checked) own started (by kernel_rfl) Tryz.func3
    (ChangeSpec.witness6 (enc := enc) (C := Tryz.checked) false ⟨#[], #[.slice none 0 0, .int .i64 0], []⟩ 8 (by kernel_rfl) (by kernel_rfl) (by kernel_rfl) (by kernel_rfl)) ?_
  intro W base args ds gs before hval0 hW hcnd _
  exact Cm.law_post tidy [.slice (.int .i64), .int .i64] rfl (fnIs H) rfl Tryz.underlying4 (by kernel_rfl) (by kernel_rfl) Cl.less W base args ds gs before hval0 hW

theorem fa : (Rows.needLessRow.inPlace == Tryz.pinned.checked.prog.inPlace 3) = true := by kernel_rfl
theorem fb : (Rows.needLessRow.unfollowed == Tryz.pinned.checked.prog.unfollowed 3) = true := by kernel_rfl
theorem fc : (Rows.needLessRow.recurses == Tryz.pinned.checked.prog.recurses 3) = true := by kernel_rfl
theorem fd : (Rows.needLessRow.named == Tryz.pinned.checked.prog.varsNamed 3) = true := by kernel_rfl
set_option maxHeartbeats 4000000 in
theorem facts : joinedFacts Tryz.pinned.checked.prog 3 Tryz.f3 Rows.needLessSpec Rows.needLessRow = true := by
  unfold joinedFacts
  simp only [Bool.and_eq_true]
  repeat' apply And.intro
  all_goals first
    | with_reducible exact fa
    | with_reducible exact fb
    | with_reducible exact fc
    | with_reducible exact fd
    | kernel_rfl

theorem over : Rows.needLessRow.holds Tryz.pinned (OpenSpec.ofChange Rows.needLessSpec) :=
  OpenClaim.holds_of_wide 3 Tryz.f3 rfl rfl rfl rfl rfl rfl rfl ⟨rfl, rfl, rfl, rfl, rfl⟩ rfl rfl rfl rfl rfl (by kernel_rfl) Tryz.func3 facts
    (of_decide_eq_true (by kernel_rfl)) (by unfold Func.isWrapper; first | (rw [if_pos (by decide +kernel)]; kernel_rfl) | (rw [if_neg (by decide +kernel)]; exact ⟨rfl, rfl⟩))
    (fun os started H enc _ => lifted os started H enc)

/-- ████ THE STATEMENT ████ -/
theorem proved : Rows.NeedLessSaid :=
  over
end Go.Proofs.YtinjjlelliedpaaGreat.needLess
