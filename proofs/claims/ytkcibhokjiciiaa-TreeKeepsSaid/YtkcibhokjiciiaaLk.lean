/-
  TreeKeeps: for every input of the types of its arguments the law returns true; the arguments read behind the call as they read before. No condition.
-/
import Derived.Test.YtkcibhokjiciiaaRows
import Derived.Test.YtkcibhokjiciiaaBm
import Derived.Test.YtkcibhokjiciiaaBk
import Derived.Test.YtkcibhokjiciiaaBl
import Derived.WalkKit
import Derived.Below
import Derived.ProofKit
import Derived.OpenShut
namespace Go.Proofs.Ytkcibhokjiciiaa.treeKeeps
open Go.ChangeShapes Go.WideShapes Go.ChangeAt Go.RowKit

theorem own : ownKnob Try.prog.godebug = none := by kernel_rfl
theorem tidy : Cm.Tidy Try.prog := Cm.tidy_of Try.prog (by kernel_rfl) (by kernel_rfl) (by kernel_rfl) (by kernel_rfl)
theorem fnIs (H : Type) : ∀ ds : List (DataW H), ds.length = Try.f6.params.size → Rows.treeKeepsSpec.fn H ds = { results := [.lit (.bool true)], args := ds }
  | [_, _, _], _ => rfl
  | [], h => by cases h
  | [_], h => by cases h
  | [_, _], h => by cases h
  | _ :: _ :: _ :: _ :: _, h => by
    have : Try.f6.params.size = 3 := rfl
    simp only [List.length_cons, this] at h
    omega

theorem law (cs : List Value) (hcs : Cm.HasArgs [.slice (.int .i64), .int .i64, .int .i64] cs) (W : World) (args : Array Value) (hc : Cm.Colds (fun b => W.heap[b]?) cs args.toList) :
    Calls Try.prog 6 args W fun e W' => e = .returned (.bool true) ∧ Below W.heap.size W W' := by
  obtain ⟨x0, r0, h0, ⟨x1, r1, h1, ⟨x2, r2, h2, hr, rfl⟩, rfl⟩, rfl⟩ := hcs
  have hr : r2 = [] := hr
  subst hr
  obtain ⟨al⟩ := args
  cases hc with
  | cons _ y0 _ l0 c0 hl0 =>
    cases hl0 with
    | cons _ y1 _ l1 c1 hl1 =>
      cases hl1 with
      | cons _ y2 _ l2 c2 hl2 =>
        cases hl2
        obtain ⟨xs0, b0, e0⟩ := Cl.ints_in h0 c0
        obtain ⟨a1, w1, rfl⟩ := Cl.int_in h1 c1
        obtain ⟨a2, w2, rfl⟩ := Cl.int_in h2 c2
        exact Try.keeps_ok Cl.awake xs0 y0 a1 a2 W b0 e0

set_option maxRecDepth 100000 in
theorem lifted (os : Os) (started : os.Started) (H : Type) (enc : TypeId × Value → H) :
    ReturnsInHanded {} Try.checked os 6 .any (Rows.treeKeepsSpec.pre6 enc Try.prog Try.f6 Rows.treeKeepsRow.domain false) (Rows.treeKeepsSpec.post enc Try.prog Try.f6 false true false false) := by
  refine returnsInHanded_of_change (C := Try.checked) own started (by kernel_rfl) Try.func6
    (ChangeSpec.witness6 (enc := enc) (C := Try.checked) false ⟨#[], #[.slice none 0 0, .int .i64 0, .int .i64 0], []⟩ 8 (by kernel_rfl) (by kernel_rfl) (by kernel_rfl) (by kernel_rfl)) ?_
  intro W base args ds gs before hval0 hW hcnd _
  exact Cm.law_post tidy [.slice (.int .i64), .int .i64, .int .i64] rfl (fnIs H) rfl Try.underlying4 (by kernel_rfl) (by kernel_rfl) law W base args ds gs before hval0 hW

theorem fa : (Rows.treeKeepsRow.inPlace == Try.pinned.checked.prog.inPlace 6) = true := by kernel_rfl
theorem fb : (Rows.treeKeepsRow.unfollowed == Try.pinned.checked.prog.unfollowed 6) = true := by kernel_rfl
theorem fc : (Rows.treeKeepsRow.recurses == Try.pinned.checked.prog.recurses 6) = true := by kernel_rfl
theorem fd : (Rows.treeKeepsRow.named == Try.pinned.checked.prog.varsNamed 6) = true := by kernel_rfl
set_option maxHeartbeats 4000000 in
theorem facts : joinedFacts Try.pinned.checked.prog 6 Try.f6 Rows.treeKeepsSpec Rows.treeKeepsRow = true := by
  unfold joinedFacts
  simp only [Bool.and_eq_true]
  repeat' apply And.intro
  all_goals first
    | with_reducible exact fa
    | with_reducible exact fb
    | with_reducible exact fc
    | with_reducible exact fd
    | kernel_rfl

theorem over : Rows.treeKeepsRow.holds Try.pinned (OpenSpec.ofChange Rows.treeKeepsSpec) :=
  OpenClaim.holds_of_wide 6 Try.f6 rfl rfl rfl rfl rfl rfl rfl ⟨rfl, rfl, rfl, rfl, rfl⟩ rfl rfl rfl rfl rfl (by kernel_rfl) Try.func6 facts
    (of_decide_eq_true (by kernel_rfl)) (by unfold Func.isWrapper; first | (rw [if_pos (by decide +kernel)]; kernel_rfl) | (rw [if_neg (by decide +kernel)]; exact ⟨rfl, rfl⟩))
    (fun os started H enc _ => lifted os started H enc)

/-- ████ THE STATEMENT ████ -/
theorem proved : Rows.TreeKeepsSaid :=
  over
end Go.Proofs.Ytkcibhokjiciiaa.treeKeeps
