/-
  A part's panes.
-/
import Derived.Test.YtkcibhokjiciiaaBo
import Derived.Tactics2
import Derived.WalkSpells
import Derived.StillTactics
import Derived.OwnWalk
import Derived.Laws.Pointers
import Derived.Deep.RegionHeld3
import Derived.Deep.DrawnRows
import Derived.Deep.AppendLies
import Derived.KernelRfl
namespace Go.Proofs
open Go.RowKit Go.Lib Tp
attribute [local go_sem ↓] Go.wp_at_zero Go.wp_at_succ

theorem Try.infoInt : (Try.prog.info? 3).map (fun i => (i.zero, i.size, i.bytes)) = some (some (.int .i64 0), 1, 8) := by kernel_rfl

/-- A row of one's own stays, where only what is new is written. -/
theorem own_below {w w' : World} {base : Nat} {e : TypeId} {size : Nat} {v : Value} {n : Nat} {xs : List Value} (h : w.ownsRow base e size v n xs) (hW : Below w.heap.size w w') : w'.ownsRow base e size v n xs :=
  h.kept (row := none) ⟨hW.os, hW.tape, hW.output, hW.size, fun k hk _ => hW.block k hk⟩ (by cases hv : v.ownBlock <;> simp)
theorem own_base {w : World} {base base' : Nat} {e : TypeId} {size : Nat} {v : Value} {n : Nat} {xs : List Value} (h : w.ownsRow base e size v n xs) (hb : base' ≤ base) : w.ownsRow base' e size v n xs := by
  refine ⟨h.1, ?_⟩
  rcases h.2 with h | ⟨g, cap, cur, e1, e2, r⟩
  · exact .inl h
  · exact .inr ⟨g, cap, cur, e1, Nat.le_trans hb e2, r⟩

theorem un_drew {a w : World} {B : Nat} (h : Below B a w) : Below B a w.drew := h.drew
theorem drew_l {a w : World} {B : Nat} (h : Below B a.drew w) : Below B a w := ⟨h.os, h.tape, h.output, h.size, h.block⟩

def PanesPost (T : Tr) (w : World) (e : Ending) (w' : World) : Prop :=
  ∃ v, e = .returned v ∧ w'.ownsRow w.heap.size 3 1 v T.panes.length (T.panes.map (Value.int .i64)) ∧ Below w.heap.size w w'

set_option maxRecDepth 100000 in
set_option maxHeartbeats 1000000 in
theorem Try.panes_ok : ∀ (T : Tr) (k : Nat) (S : List Nat) (w : World), T.panes.length ≤ 1000 → PartAt 66 w T k S →
    Calls Try.prog 28 #[.pointer (some ⟨k, 0, none⟩)] w (PanesPost T w)
  | .leaf p, k, S, w, hn, ⟨_, h⟩ => by
    have c0 : w.cell? ⟨k, 0, none⟩ = some (.int .i64 p) := cell_block h 0
    have c3 : w.cell? ⟨k, 3, none⟩ = some (.pointer none) := cell_block h 3
    clear h
    go_enter Try.func28, Try.ntmps28
    go_wp2
    go_ret
    exact ⟨_, rfl, World.ownsRow_lit w #[.int .i64 p] 1 (Nat.le_refl _) (by simp [maxLen]) rfl, (Below.refl _ w).alloc (Nat.le_refl _) _⟩
  | .node d f A B, k, S, w, hn, ⟨ka, kb, Sa, Sb, _, h, ha, hb⟩ => by
    obtain ⟨i0, hi0, hz0, hz1, hz2⟩ := info_parts Try.infoInt
    have c3 : w.cell? ⟨k, 3, none⟩ = some (.pointer (some ⟨ka, 0, none⟩)) := cell_block h 3
    have c4 : w.cell? ⟨k, 4, none⟩ = some (.pointer (some ⟨kb, 0, none⟩)) := cell_block h 4
    have hk : k < w.heap.size := (Array.getElem?_eq_some_iff.1 h).1
    simp only [Tr.panes, List.length_append] at hn
    have hpB : 0 < B.panes.length := by have := B.panes_length; have := B.size_pos; omega
    have ihA := Lib.hid (fun w' (hW : Below w.heap.size w w') => Try.panes_ok A ka Sa w' (by omega) (ha.below hW))
    have ihB := Lib.hid (fun w' (hW : Below w.heap.size w w') => Try.panes_ok B kb Sb w' (by omega) (hb.below hW))
    clear h ha hb
    go_enter Try.func28, Try.ntmps28
    go_wp2_with fail
    go_region_held3 (fun w' => w'.cell? ⟨k, 3, none⟩ = some (.pointer (some ⟨ka, 0, none⟩)) ∧ w'.cell? ⟨k, 4, none⟩ = some (.pointer (some ⟨kb, 0, none⟩))) (go_keep)
      (first
        | ((go_at_call_of 28 (Value.pointer (some ⟨ka, 0, none⟩)); refine (ihA.out _ (un_drew (Below.refl _ _))).mono ?_; rintro e w1 ⟨va, rfl, hoa, hb1⟩
            have HB1 : Below w.heap.size w w1 := drew_l hb1
            have k3 : w1.cell? ⟨k, 3, none⟩ = _ := (HB1.cell (p := ⟨k, 3, none⟩) hk).trans c3
            have k4 : w1.cell? ⟨k, 4, none⟩ = _ := (HB1.cell (p := ⟨k, 4, none⟩) hk).trans c4))
        | ((go_at_call_of 28 (Value.pointer (some ⟨kb, 0, none⟩)); refine (ihB.out _ HB1).mono ?_; rintro e w2 ⟨vb, rfl, hob, hb2⟩
            have HB2 : Below w.heap.size w w2 := HB1.trans (hb2.mono HB1.size)
            have k3 : w2.cell? ⟨k, 3, none⟩ = _ := (HB2.cell (p := ⟨k, 3, none⟩) hk).trans c3
            have k4 : w2.cell? ⟨k, 4, none⟩ = _ := (HB2.cell (p := ⟨k, 4, none⟩) hk).trans c4
            have hoa2 := own_base (own_below hoa hb2) (Nat.le_refl w.heap.size)
            have hltA := hoa.lt
            obtain ⟨gb, cb, rfl, hgb, hgb2⟩ := hob.form hpB))
        | ((refine step_append_lies _ (by rfl) (.tmp 17) (.tmp 22) _ (by rfl) w.heap.size 3 i0 _ 1 8 Try.underlying22 hi0 hz0 hz1 hz2 rfl (by omega) va A.panes.length _ (by rfl) hoa2
              ⟨gb, 0, none⟩ B.panes.length cb (B.panes.map (Value.int .i64)) (by rfl) (by simp) (hob.cells (g := gb) rfl) (by simp [Value.oneCell']) hpB (by simp [maxLen]; omega) (by omega) HB2.size w2.heap.size rfl ?_; intro gg cap w3 hown3 hgrow hat hlt
            have k3 : w3.cell? ⟨k, 3, none⟩ = _ := hgrow.cell k3 (fun e => by have := (hltA k e.symm).1; exact absurd hk (Nat.not_lt.2 this))
            have k4 : w3.cell? ⟨k, 4, none⟩ = _ := hgrow.cell k4 (fun e => by have := (hltA k e.symm).1; exact absurd hk (Nat.not_lt.2 this)))))
    go_wp2
    go_ret
    refine ⟨_, rfl, ?_, HB2.grown hgrow HB2.size (fun i e => (hltA i e).1)⟩
    simpa [Tr.panes] using hown3
end Go.Proofs
