/-
  A part's least size, and the leaf of a pane. A part's nodes.
-/
import Derived.Test.YtkcibhokjiciiaaBq
import Derived.Test.YtkcibhokjiciiaaBn
import Derived.Test.YtkcibhokjiciiaaBs
namespace Tp
theorem Tr.least_le : ∀ T : Tr, T.lw ≤ T.size ∧ T.lh ≤ T.size
  | .leaf _ => by simp [Tr.lw, Tr.lh, Tr.size]
  | .node d _ a b => by
    have := Tr.least_le a; have := Tr.least_le b; have := Tr.least_pos a; have := Tr.least_pos b
    simp only [Tr.lw, Tr.lh, Tr.size]
    split <;> omega
end Tp
namespace Go.Proofs
open Go.RowKit Go.Lib Tp
attribute [local go_sem ↓] Go.wp_at_zero Go.wp_at_succ

def LeastPost (T : Tr) (w : World) (e : Ending) (w' : World) : Prop := e = .returned (.tuple #[.int .i64 T.lw, .int .i64 T.lh]) ∧ w = w'

set_option maxRecDepth 100000 in
theorem Try.least_ok : ∀ (T : Tr) (k : Nat) (S : List Nat) (w : World), T.size ≤ 1000 → T.good → PartAt 66 w T k S →
    Calls Try.prog 42 #[.pointer (some ⟨k, 0, none⟩)] w (LeastPost T w)
  | .leaf p, k, S, w, hn, hg, ⟨_, h⟩ => by
    have c3 : w.cell? ⟨k, 3, none⟩ = some (.pointer none) := cell_block h 3
    clear h
    go_enter Try.func42, Try.ntmps42
    go_wp2
    go_ret2
    exact ⟨rfl, rfl⟩
  | .node d f A B, k, S, w, hn, ⟨hd, _, _, hgA, hgB⟩, ⟨ka, kb, Sa, Sb, _, h, ha, hb⟩ => by
    have c1 : w.cell? ⟨k, 1, none⟩ = some (.int .i64 d) := cell_block h 1
    have c3 : w.cell? ⟨k, 3, none⟩ = some (.pointer (some ⟨ka, 0, none⟩)) := cell_block h 3
    have c4 : w.cell? ⟨k, 4, none⟩ = some (.pointer (some ⟨kb, 0, none⟩)) := cell_block h 4
    simp only [Tr.size] at hn
    have ihA := Lib.hid (Try.least_ok A ka Sa w (by omega) hgA ha)
    have ihB := Lib.hid (Try.least_ok B kb Sb w (by omega) hgB hb)
    have lA := A.least_le; have lB := B.least_le; have pA := A.least_pos; have pB := B.least_pos
    obtain ⟨a1, a2⟩ := lA; obtain ⟨b1, b2⟩ := lB; obtain ⟨a3, a4⟩ := pA; obtain ⟨b3, b4⟩ := pB
    clear h ha hb hgA hgB
    rcases hd with rfl | rfl
    all_goals
      go_enter Try.func42, Try.ntmps42
      go_wp2_with (first
        | (go_at_call_of 42 (Value.pointer (some ⟨ka, 0, none⟩)); refine (ihA.out).mono ?_; rintro e w1 ⟨rfl, rfl⟩)
        | (go_at_call_of 42 (Value.pointer (some ⟨kb, 0, none⟩)); refine (ihB.out).mono ?_; rintro e w1 ⟨rfl, rfl⟩))
      all_goals (go_ret2; refine ⟨?_, rfl⟩; simp [Tr.lw, Tr.lh] <;> omega)

/-- Where a pane's leaf lies. -/
def leafAt (w : World) (ty : TypeId) (p : Int) : Tr → Nat → List Nat → Option Nat → Prop
  | .leaf q, k, _, o => o = if q = p then some k else none
  | .node _ _ A B, k, S, o => ∃ ka kb Sa Sb oa ob, S = k :: (Sa ++ Sb) ∧ w.cell? ⟨k, 3, none⟩ = some (.pointer (some ⟨ka, 0, none⟩)) ∧ w.cell? ⟨k, 4, none⟩ = some (.pointer (some ⟨kb, 0, none⟩)) ∧
      leafAt w ty p A ka Sa oa ∧ leafAt w ty p B kb Sb ob ∧ o = oa.or ob
end Go.Proofs
namespace Go.Proofs
open Go.RowKit Go.Lib Tp
attribute [local go_sem ↓] Go.wp_at_zero Go.wp_at_succ

def NodesPost (T : Tr) (o : Nat) (w : World) (e : Ending) (w' : World) : Prop :=
  ∃ v, e = .returned v ∧ w'.ownsRow w.heap.size 73 5 v T.size ((T.nodes o).flatMap Nd.cells) ∧ Below w.heap.size w w'

theorem one_cells (l : List Nd) : ∀ u ∈ l.flatMap Nd.cells, u.oneCell' = true := fun u hu => by
  obtain ⟨x, _, hx⟩ := List.mem_flatMap.1 hu
  simp only [Nd.cells, List.mem_cons, List.not_mem_nil, or_false] at hx
  rcases hx with rfl | rfl | rfl | rfl | rfl <;> rfl

set_option maxRecDepth 100000 in
set_option maxHeartbeats 1000000 in
theorem Try.nodes_ok : ∀ (T : Tr) (k : Nat) (S : List Nat) (o : Nat) (q : Int) (w : World), q = (o : Int) → o + T.size ≤ 1000 → PartAt 66 w T k S →
    Calls Try.prog 55 #[.pointer (some ⟨k, 0, none⟩), .int .i64 q] w (NodesPost T o w)
  | .leaf p, k, S, o, q, w, hq, hn, ⟨_, h⟩ => by
    subst hq
    have c0 : w.cell? ⟨k, 0, none⟩ = some (.int .i64 p) := cell_block h 0
    have c3 : w.cell? ⟨k, 3, none⟩ = some (.pointer none) := cell_block h 3
    clear h
    go_enter Try.func55, Try.ntmps55
    go_wp2
    go_ret
    exact ⟨_, rfl, World.ownsRow_lit w #[.int .i64 p, .int .i64 0, .int .i64 0, .int .i64 0, .int .i64 0] 1 (Nat.le_refl _) (by simp [maxLen]) rfl, (Below.refl _ w).alloc (Nat.le_refl _) _⟩
  | .node d f A B, k, S, o, q, w, hq, hn, ⟨ka, kb, Sa, Sb, _, h, ha, hb⟩ => by
    subst hq
    have c1 : w.cell? ⟨k, 1, none⟩ = some (.int .i64 d) := cell_block h 1
    have c2 : w.cell? ⟨k, 2, none⟩ = some (.int .i64 f) := cell_block h 2
    have c3 : w.cell? ⟨k, 3, none⟩ = some (.pointer (some ⟨ka, 0, none⟩)) := cell_block h 3
    have c4 : w.cell? ⟨k, 4, none⟩ = some (.pointer (some ⟨kb, 0, none⟩)) := cell_block h 4
    have hk : k < w.heap.size := (Array.getElem?_eq_some_iff.1 h).1
    simp only [Tr.size] at hn
    have hpA : 0 < A.size := A.size_pos
    have hpB : 0 < B.size := B.size_pos
    have ihA := Lib.hid (fun w' (hW : Below w.heap.size w w') => Try.nodes_ok A ka Sa (o + 1) ((o : Int) + 1) w' (by simp) (by omega) (ha.below hW))
    have ihB := Lib.hid (fun w' (hW : Below w.heap.size w w') => Try.nodes_ok B kb Sb (o + 1 + A.size) ((o : Int) + 1 + (A.size : Int)) w' (by simp) (by omega) (hb.below hW))
    clear h ha hb
    go_enter Try.func55, Try.ntmps55
    go_wp2_with (go_at_call_of 55 (Value.pointer (some ⟨ka, 0, none⟩)); refine (ihA.out _ (Below.refl _ _)).mono ?_; rintro e w1 ⟨va, rfl, hoa, HB1⟩; obtain ⟨ga, cA, rfl, hga, hga2⟩ := hoa.form hpA)
    have hz1 : w.heap.size ≤ w1.heap.size := HB1.size
    have k1 : w1.cell? ⟨k, 1, none⟩ = _ := (HB1.cell (p := ⟨k, 1, none⟩) hk).trans c1
    have k2 : w1.cell? ⟨k, 2, none⟩ = _ := (HB1.cell (p := ⟨k, 2, none⟩) hk).trans c2
    have k3 : w1.cell? ⟨k, 3, none⟩ = _ := (HB1.cell (p := ⟨k, 3, none⟩) hk).trans c3
    have k4 : w1.cell? ⟨k, 4, none⟩ = _ := (HB1.cell (p := ⟨k, 4, none⟩) hk).trans c4
    have hoa := Lib.hid hoa
    have hw1 : IntKind.i64.wrap ((o : Int) + 1) = (o : Int) + 1 := IntWalk.i64_in _ (by omega)
    go_wp2_with fail
    go_region_held3 (fun w' => w'.cell? ⟨k, 1, none⟩ = some (.int .i64 d) ∧ w'.cell? ⟨k, 2, none⟩ = some (.int .i64 f) ∧ w'.cell? ⟨k, 4, none⟩ = some (.pointer (some ⟨kb, 0, none⟩))) (go_keep)
      (first
        | ((go_at_call_of 55 (Value.pointer (some ⟨kb, 0, none⟩)); refine (ihB.out _ ((HB1.alloc hz1 _).drew)).mono ?_; rintro e w2 ⟨vb, rfl, hob, hb2⟩; obtain ⟨gb, cB, rfl, hgb, hgb2⟩ := hob.form hpB
            have HB2 : Below w.heap.size w w2 := ((HB1.alloc hz1 _).drew).trans (hb2.mono (by simp; omega))
            have j1 : w2.cell? ⟨k, 1, none⟩ = _ := (HB2.cell (p := ⟨k, 1, none⟩) hk).trans c1
            have j2 : w2.cell? ⟨k, 2, none⟩ = _ := (HB2.cell (p := ⟨k, 2, none⟩) hk).trans c2
            have j4 : w2.cell? ⟨k, 4, none⟩ = _ := (HB2.cell (p := ⟨k, 4, none⟩) hk).trans c4
            have hz2 : w1.heap.size < w2.heap.size := by have := hb2.size; simp at this; omega
            have hlit := Lib.hid (hb2.block w1.heap.size (by simp))
            have hoa2 := Lib.hid (own_below (own_below hoa.out (((Below.refl _ w1).alloc (Nat.le_refl _) _).drew)) (hb2.mono (by simp)))
            have hob := Lib.hid hob))
        | ((go_at_call_of 55 (Value.pointer (some ⟨kb, 0, none⟩)); refine (ihB.out _ HB1.drew).mono ?_; rintro e w2 ⟨vb, rfl, hob, hb2⟩; obtain ⟨gb, cB, rfl, hgb, hgb2⟩ := hob.form hpB
            have HB2 : Below w.heap.size w w2 := HB1.drew.trans (hb2.mono hz1)
            have j1 : w2.cell? ⟨k, 1, none⟩ = _ := (HB2.cell (p := ⟨k, 1, none⟩) hk).trans c1
            have j2 : w2.cell? ⟨k, 2, none⟩ = _ := (HB2.cell (p := ⟨k, 2, none⟩) hk).trans c2
            have j4 : w2.cell? ⟨k, 4, none⟩ = _ := (HB2.cell (p := ⟨k, 4, none⟩) hk).trans c4
            have hz2 : w1.heap.size ≤ w2.heap.size := hb2.size
            have hoa3 := Lib.hid (own_below (own_below hoa.out ((Below.refl _ w1).drew)) hb2)
            have hob := Lib.hid hob))
        | ((go_at_call 66
            refine (Try.catNode3 w2.heap.size 3 ⟨some ⟨w1.heap.size, 0, none⟩, 1, 1, [.int .i64 0, .int .i64 d, .int .i64 f, .int .i64 ((o : Int) + 1), .int .i64 ((o : Int) + 1 + (A.size : Int))]⟩
              ⟨some ⟨ga, 0, none⟩, A.size, cA, (A.nodes (o + 1)).flatMap Nd.cells⟩ ⟨some ⟨gb, 0, none⟩, B.size, cB, (B.nodes (o + 1 + A.size)).flatMap Nd.cells⟩ _ (by simp)
              (cell_block (heap_alloc_new w2 _) 0) (cell_block (heap_alloc_new w2 _) 1) (cell_block (heap_alloc_new w2 _) 2)
              (Rd.below (Rd.of_block (hlit.out.trans (heap_alloc_new w1 _)) rfl) ((Below.refl _ w2).alloc (Nat.le_refl _) _) (Nat.le_refl _))
              ((Rd.own hoa2.out).below ((Below.refl _ w2).alloc (Nat.le_refl _) _) (Nat.le_refl _)) ((Rd.own hob.out).below ((Below.refl _ w2).alloc (Nat.le_refl _) _) (Nat.le_refl _))
              (fun u hu => by simp only [List.mem_cons, List.not_mem_nil, or_false] at hu; rcases hu with rfl | rfl | rfl | rfl | rfl <;> rfl) (one_cells _) (one_cells _) (Nat.zero_lt_one) (by show 1 + A.size + B.size ≤ 1000; omega)).mono ?_
            rintro e w4 ⟨v4, rfl, hown4, hb4⟩
            have hown4 := Lib.hid (own_base hown4 (base' := w.heap.size) (by have := HB2.size; simp; omega))
            have HB4 : Below w.heap.size w w4 := (HB2.alloc HB2.size _).trans (hb4.mono (by have := HB2.size; simp; omega))
            have i1 : w4.cell? ⟨k, 1, none⟩ = _ := (HB4.cell (p := ⟨k, 1, none⟩) hk).trans c1
            have i2 : w4.cell? ⟨k, 2, none⟩ = _ := (HB4.cell (p := ⟨k, 2, none⟩) hk).trans c2
            have i4 : w4.cell? ⟨k, 4, none⟩ = _ := (HB4.cell (p := ⟨k, 4, none⟩) hk).trans c4))
        | ((go_at_call 66
            obtain ⟨HR, HL, HX, HS⟩ := two_new w2 (.cells #[.int .i64 0, .int .i64 d, .int .i64 f, .int .i64 ((o : Int) + 1), .int .i64 ((o : Int) + 1 + (A.size : Int))] 73) (.cells #[.slice (some ⟨w2.heap.size, 0, none⟩) 1 1, .slice (some ⟨ga, 0, none⟩) A.size cA, .slice (some ⟨gb, 0, none⟩) B.size cB] 24)
            refine (Try.catNode3 (w2.heap.size + 1) 3 ⟨some ⟨w2.heap.size, 0, none⟩, 1, 1, [.int .i64 0, .int .i64 d, .int .i64 f, .int .i64 ((o : Int) + 1), .int .i64 ((o : Int) + 1 + (A.size : Int))]⟩
              ⟨some ⟨ga, 0, none⟩, A.size, cA, (A.nodes (o + 1)).flatMap Nd.cells⟩ ⟨some ⟨gb, 0, none⟩, B.size, cB, (B.nodes (o + 1 + A.size)).flatMap Nd.cells⟩ _ (by rw [HS]; omega)
              (cell_block HR 0) (cell_block HR 1) (cell_block HR 2) (Rd.of_block HL rfl) ((Rd.own hoa3.out).below HX (Nat.le_refl _)) ((Rd.own hob.out).below HX (Nat.le_refl _))
              (fun u hu => by simp only [List.mem_cons, List.not_mem_nil, or_false] at hu; rcases hu with rfl | rfl | rfl | rfl | rfl <;> rfl) (one_cells _) (one_cells _) (Nat.zero_lt_one) (by show 1 + A.size + B.size ≤ 1000; omega)).mono ?_
            rintro e w4 ⟨v4, rfl, hown4, hb4⟩
            have hown4 := Lib.hid (own_base hown4 (base' := w.heap.size) (by have := HB2.size; rw [HS]; omega))
            have HB4 : Below w.heap.size w w4 := (HB2.trans (HX.mono HB2.size)).trans (hb4.mono (by have := HB2.size; rw [HS]; omega))
            have i1 : w4.cell? ⟨k, 1, none⟩ = _ := (HB4.cell (p := ⟨k, 1, none⟩) hk).trans c1
            have i2 : w4.cell? ⟨k, 2, none⟩ = _ := (HB4.cell (p := ⟨k, 2, none⟩) hk).trans c2
            have i4 : w4.cell? ⟨k, 4, none⟩ = _ := (HB4.cell (p := ⟨k, 4, none⟩) hk).trans c4
            clear HR HL HX HS)))
    all_goals
      go_wp2
      go_ret
      refine ⟨v4, rfl, ?_, HB4⟩
      have := hown4.out
      simpa [Tr.size, Tr.nodes, Nd.cells] using this

/-- What a tree's slice of nodes reads. -/
def MadePost (T : Tr) (w : World) (e : Ending) (w' : World) : Prop :=
  ∃ v, e = .returned (.agg #[v]) ∧ NodesAt w' v (T.nodes 0) ∧ Below w.heap.size w w'

set_option maxRecDepth 100000 in
theorem Try.made_ok (T : Tr) (k : Nat) (S : List Nat) (w : World) (hn : T.size ≤ 1000) (h : PartAt 66 w T k S) :
    Calls Try.prog 33 #[.pointer (some ⟨k, 0, none⟩)] w (MadePost T w) := by
  have H := Lib.hid (fun w' (hW : Below w.heap.size w w') => Try.nodes_ok T k S 0 0 w' rfl (by omega) (h.below hW))
  clear h
  go_enter Try.func33, Try.ntmps33
  go_wp2_with (go_at_call 55; refine (H.out _ ((Below.refl _ _).alloc (Nat.le_refl _) _)).mono ?_; rintro e w1 ⟨v, rfl, ho, hb⟩; obtain ⟨hc, hz⟩ := bcell hb; obtain ⟨g, c, rfl, hg, _⟩ := ho.form T.size_pos; have ho := Lib.hid ho; have hs : w.heap.size < w1.heap.size := by (have := hb.size; simp at this; omega))
  have hga : g < w1.heap.size := by assumption
  have hne : w.heap.size ≠ g := by simp at hg; omega
  refine bodyPost_ret (v := .agg #[.slice (some ⟨g, 0, none⟩) T.size c]) (by simp [results, Try.results33, go_sem, hc]) rfl ⟨_, rfl, ?_, (((Below.refl _ w).alloc (Nat.le_refl _) _).trans (hb.mono (by simp))).setCell (Nat.le_refl _) _⟩
  have h1 : Rd (w1.setCell ⟨w.heap.size, 0, none⟩ (.slice (some ⟨g, 0, none⟩) T.size c)) 5 (.slice (some ⟨g, 0, none⟩) T.size c) T.size ((T.nodes 0).flatMap Nd.cells) :=
    (Rd.own ho.out).grown (row := some w.heap.size) ⟨rfl, rfl, rfl, by simp, fun k hk hne => Below.heap_setCell _ _ _ _ (fun e => hne (by rw [e]))⟩ (.inr (by simp [Value.ownBlock]; omega))
  have h2 := NodesAt.of (l := T.nodes 0) (by rw [Tr.nodes_length]; exact h1) (by rw [Tr.nodes_length]; exact T.size_pos)
  exact h2
end Go.Proofs
