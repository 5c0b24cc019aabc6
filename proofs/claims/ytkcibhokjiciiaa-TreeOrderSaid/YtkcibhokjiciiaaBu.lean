/-
  tree.parse: the parts of a tree that is one. tree.Ok, tree.Panes, tree.Least at a tree that is one; the leaf of a pane; how long a pane's place is.
-/
import Derived.Test.YtkcibhokjiciiaaBa
import Derived.Test.YtkcibhokjiciiaaBt
import Derived.Lib.OwnBridge
namespace Go.Proofs
open Go.RowKit Go.Lib Go.Sort Tp
attribute [local go_sem ↓] Go.wp_at_zero Go.wp_at_succ

theorem below_grow {B : Nat} {w0 w : World} {os : Array Obj} (h : Below B w0 w) (hB : B ≤ w.heap.size) : Below B w0 (grow w os) :=
  ⟨h.os, h.tape, h.output, by have := h.size; simp [grow]; omega, fun k hk => by
    rw [← h.block k hk]; simp only [grow]
    rw [Array.getElem?_append_left (by omega)]⟩

/-- A row without doubles, sorted, is as it is where doubles are let go. -/
theorem compact_sorted {l : List Int} (hn : l.Nodup) : Lib.compact (l.mergeSort fun x y => decide (x ≤ y)) = l.mergeSort fun x y => decide (x ≤ y) := by
  have hp := List.mergeSort_perm l (fun x y => decide (x ≤ y))
  have hn' : (l.mergeSort fun x y => decide (x ≤ y)).Nodup := (hp.nodup_iff).2 hn
  generalize (l.mergeSort fun x y => decide (x ≤ y)) = m at hn'
  refine compact_all m fun j hj => ?_
  unfold keeps
  by_cases h0 : j = 0
  · simp [h0]
  · have : m[j]! ≠ m[j - 1]! := fun e => by
      rw [getElem!_pos m j hj, getElem!_pos m (j - 1) (by omega)] at e
      exact List.pairwise_iff_getElem.1 hn' (j - 1) j (by omega) hj (by omega) e.symm
    simp_all

def ParsePost (T : Tr) (w : World) (e : Ending) (w' : World) : Prop :=
  ∃ k S, e = .returned (.tuple #[.pointer (some ⟨k, 0, none⟩), .bool true]) ∧ PartAt 66 w' T k S ∧ S.Nodup ∧ (∀ i ∈ S, w.heap.size ≤ i) ∧ Below w.heap.size w w'

/-- What the row of a tree's panes comes to: as many as there are. -/
structure Whole (T : Tr) : Prop where
  good : T.good
  nodup : T.panes.Nodup
  size : T.size ≤ 63

set_option maxRecDepth 100000 in
set_option maxHeartbeats 1000000 in
theorem Try.parse_ok (T : Tr) (hT : Whole T) (v : Value) (w : World) (hv : NodesAt w v (T.nodes 0)) :
    Calls Try.prog 27 #[.agg #[v]] w (ParsePost T w) := by
  obtain ⟨b, off, c, rfl, hb, hN⟩ := hv
  rw [Tr.nodes_length]
  have hs := hT.size
  have hp := T.panes_length
  have h1 := T.size_pos
  have hread := Lib.hid (fun w' (hW : Below w.heap.size w w') => Try.read_ok T.size c b off hs T 0 0 w' rfl hT.good (by omega) (Nat.lt_of_lt_of_le hb hW.size) (hN.below hb hW))
  have hnd := Lib.hid hT.nodup
  have hcm := Lib.hid (compact_sorted hT.nodup)
  have hml := Lib.hid (List.length_mergeSort (le := fun x y => decide (x ≤ y)) T.panes)
  have e1 : decide (63 < T.size) = false := by simp; omega
  have e2 : decide (63 < (T.size : Int)) = false := by simp; omega
  have hq : ((T.size : Int) + 1) / 2 = (T.panes.length : Int) := by omega
  have hQ := Lib.hid hq
  clear hN hT hq
  go_enter Try.func27, Try.ntmps27
  go_wp2_with fail
  go_at_call 51
  refine (hread.out _ ((Below.refl _ _).alloc (Nat.le_refl _) _)).mono ?_
  rintro e w1 ⟨k, S, rfl, hpa, hSn, hSl, hb1⟩
  obtain ⟨hc1, hz1⟩ := bcell hb1
  have hs1 : w.heap.size < w1.heap.size := by have := hb1.size; simp at this; omega
  have HB1 : Below w.heap.size w w1 := ((Below.refl _ w).alloc (Nat.le_refl _) _).trans (hb1.mono (by simp))
  have hpan := Lib.hid (Try.panes_ok T k S w1 (by omega) hpa)
  have hpa := Lib.hid hpa; have hSn := Lib.hid hSn; have hSl := Lib.hid hSl
  go_wp2_with fail
  go_at_call 28
  refine (hpan.out).mono ?_
  rintro e w2 ⟨vp, rfl, hown, hb2⟩
  obtain ⟨g, cap, rfl, hg, hg2, hcap, hcm2, hlen, hH⟩ := holds_of_ownsRow hown (by rcases hown.form (by omega) with ⟨g, cap, rfl, _⟩; simp)
  obtain ⟨hc2, hz2⟩ := bcell hb2
  have hs2 := hb2.size
  have hH := Lib.hid hH
  clear hown
  have HB2 : Below w1.heap.size w1 w2 := hb2
  go_wp2_with fail
  go_at_call 52
  refine (Try.slices_Sort_int g 0 cap T.panes w2 hH.out hg2 (by omega)).mono ?_
  rintro e w3 ⟨rfl, n3, os3, hw3⟩
  have HB3 : Below w1.heap.size w1 w3 := by
    rw [hw3]; exact below_grow (below_putRow HB2 hg) (by simp [size_putRow, Sort.ahead]; omega)
  have hC := Try.slices_Compact_int g 0 cap (T.panes.mergeSort fun x y => decide (x ≤ y)) w3 (by
    rw [hw3]
    refine holds_grow _ _ _ _ _ _ (by simp [size_putRow, Sort.ahead]; omega) (holds_putRow _ _ _ _ T.panes.toArray _ (holds_ahead _ _ _ _ _ _ hH.out) (by simp [hml.out]))) (by rw [hml.out]; omega) (by rw [hml.out]; omega)
  rw [hcm.out, hml.out] at hC
  have hC := Lib.hid hC
  clear hw3
  have hs3 := HB3.size
  go_wp2_with fail
  go_at_call 53
  refine (hC.out).mono ?_
  rintro e w4 ⟨rfl, q4, hw4⟩
  have HB4 : Below w1.heap.size w1 w4 := by rw [hw4]; exact below_putRow HB3 hg
  clear hw4 hC
  go_wp2
  go_ret2
  refine ⟨k, S, by rw [hQ.out]; simp, hpa.out.below HB4, hSn.out, fun i hi => ?_, HB1.trans (HB4.mono (by omega))⟩
  have := hSl.out i hi; simp at this; omega
end Go.Proofs
namespace Tp
/-- The leaves' panes and blocks. -/
def lv : Tr → List Nat → List (Int × Nat)
  | .leaf q, S => S.map fun k => (q, k)
  | .node _ _ a b, S => lv a ((S.drop 1).take a.size) ++ lv b ((S.drop 1).drop a.size)
theorem _root_.Tp.PartAt.length {ty : Go.TypeId} {w : Go.World} : ∀ {T : Tr} {k : Nat} {S : List Nat}, PartAt ty w T k S → S.length = T.size
  | .leaf p, k, S, ⟨e, _⟩ => by rw [e]; rfl
  | .node d f a b, k, S, ⟨ka, kb, Sa, Sb, e, _, ha, hb⟩ => by rw [e]; simp only [List.length_cons, List.length_append, ha.length, hb.length, Tr.size]; omega
theorem lv_node {ty : Go.TypeId} {w : Go.World} {d f : Int} {a b : Tr} {k ka : Nat} {Sa Sb : List Nat} (ha : PartAt ty w a ka Sa) : lv (.node d f a b) (k :: (Sa ++ Sb)) = lv a Sa ++ lv b Sb := by
  simp only [lv, List.drop_succ_cons, List.drop_zero]
  rw [← ha.length, List.take_left, List.drop_left]
/-- Where the leaf of a pane lies. -/
def fnd (T : Tr) (S : List Nat) (p : Int) : Option Nat := ((lv T S).find? fun x => decide (x.1 = p)).map (·.2)
theorem fnd_node {ty : Go.TypeId} {w : Go.World} {d f : Int} {a b : Tr} {k ka : Nat} {Sa Sb : List Nat} (ha : PartAt ty w a ka Sa) (p : Int) : fnd (.node d f a b) (k :: (Sa ++ Sb)) p = (fnd a Sa p).or (fnd b Sb p) := by
  unfold fnd
  rw [lv_node ha, List.find?_append]
  cases (lv a Sa).find? fun x => decide (x.1 = p) <;> simp
theorem lv_panes {ty : Go.TypeId} {w : Go.World} : ∀ {T : Tr} {k : Nat} {S : List Nat}, PartAt ty w T k S → (lv T S).map (·.1) = T.panes
  | .leaf p, k, S, ⟨e, _⟩ => by rw [e]; rfl
  | .node d f a b, k, S, ⟨ka, kb, Sa, Sb, e, _, ha, hb⟩ => by rw [e, lv_node ha, List.map_append, lv_panes ha, lv_panes hb]; rfl
theorem fnd_none {ty : Go.TypeId} {w : Go.World} {T : Tr} {k : Nat} {S : List Nat} (h : PartAt ty w T k S) {p : Int} (hp : p ∉ T.panes) : fnd T S p = none := by
  unfold fnd
  rw [Option.map_eq_none_iff, List.find?_eq_none]
  intro x hx e
  exact hp (by rw [← lv_panes h, List.mem_map]; exact ⟨x, hx, by simpa using e⟩)
theorem fnd_some {ty : Go.TypeId} {w : Go.World} {T : Tr} {k : Nat} {S : List Nat} (h : PartAt ty w T k S) {p : Int} (hp : p ∈ T.panes) : ∃ i, fnd T S p = some i ∧ (p, i) ∈ lv T S := by
  rw [← lv_panes h, List.mem_map] at hp
  obtain ⟨x, hx, e⟩ := hp
  unfold fnd
  cases hf : (lv T S).find? fun x => decide (x.1 = p) with
  | none => rw [List.find?_eq_none] at hf; exact absurd (by simpa using e) (hf x hx)
  | some y =>
    have h1 := List.find?_some hf
    have h2 := List.mem_of_find?_eq_some hf
    obtain ⟨q, i⟩ := y
    simp only [decide_eq_true_eq] at h1
    subst h1
    exact ⟨i, rfl, h2⟩
end Tp
namespace Go.Proofs
open Go.RowKit Go.Lib Go.Sort Tp
attribute [local go_sem ↓] Go.wp_at_zero Go.wp_at_succ

set_option maxRecDepth 100000 in
theorem Try.tok_ok (T : Tr) (hT : Whole T) (v : Value) (w : World) (hv : NodesAt w v (T.nodes 0)) :
    Calls Try.prog 16 #[.agg #[v]] w fun e w' => e = .returned (.bool true) ∧ Below w.heap.size w w' := by
  have hP := Lib.hid (fun w' (hW : Below w.heap.size w w') => Try.parse_ok T hT v w' (hv.below hW))
  obtain ⟨b, off, c, rfl, hb, hN⟩ := hv
  clear hN hT
  go_enter Try.func16, Try.ntmps16
  go_wp2_with (go_at_call 27; refine (hP.out _ ((Below.refl _ _).alloc (Nat.le_refl _) _)).mono ?_; rintro e w1 ⟨k, S, rfl, _, _, _, hb1⟩)
  go_ret
  exact ⟨rfl, ((Below.refl _ w).alloc (Nat.le_refl _) _).trans (hb1.mono (by simp))⟩

def IntsPost (l : List Int) (w : World) (e : Ending) (w' : World) : Prop := ∃ v, e = .returned v ∧ IntsAt w' v l ∧ Below w.heap.size w w'

set_option maxRecDepth 100000 in
theorem Try.tpanes_ok (T : Tr) (hT : Whole T) (v : Value) (w : World) (hv : NodesAt w v (T.nodes 0)) :
    Calls Try.prog 9 #[.agg #[v]] w (IntsPost T.panes w) := by
  have hP := Lib.hid (fun w' (hW : Below w.heap.size w w') => Try.parse_ok T hT v w' (hv.below hW))
  have hn : T.panes.length ≤ 1000 := by have := hT.size; have := T.panes_length; omega
  obtain ⟨b, off, c, rfl, hb, hN⟩ := hv
  clear hN hT
  go_enter Try.func9, Try.ntmps9
  go_wp2_with (first
    | (go_at_call 27; refine (hP.out _ ((Below.refl _ _).alloc (Nat.le_refl _) _)).mono ?_; rintro e w1 ⟨k, S, rfl, hpa, _, _, hb1⟩; have HB1 := ((Below.refl _ w).alloc (Nat.le_refl _) _).trans (hb1.mono (by simp)); have hpan := Lib.hid (Try.panes_ok T k S w1 hn hpa); clear hpa)
    | (go_at_call 28; refine (hpan.out).mono ?_; rintro e w2 ⟨v2, rfl, ho, hb2⟩; have ho := Lib.hid ho))
  go_ret
  refine ⟨v2, rfl, ?_, HB1.trans (hb2.mono HB1.size)⟩
  have := Rd.own ho.out
  simpa [IntsAt] using this

set_option maxRecDepth 100000 in
theorem Try.tleast_ok (T : Tr) (hT : Whole T) (v : Value) (w : World) (hv : NodesAt w v (T.nodes 0)) :
    Calls Try.prog 22 #[.agg #[v]] w fun e w' => e = .returned (.tuple #[.int .i64 T.lw, .int .i64 T.lh]) ∧ Below w.heap.size w w' := by
  have hP := Lib.hid (fun w' (hW : Below w.heap.size w w') => Try.parse_ok T hT v w' (hv.below hW))
  have hL := Lib.hid (fun w' k S h => Try.least_ok T k S w' (by have := hT.size; omega) hT.good h)
  obtain ⟨b, off, c, rfl, hb, hN⟩ := hv
  clear hN hT
  go_enter Try.func22, Try.ntmps22
  go_wp2_with (first
    | (go_at_call 27; refine (hP.out _ ((Below.refl _ _).alloc (Nat.le_refl _) _)).mono ?_; rintro e w1 ⟨k, S, rfl, hpa, _, _, hb1⟩; have HB1 := ((Below.refl _ w).alloc (Nat.le_refl _) _).trans (hb1.mono (by simp)); have hpan := Lib.hid (hL.out w1 k S hpa); clear hpa)
    | (go_at_call 42; refine (hpan.out).mono ?_; rintro e w2 ⟨rfl, rfl⟩))
  go_ret2
  exact ⟨rfl, HB1⟩

/-- A pointer to a block, or none. -/
def ptr : Option Nat → Value
  | none => .pointer none
  | some k => .pointer (some ⟨k, 0, none⟩)
set_option maxRecDepth 100000 in
theorem Try.find_ok : ∀ (T : Tr) (k : Nat) (S : List Nat) (p : Int) (w : World), PartAt 66 w T k S →
    Calls Try.prog 30 #[.pointer (some ⟨k, 0, none⟩), .int .i64 p] w fun e w' => e = .returned (ptr (fnd T S p)) ∧ w = w'
  | .leaf q, k, S, p, w, ⟨e, h⟩ => by
    subst e
    have c0 : w.cell? ⟨k, 0, none⟩ = some (.int .i64 q) := cell_block h 0
    have c3 : w.cell? ⟨k, 3, none⟩ = some (.pointer none) := cell_block h 3
    clear h
    by_cases hq : q = p
    · have hX := Lib.hid (show fnd (.leaf q) [k] p = some k by simp [fnd, lv, hq])
      subst hq
      go_enter Try.func30, Try.ntmps30
      go_wp2
      go_ret
      rw [hX.out]; exact ⟨rfl, rfl⟩
    · have hX := Lib.hid (show fnd (.leaf q) [k] p = none by simp [fnd, lv, hq])
      go_enter Try.func30, Try.ntmps30
      go_wp2
      go_ret
      rw [hX.out]; exact ⟨rfl, rfl⟩
  | .node d f A B, k, S, p, w, ⟨ka, kb, Sa, Sb, e, h, ha, hb⟩ => by
    subst e
    have c3 : w.cell? ⟨k, 3, none⟩ = some (.pointer (some ⟨ka, 0, none⟩)) := cell_block h 3
    have c4 : w.cell? ⟨k, 4, none⟩ = some (.pointer (some ⟨kb, 0, none⟩)) := cell_block h 4
    have ihA := Try.find_ok A ka Sa p w ha
    have ihB := Try.find_ok B kb Sb p w hb
    rw [fnd_node ha]
    clear h ha hb
    cases hA : fnd A Sa p with
    | some i =>
      rw [hA] at ihA
      rw [Option.some_or]
      have ihA := Lib.hid ihA
      clear hA ihB
      go_enter Try.func30, Try.ntmps30
      go_wp2_with (go_at_call_of 30 (Value.pointer (some ⟨ka, 0, none⟩)); refine (ihA.out).mono ?_; rintro e w1 ⟨rfl, rfl⟩; unfold ptr)
      go_ret
      exact ⟨rfl, rfl⟩
    | none =>
      rw [hA] at ihA
      rw [Option.none_or]
      have ihA := Lib.hid ihA
      clear hA
      cases hB : fnd B Sb p with
      | some i =>
        rw [hB] at ihB
        have ihB := Lib.hid ihB
        clear hB
        go_enter Try.func30, Try.ntmps30
        go_wp2_with (first
          | (go_at_call_of 30 (Value.pointer (some ⟨ka, 0, none⟩)); refine (ihA.out).mono ?_; rintro e w1 ⟨rfl, rfl⟩; unfold ptr)
          | (go_at_call_of 30 (Value.pointer (some ⟨kb, 0, none⟩)); refine (ihB.out).mono ?_; rintro e w1 ⟨rfl, rfl⟩; unfold ptr))
        go_ret
        exact ⟨rfl, rfl⟩
      | none =>
        rw [hB] at ihB
        have ihB := Lib.hid ihB
        clear hB
        go_enter Try.func30, Try.ntmps30
        go_wp2_with (first
          | (go_at_call_of 30 (Value.pointer (some ⟨ka, 0, none⟩)); refine (ihA.out).mono ?_; rintro e w1 ⟨rfl, rfl⟩; unfold ptr)
          | (go_at_call_of 30 (Value.pointer (some ⟨kb, 0, none⟩)); refine (ihB.out).mono ?_; rintro e w1 ⟨rfl, rfl⟩; unfold ptr))
        go_ret
        exact ⟨rfl, rfl⟩
end Go.Proofs
