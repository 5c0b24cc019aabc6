/-
  Firsts that fit; a part that fits. (*part).fits, tree.Fit.
-/
import Derived.Test.YtkcibhokjiciiaaBu
namespace Tp
open Go
/-- Only the blocks of a list, and what is new, are written. -/
structure Tch (S : List Nat) (w w' : World) : Prop where
  os : w'.os = w.os
  tape : w'.tape = w.tape
  output : w'.output = w.output
  size : w.heap.size = w'.heap.size
  block : ∀ k, k ∉ S → w'.heap[k]? = w.heap[k]?
theorem Tch.refl (S : List Nat) (w : World) : Tch S w w := ⟨rfl, rfl, rfl, rfl, fun _ _ => rfl⟩
theorem Tch.trans {S : List Nat} {a b c : World} (h : Tch S a b) (k : Tch S b c) : Tch S a c :=
  ⟨k.os.trans h.os, k.tape.trans h.tape, k.output.trans h.output, h.size.trans k.size, fun i hi => (k.block i hi).trans (h.block i hi)⟩
theorem Tch.more {S S' : List Nat} {a b : World} (h : Tch S a b) (hs : ∀ k ∈ S, k ∈ S') : Tch S' a b :=
  ⟨h.os, h.tape, h.output, h.size, fun i hi => h.block i fun hm => hi (hs i hm)⟩
theorem Tch.drew {S : List Nat} {a b : World} (h : Tch S a b) : Tch S a b.drew := ⟨h.os, h.tape, h.output, h.size, h.block⟩
theorem Tch.setCell {S : List Nat} {a b : World} (h : Tch S a b) {p : Addr} (hp : p.block ∈ S) (u : Value) : Tch S a (b.setCell p u) :=
  ⟨h.os, h.tape, h.output, by rw [h.size]; simp, fun k hk => by rw [Go.RowKit.Below.heap_setCell _ _ _ _ (fun e => hk (by rw [e]; exact hp))]; exact h.block k hk⟩
theorem Tch.below {S : List Nat} {a b : World} (h : Tch S a b) {B : Nat} (hs : ∀ k ∈ S, B ≤ k) : Go.RowKit.Below B a b :=
  ⟨h.os, h.tape, h.output, Nat.le_of_eq h.size, fun k hk => h.block k fun hm => absurd (hs k hm) (by omega)⟩
theorem Tch.cell {S : List Nat} {a b : World} (h : Tch S a b) {p : Addr} (hp : p.block ∉ S) : b.cell? p = a.cell? p := World.cell?_of_block (h.block p.block hp)
theorem heap_set {w : World} {k j : Nat} {c : Array Value} {ty : TypeId} {fr} (h : w.heap[k]? = some (.cells c ty fr)) (v : Value) : (w.setCell ⟨k, j, none⟩ v).heap[k]? = some (.cells (c.setIfInBounds j v) ty fr) := by
  simp [World.setCell, Array.getElem?_modify, h]
theorem free_block {w : World} {k : Nat} {c : Array Value} {ty : TypeId} (h : w.heap[k]? = some (.cells c ty)) (j : Nat) : w.frozen? ⟨k, j, none⟩ = false := by
  simp [World.frozen?, h]
theorem PartAt.apart {ty : TypeId} {w w' : World} {T : Tr} {k : Nat} {S R : List Nat} (h : PartAt ty w T k S) (ht : Tch R w w') (hd : ∀ i ∈ S, i ∉ R) : PartAt ty w' T k S := h.same fun i hi => ht.block i (hd i hi)
end Tp
namespace Go.Proofs
open Go.RowKit Go.Lib Go.Sort Tp
attribute [local go_sem ↓] Go.wp_at_zero Go.wp_at_succ

theorem Try.held_ok (n lo hi : Int) (w : World) : Calls Try.prog 31 #[.int .i64 n, .int .i64 lo, .int .i64 hi] w fun e w' => e = .returned (.int .i64 (held n lo hi)) ∧ w = w' := by
  go_enter Try.func31, Try.ntmps31
  go_wp2
  all_goals (go_ret; refine ⟨?_, rfl⟩; simp [held]; try omega)

def FitPostN (ty : TypeId) (T : Tr) (k : Nat) (S : List Nat) (w : World) (e : Ending) (w' : World) : Prop := e = .returned (.tuple #[]) ∧ PartAt ty w' T k S ∧ Tch S w w'
def FitPost (T : Tr) (x y : Int) (k : Nat) (S : List Nat) (w : World) (e : Ending) (w' : World) : Prop := e = .returned (.tuple #[]) ∧ PartAt 66 w' (T.fit x y) k S ∧ Tch S w w'

set_option maxRecDepth 100000 in
set_option maxHeartbeats 1000000 in
theorem Try.fit_ok : ∀ (T : Tr) (k : Nat) (S : List Nat) (x y : Int) (w : World), T.size ≤ 1000 → T.good → S.Nodup → T.lw ≤ x → T.lh ≤ y → x ≤ 1000 → y ≤ 1000 → PartAt 66 w T k S →
    Calls Try.prog 58 #[.pointer (some ⟨k, 0, none⟩), .int .i64 x, .int .i64 y] w (FitPost T x y k S w)
  | .leaf p, k, S, x, y, w, hn, hg, hS, h1, h2, h3, h4, ⟨e, h⟩ => by
    have c3 : w.cell? ⟨k, 3, none⟩ = some (.pointer none) := cell_block h 3
    have hP := Lib.hid (show PartAt 66 w ((Tr.leaf p).fit x y) k S from ⟨e, h⟩)
    clear h e h1 h2
    go_enter Try.func58, Try.ntmps58
    go_wp2
    go_end0
    exact ⟨rfl, hP.out, Tch.refl _ _⟩
  | .node d f A B, k, S, x, y, w, hn, ⟨hd, hf1, hf2, hgA, hgB⟩, hS, h1, h2, h3, h4, ⟨ka, kb, Sa, Sb, e, h, ha, hb⟩ => by
    have c1 : w.cell? ⟨k, 1, none⟩ = some (.int .i64 d) := cell_block h 1
    have c2 : w.cell? ⟨k, 2, none⟩ = some (.int .i64 f) := cell_block h 2
    have c3 : w.cell? ⟨k, 3, none⟩ = some (.pointer (some ⟨ka, 0, none⟩)) := cell_block h 3
    have c4 : w.cell? ⟨k, 4, none⟩ = some (.pointer (some ⟨kb, 0, none⟩)) := cell_block h 4
    have hk : k < w.heap.size := (Array.getElem?_eq_some_iff.1 h).1
    have z2 : w.frozen? ⟨k, 2, none⟩ = false := free_block h 2
    subst e
    have hs : (Tr.node d f A B).size = 1 + A.size + B.size := rfl
    rw [hs] at hn
    rw [List.nodup_cons, List.nodup_append, List.mem_append, not_or] at hS
    obtain ⟨⟨hka, hkb⟩, hnA, hnB, hAB⟩ := hS
    have lA := A.least_pos; have lB := B.least_pos
    have LA := Lib.hid (Try.least_ok A ka Sa w (by omega) hgA ha)
    have LB := Lib.hid (Try.least_ok B kb Sb w (by omega) hgB hb)
    rcases hd with rfl | rfl
    · simp only [Tr.lw, Tr.lh, if_true] at h1 h2
      have hh := held_in (n := f) (lo := A.lw) (hi := x - 1 - B.lw) (by omega)
      have e1 : (Tr.node 1 f A B).fit x y = .node 1 (held f A.lw (x - 1 - B.lw)) (A.fit (held f A.lw (x - 1 - B.lw)) y) (B.fit (x - 1 - held f A.lw (x - 1 - B.lw)) y) := by simp [Tr.fit]
      have hH := fun w' => Try.held_ok f A.lw (x - 1 - B.lw) w'
      show Calls _ _ _ _ (FitPostN 66 ((Tr.node 1 f A B).fit x y) k (k :: (Sa ++ Sb)) w)
      rw [e1]
      generalize hF : held f A.lw (x - 1 - B.lw) = F at *
      have ihA := fun w' (hW : Tch [k] w w') => Try.fit_ok A ka Sa F y w' (by omega) hgA hnA (by omega) (by omega) (by omega) (by omega) (ha.apart hW (fun i hi h => by rw [List.mem_singleton] at h; subst h; exact hka hi))
      have ihB := fun w' (hW : Tch (k :: Sa) w w') => Try.fit_ok B kb Sb (x - 1 - F) y w' (by omega) hgB hnB (by omega) (by omega) (by omega) (by omega) (hb.apart hW (fun i hi h => by rcases List.mem_cons.1 h with rfl | h; exact hkb hi; exact hAB _ h _ hi rfl))
      have HH := Lib.hid hH; have IA := Lib.hid ihA; have IB := Lib.hid ihB; have HK := Lib.hid h
      have HA := Lib.hid hka; have HB := Lib.hid hkb; have HAB := Lib.hid hAB
      clear hH ihA ihB h ha hb hgA hgB hF e1 hka hkb hAB hnA hnB hs
      go_enter Try.func58, Try.ntmps58
      go_wp2_with (first
        | (go_at_call_of 42 (Value.pointer (some ⟨ka, 0, none⟩)); refine (LA.out).mono ?_; rintro e w' ⟨rfl, rfl⟩)
        | (go_at_call_of 42 (Value.pointer (some ⟨kb, 0, none⟩)); refine (LB.out).mono ?_; rintro e w' ⟨rfl, rfl⟩)
        | (go_at_call 31; refine (HH.out _).mono ?_; rintro e w' ⟨rfl, rfl⟩))
      have t0 : Tch [k] w (w.setCell ⟨k, 2, none⟩ (.int .i64 F)) := (Tch.refl [k] w).setCell (p := ⟨k, 2, none⟩) (List.mem_singleton.2 rfl) _
      have t0 := Lib.hid t0
      have y2 : (w.setCell ⟨k, 2, none⟩ (.int .i64 F)).cell? ⟨k, 2, none⟩ = some (.int .i64 F) := cell_block (heap_set HK.out (j := 2) (.int .i64 F)) 2
      have y3 : (w.setCell ⟨k, 2, none⟩ (.int .i64 F)).cell? ⟨k, 3, none⟩ = some (.pointer (some ⟨ka, 0, none⟩)) := cell_block (heap_set HK.out (j := 2) (.int .i64 F)) 3
      go_region_held3 (fun w' => w'.cell? ⟨k, 2, none⟩ = some (.int .i64 F) ∧ w'.cell? ⟨k, 3, none⟩ = some (.pointer (some ⟨ka, 0, none⟩))) (first | go_keep | exact ⟨y2, y3⟩)
        ((go_at_call 58; refine (IA.out _ t0.out.drew).mono ?_; rintro e w1 ⟨rfl, hp1, ht1⟩
          have T1 : Tch (k :: Sa) w w1 := ((t0.out.drew).more (fun i hi => by rw [List.mem_singleton] at hi; subst hi; exact List.mem_cons_self ..)).trans (ht1.more (fun i hi => List.mem_cons_of_mem _ hi))
          have K1 := Lib.hid ((ht1.block k HA.out).trans (heap_set HK.out (j := 2) (.int .i64 F)))
          have P1 := Lib.hid hp1
          have d2 : w1.cell? ⟨k, 2, none⟩ = some (.int .i64 F) := cell_block K1.out 2
          have d3 : w1.cell? ⟨k, 3, none⟩ = some (.pointer (some ⟨ka, 0, none⟩)) := cell_block K1.out 3
          have d4 : w1.cell? ⟨k, 4, none⟩ = some (.pointer (some ⟨kb, 0, none⟩)) := cell_block K1.out 4
          have T1 := Lib.hid T1
          clear hp1 ht1))
      go_wp2
      have hq1 : IntKind.i64.wrap (x - 1) = x - 1 := IntWalk.i64_in _ (by omega)
      have hq2 : IntKind.i64.wrap (x - 1 - F) = x - 1 - F := IntWalk.i64_in _ (by omega)
      go_region_held3 (fun w' => w'.cell? ⟨k, 2, none⟩ = some (.int .i64 F) ∧ w'.cell? ⟨k, 4, none⟩ = some (.pointer (some ⟨kb, 0, none⟩))) (go_keep)
        ((go_at_call 58; refine (IB.out _ (T1.out.drew)).mono ?_; rintro e w2 ⟨rfl, hp2, ht2⟩
          have K2 := Lib.hid ((ht2.block k HB.out).trans K1.out)
          have T2 : Tch (k :: (Sa ++ Sb)) w w2 := (T1.out.drew.more (fun i hi => by rcases List.mem_cons.1 hi with rfl | hi; exact List.mem_cons_self ..; exact List.mem_cons_of_mem _ (List.mem_append_left _ hi))).trans (ht2.more (fun i hi => List.mem_cons_of_mem _ (List.mem_append_right _ hi)))
          have P2 := Lib.hid (hp2)
          have P1' := Lib.hid ((P1.out.same (w' := w1.drew) (fun _ _ => rfl)).apart (w' := w2) ht2 (fun i hi h => HAB.out _ hi _ h rfl))
          have d2 : w2.cell? ⟨k, 2, none⟩ = some (.int .i64 F) := cell_block K2.out 2
          have d4 : w2.cell? ⟨k, 4, none⟩ = some (.pointer (some ⟨kb, 0, none⟩)) := cell_block K2.out 4
          have T2 := Lib.hid T2
          clear hp2 ht2))
      go_wp2
      go_end0
      exact ⟨rfl, ⟨ka, kb, Sa, Sb, rfl, K2.out, P1'.out, P2.out⟩, T2.out⟩
    · simp [Tr.lw, Tr.lh] at h1 h2
      have hh := held_in (n := f) (lo := A.lh) (hi := y - 1 - B.lh) (by omega)
      have e1 : (Tr.node 2 f A B).fit x y = .node 2 (held f A.lh (y - 1 - B.lh)) (A.fit x (held f A.lh (y - 1 - B.lh))) (B.fit x (y - 1 - held f A.lh (y - 1 - B.lh))) := by simp [Tr.fit]
      have hH := fun w' => Try.held_ok f A.lh (y - 1 - B.lh) w'
      show Calls _ _ _ _ (FitPostN 66 ((Tr.node 2 f A B).fit x y) k (k :: (Sa ++ Sb)) w)
      rw [e1]
      generalize hF : held f A.lh (y - 1 - B.lh) = F at *
      have ihA := fun w' (hW : Tch [k] w w') => Try.fit_ok A ka Sa x F w' (by omega) hgA hnA (by omega) (by omega) (by omega) (by omega) (ha.apart hW (fun i hi h => by rw [List.mem_singleton] at h; subst h; exact hka hi))
      have ihB := fun w' (hW : Tch (k :: Sa) w w') => Try.fit_ok B kb Sb x (y - 1 - F) w' (by omega) hgB hnB (by omega) (by omega) (by omega) (by omega) (hb.apart hW (fun i hi h => by rcases List.mem_cons.1 h with rfl | h; exact hkb hi; exact hAB _ h _ hi rfl))
      have HH := Lib.hid hH; have IA := Lib.hid ihA; have IB := Lib.hid ihB; have HK := Lib.hid h
      have HA := Lib.hid hka; have HB := Lib.hid hkb; have HAB := Lib.hid hAB
      clear hH ihA ihB h ha hb hgA hgB hF e1 hka hkb hAB hnA hnB hs
      go_enter Try.func58, Try.ntmps58
      go_wp2_with (first
        | (go_at_call_of 42 (Value.pointer (some ⟨ka, 0, none⟩)); refine (LA.out).mono ?_; rintro e w' ⟨rfl, rfl⟩)
        | (go_at_call_of 42 (Value.pointer (some ⟨kb, 0, none⟩)); refine (LB.out).mono ?_; rintro e w' ⟨rfl, rfl⟩)
        | (go_at_call 31; refine (HH.out _).mono ?_; rintro e w' ⟨rfl, rfl⟩))
      have t0 : Tch [k] w (w.setCell ⟨k, 2, none⟩ (.int .i64 F)) := (Tch.refl [k] w).setCell (p := ⟨k, 2, none⟩) (List.mem_singleton.2 rfl) _
      have t0 := Lib.hid t0
      have y2 : (w.setCell ⟨k, 2, none⟩ (.int .i64 F)).cell? ⟨k, 2, none⟩ = some (.int .i64 F) := cell_block (heap_set HK.out (j := 2) (.int .i64 F)) 2
      have y3 : (w.setCell ⟨k, 2, none⟩ (.int .i64 F)).cell? ⟨k, 3, none⟩ = some (.pointer (some ⟨ka, 0, none⟩)) := cell_block (heap_set HK.out (j := 2) (.int .i64 F)) 3
      go_region_held3 (fun w' => w'.cell? ⟨k, 2, none⟩ = some (.int .i64 F) ∧ w'.cell? ⟨k, 3, none⟩ = some (.pointer (some ⟨ka, 0, none⟩))) (first | go_keep | exact ⟨y2, y3⟩)
        ((go_at_call 58; refine (IA.out _ t0.out.drew).mono ?_; rintro e w1 ⟨rfl, hp1, ht1⟩
          have T1 : Tch (k :: Sa) w w1 := ((t0.out.drew).more (fun i hi => by rw [List.mem_singleton] at hi; subst hi; exact List.mem_cons_self ..)).trans (ht1.more (fun i hi => List.mem_cons_of_mem _ hi))
          have K1 := Lib.hid ((ht1.block k HA.out).trans (heap_set HK.out (j := 2) (.int .i64 F)))
          have P1 := Lib.hid hp1
          have d2 : w1.cell? ⟨k, 2, none⟩ = some (.int .i64 F) := cell_block K1.out 2
          have d3 : w1.cell? ⟨k, 3, none⟩ = some (.pointer (some ⟨ka, 0, none⟩)) := cell_block K1.out 3
          have d4 : w1.cell? ⟨k, 4, none⟩ = some (.pointer (some ⟨kb, 0, none⟩)) := cell_block K1.out 4
          have T1 := Lib.hid T1
          clear hp1 ht1))
      go_wp2
      have hq1 : IntKind.i64.wrap (y - 1) = y - 1 := IntWalk.i64_in _ (by omega)
      have hq2 : IntKind.i64.wrap (y - 1 - F) = y - 1 - F := IntWalk.i64_in _ (by omega)
      go_region_held3 (fun w' => w'.cell? ⟨k, 2, none⟩ = some (.int .i64 F) ∧ w'.cell? ⟨k, 4, none⟩ = some (.pointer (some ⟨kb, 0, none⟩))) (go_keep)
        ((go_at_call 58; refine (IB.out _ (T1.out.drew)).mono ?_; rintro e w2 ⟨rfl, hp2, ht2⟩
          have K2 := Lib.hid ((ht2.block k HB.out).trans K1.out)
          have T2 : Tch (k :: (Sa ++ Sb)) w w2 := (T1.out.drew.more (fun i hi => by rcases List.mem_cons.1 hi with rfl | hi; exact List.mem_cons_self ..; exact List.mem_cons_of_mem _ (List.mem_append_left _ hi))).trans (ht2.more (fun i hi => List.mem_cons_of_mem _ (List.mem_append_right _ hi)))
          have P2 := Lib.hid (hp2)
          have P1' := Lib.hid ((P1.out.same (w' := w1.drew) (fun _ _ => rfl)).apart (w' := w2) ht2 (fun i hi h => HAB.out _ hi _ h rfl))
          have d2 : w2.cell? ⟨k, 2, none⟩ = some (.int .i64 F) := cell_block K2.out 2
          have d4 : w2.cell? ⟨k, 4, none⟩ = some (.pointer (some ⟨kb, 0, none⟩)) := cell_block K2.out 4
          have T2 := Lib.hid T2
          clear hp2 ht2))
      go_wp2
      go_end0
      exact ⟨rfl, ⟨ka, kb, Sa, Sb, rfl, K2.out, P1'.out, P2.out⟩, T2.out⟩
end Go.Proofs
namespace Tp
open Go
theorem Tr.fit_whole {T : Tr} {x y : Int} (hT : Go.Proofs.Whole T) (h1 : T.lw ≤ x) (h2 : T.lh ≤ y) (h3 : x ≤ 1000) (h4 : y ≤ 1000) : Go.Proofs.Whole (T.fit x y) :=
  ⟨Tr.fit_good hT.good h1 h2 h3 h4, by rw [Tr.fit_panes]; exact hT.nodup, by rw [Tr.fit_size]; exact hT.size⟩
end Tp
namespace Go.Proofs
open Go.RowKit Go.Lib Go.Sort Tp
attribute [local go_sem ↓] Go.wp_at_zero Go.wp_at_succ

/-- A tree, and whether it is one. -/
def TreePost (T : Tr) (B : Nat) (w : World) (e : Ending) (w' : World) : Prop :=
  ∃ b off c, e = .returned (.tuple #[.agg #[.slice (some ⟨b, off, none⟩) T.size c], .bool true]) ∧ w.heap.size ≤ b ∧ NodesAt w' (.slice (some ⟨b, off, none⟩) T.size c) (T.nodes 0) ∧ Below B w w'
def NoTree (B : Nat) (w : World) (e : Ending) (w' : World) : Prop := e = .returned (.tuple #[.agg #[.slice none 0 0], .bool false]) ∧ Below B w w'

theorem bcellB {B : Nat} {W w1 : World} (hb : Below B W w1) : (∀ b o, b < B → w1.cell? ⟨b, o, none⟩ = W.cell? ⟨b, o, none⟩) ∧ (∀ b o, b < B → w1.frozen? ⟨b, o, none⟩ = W.frozen? ⟨b, o, none⟩) :=
  ⟨fun b o h => hb.cell (p := ⟨b, o, none⟩) h, fun b o h => hb.frozen (p := ⟨b, o, none⟩) h⟩
theorem nodes_slice {w : World} {v : Value} {l : List Nd} (h : NodesAt w v l) : ∃ b off c, v = .slice (some ⟨b, off, none⟩) l.length c ∧ b < w.heap.size := by
  obtain ⟨b, off, c, e, hb, _⟩ := h; exact ⟨b, off, c, e, hb⟩
theorem nodes_set {w : World} {v : Value} {l : List Nd} {g : Nat} (h : NodesAt w v l) (hv : ∀ b off c, v = .slice (some ⟨b, off, none⟩) l.length c → b ≠ g) (j : Nat) (u : Value) : NodesAt (w.setCell ⟨g, j, none⟩ u) v l := by
  obtain ⟨b, off, c, e, hb, hN⟩ := h
  have hne := hv b off c e
  refine ⟨b, off, c, e, by simpa using hb, fun i hi => ?_⟩
  have hc : ∀ o, (w.setCell ⟨g, j, none⟩ u).cell? ⟨b, o, none⟩ = w.cell? ⟨b, o, none⟩ := fun o => World.cell?_of_block (Below.heap_setCell _ _ _ _ hne)
  obtain ⟨h0, h1, h2, h3, h4⟩ := hN i hi
  exact ⟨(hc _).trans h0, (hc _).trans h1, (hc _).trans h2, (hc _).trans h3, (hc _).trans h4⟩

/-- .. the row lies in new memory. -/
def MadePostN (T : Tr) (w : World) (e : Ending) (w' : World) : Prop :=
  ∃ g off c, e = .returned (.agg #[.slice (some ⟨g, off, none⟩) T.size c]) ∧ w.heap.size ≤ g ∧ NodesAt w' (.slice (some ⟨g, off, none⟩) T.size c) (T.nodes 0) ∧ Below w.heap.size w w'

set_option maxRecDepth 100000 in
theorem Try.made_new (T : Tr) (k : Nat) (S : List Nat) (w : World) (hn : T.size ≤ 1000) (h : PartAt 66 w T k S) :
    Calls Try.prog 33 #[.pointer (some ⟨k, 0, none⟩)] w (MadePostN T w) := by
  have H := Lib.hid (fun w' (hW : Below w.heap.size w w') => Try.nodes_ok T k S 0 0 w' rfl (by omega) (h.below hW))
  clear h
  go_enter Try.func33, Try.ntmps33
  go_wp2_with (go_at_call 55; refine (H.out _ ((Below.refl _ _).alloc (Nat.le_refl _) _)).mono ?_; rintro e w1 ⟨v, rfl, ho, hb⟩; obtain ⟨hc, hz⟩ := bcell hb; obtain ⟨g, c, rfl, hg, _⟩ := ho.form T.size_pos; have ho := Lib.hid ho; have hs : w.heap.size < w1.heap.size := by (have := hb.size; simp at this; omega))
  have hga : g < w1.heap.size := by assumption
  have hne : w.heap.size ≠ g := by simp at hg; omega
  refine bodyPost_ret (v := .agg #[.slice (some ⟨g, 0, none⟩) T.size c]) (by simp [results, Try.results33, go_sem, hc]) rfl ⟨g, 0, c, rfl, by simp at hg; omega, ?_, (((Below.refl _ w).alloc (Nat.le_refl _) _).trans (hb.mono (by simp))).setCell (Nat.le_refl _) _⟩
  have h1 : Rd (w1.setCell ⟨w.heap.size, 0, none⟩ (.slice (some ⟨g, 0, none⟩) T.size c)) 5 (.slice (some ⟨g, 0, none⟩) T.size c) T.size ((T.nodes 0).flatMap Nd.cells) :=
    (Rd.own ho.out).grown (row := some w.heap.size) ⟨rfl, rfl, rfl, by simp, fun k hk hne => Below.heap_setCell _ _ _ _ (fun e => hne (by rw [e]))⟩ (.inr (by simp [Value.ownBlock]; omega))
  have h2 := NodesAt.of (l := T.nodes 0) (by rw [Tr.nodes_length]; exact h1) (by rw [Tr.nodes_length]; exact T.size_pos)
  exact h2

set_option maxRecDepth 100000 in
theorem Try.fits_ok (T : Tr) (k : Nat) (S : List Nat) (x y : Int) (B : Nat) (w : World) (hn : T.size ≤ 1000) (hg : T.good) (hS : S.Nodup) (h1 : T.lw ≤ x) (h2 : T.lh ≤ y) (h3 : x ≤ 1000) (h4 : y ≤ 1000) (hB : B ≤ w.heap.size) (hSB : ∀ i ∈ S, B ≤ i)
    (h : PartAt 66 w T k S) :
    Calls Try.prog 39 #[.pointer (some ⟨k, 0, none⟩), .int .i64 x, .int .i64 y] w (TreePost (T.fit x y) B w) := by
  have L := Lib.hid (fun w' (h : PartAt 66 w' T k S) => Try.least_ok T k S w' hn hg h)
  have F := Lib.hid (fun w' (h : PartAt 66 w' T k S) => Try.fit_ok T k S x y w' hn hg hS h1 h2 h3 h4 h)
  have M := Lib.hid (fun w' (h : PartAt 66 w' (T.fit x y) k S) => Try.made_new (T.fit x y) k S w' (by rw [Tr.fit_size]; exact hn) h)
  have P := Lib.hid (h.below ((Below.refl _ w).alloc (Nat.le_refl _) (.cells #[.slice none 0 0] 26)))
  have e1 : decide (x < T.lw) = false := by simp; omega
  have e2 : decide (y < T.lh) = false := by simp; omega
  have e3 : decide (1000 < x) = false := by simp; omega
  have e4 : decide (1000 < y) = false := by simp; omega
  have HS := Lib.hid hSB
  have hSl := Lib.hid h.lt
  clear h hS hg hSB
  go_enter Try.func39, Try.ntmps39
  go_wp2_with (first
    | (go_at_call 42; refine (L.out _ P.out).mono ?_; rintro e w1 ⟨rfl, rfl⟩)
    | (go_at_call 58; refine (F.out _ P.out).mono ?_; rintro e w1 ⟨rfl, hp1, ht1⟩
       have hk1 : Below (w.heap.size + 1) (w.alloc (.cells #[.slice none 0 0] 26)) w1 ∨ True := .inr trivial
       have hs1 : w1.heap.size = w.heap.size + 1 := by (rw [← ht1.size]; simp)
       have hb1 := (World.cell?_of_block (a := ⟨w.heap.size, 0, none⟩) (ht1.block w.heap.size (fun h => by have := hSl.out _ h; omega))).trans (cell_block (heap_alloc_new w _) 0)
       have hz1 := (World.frozen?_of_block (a := ⟨w.heap.size, 0, none⟩) (ht1.block w.heap.size (fun h => by have := hSl.out _ h; omega))).trans (free_block (heap_alloc_new w _) 0)
       have hp1 := Lib.hid hp1; have ht1 := Lib.hid ht1)
    | (go_at_call 33; refine (M.out _ hp1.out).mono ?_; rintro e w2 ⟨g, off, c, rfl, hg2, hN, hb2⟩; obtain ⟨hc2, hz2⟩ := bcell hb2; have hs2 := hb2.size; have hN := Lib.hid hN))
  have hs2' : w.heap.size < w1.heap.size := by omega
  refine bodyPost_ret (v := .tuple #[.agg #[.slice (some ⟨g, off, none⟩) (T.fit x y).size c], .bool true]) (by simp [results, Try.results39, go_sem, hc2, hb1, hs2']) rfl ⟨_, _, _, rfl, by omega, ?_, ?_⟩
  · refine nodes_set hN.out (fun b o c' e => ?_) _ _
    injection e with e1 e2 e3; injection e1 with e1; injection e1 with e1
    rw [← e1]; omega
  · exact ((((Below.refl B w).alloc hB _).trans (ht1.out.below HS.out)).trans (hb2.mono (by omega))).setCell (by omega) _

set_option maxRecDepth 100000 in
theorem Try.fits_no (T : Tr) (k : Nat) (S : List Nat) (x y : Int) (w : World) (hn : T.size ≤ 1000) (hg : T.good) (h1 : x < T.lw) (h : PartAt 66 w T k S) :
    Calls Try.prog 39 #[.pointer (some ⟨k, 0, none⟩), .int .i64 x, .int .i64 y] w (NoTree w.heap.size w) := by
  have L := Lib.hid (fun w' (h : PartAt 66 w' T k S) => Try.least_ok T k S w' hn hg h)
  have P := Lib.hid (h.below ((Below.refl _ w).alloc (Nat.le_refl _) (.cells #[.slice none 0 0] 26)))
  have e1 : decide (x < T.lw) = true := by simp; omega
  clear h hg
  go_enter Try.func39, Try.ntmps39
  go_wp2_with (go_at_call 42; refine (L.out _ P.out).mono ?_; rintro e w1 ⟨rfl, rfl⟩)
  refine bodyPost_ret (v := .tuple #[.agg #[.slice none 0 0], .bool false]) (by simp [results, Try.results39, go_sem]) rfl ⟨rfl, ?_⟩
  repeat (first | exact Below.refl _ _ | refine Below.drew ?_ | (refine Below.setCell ?_ (by first | omega | (simp <;> omega)) _) | (refine Below.alloc ?_ (by first | omega | (simp <;> omega)) _))

set_option maxRecDepth 100000 in
theorem Try.tfit_ok (T : Tr) (hT : Whole T) (v : Value) (x y : Int) (w : World) (h1 : T.lw ≤ x) (h2 : T.lh ≤ y) (h3 : x ≤ 1000) (h4 : y ≤ 1000) (hv : NodesAt w v (T.nodes 0)) :
    Calls Try.prog 21 #[.agg #[v], .int .i64 x, .int .i64 y] w (TreePost (T.fit x y) w.heap.size w) := by
  have hP := Lib.hid (fun w' (hW : Below w.heap.size w w') => Try.parse_ok T hT v w' (hv.below hW))
  have hF := Lib.hid (fun w' B k S hS hB hSB h => Try.fits_ok T k S x y B w' (by have := hT.size; omega) hT.good hS h1 h2 h3 h4 hB hSB h)
  obtain ⟨b, off, c, rfl, hb⟩ := nodes_slice hv
  clear hv hT
  go_enter Try.func21, Try.ntmps21
  go_wp2_with (first
    | (go_at_call 27; refine (hP.out _ (((Below.refl _ _).alloc (Nat.le_refl _) _).alloc (by simp) _)).mono ?_; rintro e w1 ⟨k, S, rfl, hpa, hS, hSl, hb1⟩; obtain ⟨hc1, hz1⟩ := bcell hb1; have hs1 : w.heap.size + 2 ≤ w1.heap.size := by (have := hb1.size; simp at this; omega)
       have hf := Lib.hid (hF.out w1 (w.heap.size + 2) k S hS (by omega) (fun i hi => by have := hSl i hi; simp at this; omega) hpa); clear hpa hS hSl)
    | (go_at_call 39; refine (hf.out).mono ?_; rintro e w2 ⟨b2, off2, c2, rfl, hb2', hN, hb2⟩; obtain ⟨hc2, hz2⟩ := bcellB hb2; have hN := Lib.hid hN))
  have q1 : w.heap.size + 1 < w1.heap.size := by omega
  have q2 : w.heap.size + 1 < w2.heap.size := by have := hb2.size; omega
  refine bodyPost_ret (v := .tuple #[.agg #[.slice (some ⟨b2, off2, none⟩) (T.fit x y).size c2], .bool true]) (by simp [results, Try.results21, go_sem, hc2, hc1]) rfl ⟨_, _, _, rfl, by omega, ?_, ?_⟩
  · refine nodes_set hN.out (fun b o c' e => ?_) _ _
    injection e with e1 e2 e3; injection e1 with e1; injection e1 with e1
    rw [← e1]; omega
  · exact (((((Below.refl _ w).alloc (Nat.le_refl _) _).alloc (by simp) _).trans (hb1.mono (by simp; omega))).trans (hb2.mono (by omega))).setCell (by simp) _

set_option maxRecDepth 100000 in
theorem Try.tfit_no (T : Tr) (hT : Whole T) (v : Value) (x y : Int) (w : World) (h1 : x < T.lw) (hv : NodesAt w v (T.nodes 0)) :
    Calls Try.prog 21 #[.agg #[v], .int .i64 x, .int .i64 y] w (NoTree w.heap.size w) := by
  have hP := Lib.hid (fun w' (hW : Below w.heap.size w w') => Try.parse_ok T hT v w' (hv.below hW))
  have hF := Lib.hid (fun w' k S h => Try.fits_no T k S x y w' (by have := hT.size; omega) hT.good h1 h)
  obtain ⟨b, off, c, rfl, hb⟩ := nodes_slice hv
  clear hv hT
  go_enter Try.func21, Try.ntmps21
  go_wp2_with (first
    | (go_at_call 27; refine (hP.out _ (((Below.refl _ _).alloc (Nat.le_refl _) _).alloc (by simp) _)).mono ?_; rintro e w1 ⟨k, S, rfl, hpa, hS, hSl, hb1⟩; obtain ⟨hc1, hz1⟩ := bcell hb1; have hs1 : w.heap.size + 2 ≤ w1.heap.size := by (have := hb1.size; simp at this; omega)
       have hf := Lib.hid (hF.out w1 k S hpa); clear hpa hS hSl)
    | (go_at_call 39; refine (hf.out).mono ?_; rintro e w2 ⟨rfl, hb2⟩; obtain ⟨hc2, hz2⟩ := bcell hb2; have q1 : w.heap.size + 1 < w1.heap.size := by omega))
  have q1 : w.heap.size + 1 < w1.heap.size := by omega
  refine bodyPost_ret (v := .tuple #[.agg #[.slice none 0 0], .bool false]) (by simp [results, Try.results21, go_sem, hc2, hc1, q1]) rfl ⟨rfl, ?_⟩
  exact (((((Below.refl _ w).alloc (Nat.le_refl _) _).alloc (by simp) _).trans (hb1.mono (by simp; omega))).trans (hb2.mono (by omega))).setCell (by simp) _
end Go.Proofs
