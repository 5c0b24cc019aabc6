/-
  A part without a pane; tree.Remove. tree.Remove.
-/
import Derived.Test.YtkcibhokjiciiaaBx
namespace Go.Proofs
open Go.RowKit Go.Lib Go.Sort Tp
attribute [local go_sem ↓] Go.wp_at_zero Go.wp_at_succ

def WoPost (T : Tr) (S : List Nat) (B : Nat) (w : World) (e : Ending) (w' : World) : Prop :=
  ∃ k R, e = .returned (.pointer (some ⟨k, 0, none⟩)) ∧ PartAt 66 w' T k R ∧ R.Nodup ∧ (∀ i ∈ R, i ∈ S ∨ w.heap.size ≤ i) ∧ Below B w w'
theorem keep4 {B : Nat} {w0 : World} {p1 p2 p3 p4 : Addr} {v1 v2 v3 v4 : Value} (h1 : w0.cell? p1 = some v1) (b1 : p1.block < B) (h2 : w0.cell? p2 = some v2) (b2 : p2.block < B) (h3 : w0.cell? p3 = some v3) (b3 : p3.block < B)
    (h4 : w0.cell? p4 = some v4) (b4 : p4.block < B) (w' : World) (h : Below B w0 w') :
    Below B w0 w' ∧ w'.cell? p1 = some v1 ∧ w'.cell? p2 = some v2 ∧ w'.cell? p3 = some v3 ∧ w'.cell? p4 = some v4 :=
  ⟨h, (h.cell b1).trans h1, (h.cell b2).trans h2, (h.cell b3).trans h3, (h.cell b4).trans h4⟩

set_option maxRecDepth 100000 in
set_option maxHeartbeats 2000000 in
theorem Try.without_ok : ∀ (T : Tr) (k : Nat) (S : List Nat) (p : Int) (w : World), S.Nodup → PartAt 66 w T k S →
    Calls Try.prog 38 #[.pointer (some ⟨k, 0, none⟩), .int .i64 p] w (WoPost (T.without p) S w.heap.size w)
  | .leaf q, k, S, p, w, hS, ⟨e, h⟩ => by
    have c3 : w.cell? ⟨k, 3, none⟩ = some (.pointer none) := cell_block h 3
    have P := Lib.hid (show PartAt 66 w (.leaf q) k S from ⟨e, h⟩)
    have H := Lib.hid hS
    clear h e hS
    go_enter Try.func38, Try.ntmps38
    go_wp2
    go_ret
    exact ⟨k, S, rfl, P.out, H.out, fun i hi => .inl hi, Below.refl _ _⟩
  | .node d f A B, k, S, p, w, hS, ⟨ka, kb, Sa, Sb, e, h, ha, hb⟩ => by
    subst e
    have c1 : w.cell? ⟨k, 1, none⟩ = some (.int .i64 d) := cell_block h 1
    have c2 : w.cell? ⟨k, 2, none⟩ = some (.int .i64 f) := cell_block h 2
    have c3 : w.cell? ⟨k, 3, none⟩ = some (.pointer (some ⟨ka, 0, none⟩)) := cell_block h 3
    have c4 : w.cell? ⟨k, 4, none⟩ = some (.pointer (some ⟨kb, 0, none⟩)) := cell_block h 4
    have hk : k < w.heap.size := (Array.getElem?_eq_some_iff.1 h).1
    rw [List.nodup_cons, List.nodup_append, List.mem_append, not_or] at hS
    obtain ⟨⟨hka, hkb⟩, hnA, hnB, hAB⟩ := hS
    have IA := Lib.hid (fun w' (hW : Below w.heap.size w w') => Try.without_ok A ka Sa p w' hnA (ha.below hW))
    have IB := Lib.hid (fun w' (hW : Below w.heap.size w w') => Try.without_ok B kb Sb p w' hnB (hb.below hW))
    have NA := Lib.hid hnA; have NB := Lib.hid hnB
    clear h hnA hnB
    by_cases eA : A = .leaf p
    · have PB := Lib.hid (show WoPost ((Tr.node d f A B).without p) (k :: (Sa ++ Sb)) w.heap.size w (.returned (.pointer (some ⟨kb, 0, none⟩))) w from
        ⟨kb, Sb, rfl, by simpa [Tr.without, eA] using hb, NB.out, fun i hi => .inl (by simp [hi]), Below.refl _ _⟩)
      subst eA
      obtain ⟨_, hA⟩ := ha
      have a3 : w.cell? ⟨ka, 3, none⟩ = some (.pointer none) := cell_block hA 3
      have a0 : w.cell? ⟨ka, 0, none⟩ = some (.int .i64 p) := cell_block hA 0
      clear hA hb hAB hka hkb
      go_enter Try.func38, Try.ntmps38
      go_wp2
      go_ret
      exact PB.out
    · -- the first part's head
      have qa : (∃ q, w.cell? ⟨ka, 3, none⟩ = some (.pointer none) ∧ w.cell? ⟨ka, 0, none⟩ = some (.int .i64 q) ∧ q ≠ p) ∨ ∃ x, w.cell? ⟨ka, 3, none⟩ = some (.pointer (some x)) := by
        cases A with
        | leaf q => obtain ⟨_, hA⟩ := ha; exact .inl ⟨q, cell_block hA 3, cell_block hA 0, fun e => eA (by rw [e])⟩
        | node d' f' A' B' => obtain ⟨ka', _, _, _, _, hA, _, _⟩ := ha; exact .inr ⟨_, cell_block hA 3⟩
      by_cases eB : B = .leaf p
      · have PB := Lib.hid (show WoPost ((Tr.node d f A B).without p) (k :: (Sa ++ Sb)) w.heap.size w (.returned (.pointer (some ⟨ka, 0, none⟩))) w from
          ⟨ka, Sa, rfl, by simpa [Tr.without, eA, eB] using ha, NA.out, fun i hi => .inl (by simp [hi]), Below.refl _ _⟩)
        subst eB
        obtain ⟨_, hB⟩ := hb
        have b3 : w.cell? ⟨kb, 3, none⟩ = some (.pointer none) := cell_block hB 3
        have b0 : w.cell? ⟨kb, 0, none⟩ = some (.int .i64 p) := cell_block hB 0
        clear hB ha hAB hka hkb eA
        rcases qa with ⟨q, a3, a0, hq⟩ | ⟨x, a3⟩
        all_goals
          go_enter Try.func38, Try.ntmps38
          go_wp2
          go_ret
          exact PB.out
      · have qb : (∃ q, w.cell? ⟨kb, 3, none⟩ = some (.pointer none) ∧ w.cell? ⟨kb, 0, none⟩ = some (.int .i64 q) ∧ q ≠ p) ∨ ∃ x, w.cell? ⟨kb, 3, none⟩ = some (.pointer (some x)) := by
          cases B with
          | leaf q => obtain ⟨_, hB⟩ := hb; exact .inl ⟨q, cell_block hB 3, cell_block hB 0, fun e => eB (by rw [e])⟩
          | node d' f' A' B' => obtain ⟨kb', _, _, _, _, hB, _, _⟩ := hb; exact .inr ⟨_, cell_block hB 3⟩
        have hT : (Tr.node d f A B).without p = .node d f (A.without p) (B.without p) := by simp [Tr.without, eA, eB]
        rw [hT]
        have K4 := Lib.hid (keep4 (B := w.heap.size) c1 hk c2 hk c3 hk c4 hk)
        have LA := Lib.hid ha.lt; have LB := Lib.hid hb.lt; have AB := Lib.hid hAB
        clear ha hb hAB hka hkb eA eB hT
        generalize A.without p = A' at *
        generalize B.without p = B' at *
        rcases qa with ⟨q, a3, a0, hq⟩ | ⟨x, a3⟩ <;> rcases qb with ⟨q', b3, b0, hq'⟩ | ⟨x', b3⟩
        all_goals
          go_enter Try.func38, Try.ntmps38
          go_wp2_with fail
          go_region_held3 (fun w' => Below w.heap.size w w' ∧ w'.cell? ⟨k, 1, none⟩ = some (.int .i64 d) ∧ w'.cell? ⟨k, 2, none⟩ = some (.int .i64 f) ∧ w'.cell? ⟨k, 3, none⟩ = some (.pointer (some ⟨ka, 0, none⟩)) ∧ w'.cell? ⟨k, 4, none⟩ = some (.pointer (some ⟨kb, 0, none⟩)))
            ((refine K4.out _ ?_; repeat (first | with_reducible assumption | with_reducible exact Below.refl _ _ | with_reducible refine Below.drew ?_ | (with_reducible refine Below.alloc ?_ ?_ _; rotate_left; (first | omega | (simp <;> omega))))))
            (first
              | ((go_at_call_of 38 (Value.pointer (some ⟨kb, 0, none⟩)); refine (IB.out _ hW1).mono ?_; rintro e w2 ⟨kb', Rb, rfl, hpb, hnb, hlb, hb2⟩
                  have HW2 : Below w.heap.size w w2 := hW1.trans (hb2.mono hW1.size)
                  have hw2s := HW2.size
                  have PA := Lib.hid (hA1.out.below hb2); have PB := Lib.hid hpb; have MB := Lib.hid hnb
                  have OB := Lib.hid (fun i hi => (hlb i hi).imp_right (Nat.le_trans hW1.size))
                  have DJ := Lib.hid (fun i (hi : i ∈ Ra) j (hj : j ∈ Rb) (e : i = j) => by
                    have h1 := hA1.out.lt _ hi
                    rcases hlb j hj with h2 | h2
                    · rcases OA.out i hi with h3 | h3
                      · exact AB.out i h3 j h2 e
                      · have := LB.out _ h2; omega
                    · omega)
                  clear hpb hnb hlb))
              | ((go_at_call_of 38 (Value.pointer (some ⟨ka, 0, none⟩)); refine (IA.out _ hW1).mono ?_; rintro e w2 ⟨ka', Ra, rfl, hpa, hna, hla, hb2⟩
                  have HW2 : Below w.heap.size w w2 := hW1.trans (hb2.mono hW1.size)
                  have hw2s := HW2.size
                  have PB := Lib.hid (hB1.out.below hb2); have PA := Lib.hid hpa; have MA := Lib.hid hna
                  have OA := Lib.hid (fun i hi => (hla i hi).imp_right (Nat.le_trans hW1.size))
                  have DJ := Lib.hid (fun i (hi : i ∈ Ra) j (hj : j ∈ Rb) (e : i = j) => by
                    have h1 := hB1.out.lt _ hj
                    rcases hla i hi with h2 | h2
                    · rcases OB.out j hj with h3 | h3
                      · exact AB.out i h2 j h3 e
                      · have := LA.out _ h2; omega
                    · omega)
                  clear hpa hna hla))
              | ((go_at_call_of 38 (Value.pointer (some ⟨ka, 0, none⟩)); refine (IA.out _ ((Below.refl _ w).drew)).mono ?_; rintro e w1 ⟨ka', Ra, rfl, hpa, hna, hla, hb1⟩
                  have hW1 : Below w.heap.size w w1 := ((Below.refl _ w).drew).trans hb1
                  have hA1 := Lib.hid hpa; have MA := Lib.hid hna; have OA := Lib.hid (show ∀ i ∈ Ra, i ∈ Sa ∨ w.heap.size ≤ i from hla)
                  clear hpa hna hla))
              | ((go_at_call_of 38 (Value.pointer (some ⟨kb, 0, none⟩)); refine (IB.out _ ((Below.refl _ w).drew)).mono ?_; rintro e w1 ⟨kb', Rb, rfl, hpb, hnb, hlb, hb1⟩
                  have hW1 : Below w.heap.size w w1 := ((Below.refl _ w).drew).trans hb1
                  have hB1 := Lib.hid hpb; have MB := Lib.hid hnb; have OB := Lib.hid (show ∀ i ∈ Rb, i ∈ Sb ∨ w.heap.size ≤ i from hlb)
                  clear hpb hnb hlb)))
          all_goals
            go_wp2
            go_ret
            refine ⟨w2.heap.size, w2.heap.size :: (Ra ++ Rb), rfl, ⟨ka', kb', Ra, Rb, rfl, heap_alloc_new w2 _, PA.out.below ((Below.refl _ w2).alloc (Nat.le_refl _) _), PB.out.below ((Below.refl _ w2).alloc (Nat.le_refl _) _)⟩, ?_, fun i hi => ?_, HW2.alloc HW2.size _⟩
            · rw [List.nodup_cons, List.nodup_append, List.mem_append, not_or]
              exact ⟨⟨fun h => by have := PA.out.lt _ h; omega, fun h => by have := PB.out.lt _ h; omega⟩, MA.out, MB.out, fun x hx y hy => DJ.out x hx y hy⟩
            · rcases List.mem_cons.1 hi with rfl | hi
              · exact .inr HW2.size
              · rcases List.mem_append.1 hi with hi | hi
                · exact (OA.out i hi).imp_left fun h => by simp [h]
                · exact (OB.out i hi).imp_left fun h => by simp [h]
end Go.Proofs
namespace Go.Proofs
open Go.RowKit Go.Lib Go.Sort Tp
attribute [local go_sem ↓] Go.wp_at_zero Go.wp_at_succ

set_option maxRecDepth 100000 in
set_option maxHeartbeats 1000000 in
/-- A pane of a tree of more than one. -/
theorem Try.tremove_ok (T : Tr) (hT : Whole T) (v : Value) (x y p : Int) (w : World) (hp : p ∈ T.panes) (hnode : ∃ d f A B, T = .node d f A B) (hW : Whole (T.without p)) (h1 : (T.without p).lw ≤ x) (h2 : (T.without p).lh ≤ y) (h3 : x ≤ 1000) (h4 : y ≤ 1000)
    (hv : NodesAt w v (T.nodes 0)) :
    Calls Try.prog 13 #[.agg #[v], .int .i64 x, .int .i64 y, .int .i64 p] w (TreePost ((T.without p).fit x y) w.heap.size w) := by
  have hP := Lib.hid (fun w' (hW : Below w.heap.size w w') => Try.parse_ok T hT v w' (hv.below hW))
  have hF := Lib.hid (fun w' k S (h : PartAt 66 w' T k S) => Try.find_ok T k S p w' h)
  have hA := Lib.hid (fun w' k S (h : PartAt 66 w' T k S) => fnd_some h hp)
  have hN := Lib.hid (fun w' k S (h : PartAt 66 w' T k S) (hS : S.Nodup) => Try.without_ok T k S p w' hS h)
  have hQ := Lib.hid (fun w' B k S hS hB hSB h => Try.fits_ok (T.without p) k S x y B w' (by have := hW.size; omega) hW.good hS h1 h2 h3 h4 hB hSB h)
  have hH := Lib.hid (fun w' k S (h : PartAt 66 w' T k S) => show ∃ z, w'.cell? ⟨k, 3, none⟩ = some (.pointer (some z)) by
    obtain ⟨d, f, A, B, e⟩ := hnode
    rw [e] at h
    obtain ⟨ka, kb, Sa, Sb, _, h, _, _⟩ := h
    exact ⟨_, cell_block h 3⟩)
  obtain ⟨b0, off, c, rfl, hb0⟩ := nodes_slice hv
  clear hv hT hp hnode hW h1 h2
  go_enter Try.func13, Try.ntmps13
  go_wp2_with fail
  go_at_call 27
  refine (hP.out _ (((Below.refl _ _).alloc (Nat.le_refl _) _).alloc (by simp) _)).mono ?_
  rintro e w1 ⟨k, S, rfl, hpa, hS, hSl, hb1⟩
  obtain ⟨hc1, hz1⟩ := bcell hb1
  have hs1 : w.heap.size + 2 ≤ w1.heap.size := by have := hb1.size; simp at this; omega
  have fa := hF.out w1 k S hpa
  obtain ⟨ia, hia, _⟩ := hA.out _ _ _ hpa
  rw [hia] at fa
  have Fa := Lib.hid fa
  obtain ⟨z, c3⟩ := hH.out _ _ _ hpa
  have Wo := Lib.hid (hN.out _ _ _ hpa hS)
  have SL := Lib.hid (fun i hi => show w.heap.size + 2 ≤ i by have := hSl i hi; simp at this; omega)
  clear hpa hS hSl fa hia
  go_wp2_with (first
    | (go_at_call 30; refine (Fa.out).mono ?_; rintro e w2 ⟨rfl, rfl⟩; unfold ptr)
    | (go_at_call 38; refine (Wo.out).mono ?_; rintro e w2 ⟨k2, R2, rfl, hp2, hn2, hl2, hb2⟩; obtain ⟨hc2, hz2⟩ := bcell hb2; have hs2 := hb2.size
       have Q := Lib.hid (hQ.out w2 (w.heap.size + 2) k2 R2 hn2 (by omega) (fun i hi => by rcases hl2 i hi with h | h; exact SL.out i h; omega) hp2); clear hp2 hn2 hl2)
    | (go_at_call 39; refine (Q.out).mono ?_; rintro e w3 ⟨b3, off3, c3', rfl, hb3', hN3, hb3⟩; obtain ⟨hc3, hz3⟩ := bcellB hb3; have hs3 := hb3.size; have q1 : w.heap.size + 1 < w1.heap.size := by omega
       have q2 : w.heap.size + 1 < w2.heap.size := by omega
       have N3 := Lib.hid hN3; clear hN3))
  refine bodyPost_ret (v := .tuple #[.agg #[.slice (some ⟨b3, off3, none⟩) ((T.without p).fit x y).size c3'], .bool true]) (by simp [results, Try.results13, go_sem, hc3, hc2, hc1, q1]) rfl ⟨_, _, _, rfl, by omega, ?_, ?_⟩
  · refine nodes_set N3.out (fun b o c' e => ?_) _ _
    injection e with e1 e2 e3; injection e1 with e1; injection e1 with e1
    rw [← e1]; omega
  · exact (((((Below.refl _ w).alloc (Nat.le_refl _) _).alloc (by simp) _).trans (hb1.mono (by simp; omega))).trans ((hb2.mono (by omega)).trans (hb3.mono (by omega)))).setCell (by simp) _
end Go.Proofs
