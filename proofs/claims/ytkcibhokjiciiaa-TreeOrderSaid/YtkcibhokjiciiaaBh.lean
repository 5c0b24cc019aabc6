/-
  The document's answer for trees: Split.
-/
import Derived.Test.YtkcibhokjiciiaaBg
import Derived.Test.YtkcibhokjiciiaaBf
namespace Tp
theorem lng_hit {l : List Sp} {p d : Int} (hn : (l.map (·.pane)).Nodup) (k : Nat) (hk : k < l.length) (hp : l[k].pane = p) : lng (l.take (k + 1)) p d = if d = 1 then l[k].r.w else l[k].r.h := by
  have hk' : k < (l.take (k + 1)).length := by rw [List.length_take]; omega
  have e : (l.take (k + 1))[k] = l[k] := List.getElem_take
  rw [lng_at hk' (fun j hj hjk => ?_) (by rw [e]; exact hp), e]
  have e2 : (l.take (k + 1))[j] = l[j]'(by rw [List.length_take] at hj; omega) := List.getElem_take
  rw [e2]
  intro h
  have hj' : j < l.length := by rw [List.length_take] at hj; omega
  have := List.pairwise_iff_getElem.1 hn j k (by simpa using hj') (by simpa using hk) hjk
  simp only [List.getElem_map] at this
  exact this (h.trans hp.symm)
theorem lng_miss {l : List Sp} {p d : Int} (k : Nat) (hk : k < l.length) (hp : l[k].pane ≠ p) : lng (l.take (k + 1)) p d = lng (l.take k) p d := by
  unfold lng
  rw [List.take_succ_eq_append_getElem hk, List.find?_append]
  have : [l[k]].find? (fun s => decide (s.pane = p)) = none := by simp [hp]
  rw [this, Option.or_none]
theorem splitRow_free (k : Nat) (d f f' fresh : Int) : ∀ (i : Nat) (l : List Nd), i + l.length ≤ k → splitRow k d f fresh i l = splitRow k d f' fresh i l
  | i, [], _ => rfl
  | i, x :: l, h => by
    simp only [List.length_cons] at h
    simp only [splitRow, if_neg (show ¬ i = k by omega), splitRow_free k d f f' fresh (i + 1) l (by omega)]
theorem splitRow_succ (k : Nat) (d f fresh : Int) (l : List Nd) (j : Nat) (hj : j < l.length) : splitRow k d f fresh 0 (l.take (j + 1)) = splitRow k d f fresh 0 (l.take j) ++ (if j = k then [⟨0, d, f, (k : Int) + 1, (k : Int) + 2⟩, l[j]!, ⟨fresh, 0, 0, 0, 0⟩] else [l[j]!.moved k 2]) := by
  rw [List.take_succ_eq_append_getElem hj, splitRow_append, List.length_take, Nat.min_eq_left (Nat.le_of_lt hj), Nat.zero_add, getElem!_pos l j hj]
  simp only [splitRow, List.append_nil]
theorem splitRow_length (k : Nat) (d f fresh : Int) : ∀ (i : Nat) (l : List Nd), (splitRow k d f fresh i l).length ≤ 3 * l.length
  | _, [] => by simp [splitRow]
  | i, x :: l => by
    have := splitRow_length k d f fresh (i + 1) l
    simp only [splitRow, List.length_append, List.length_cons]
    split <;> simp <;> omega
/-- A node's parts stand within the row. -/
theorem Tr.nodes_bound : ∀ {T : Tr} (o j : Nat) (_hj : j < (T.nodes o).length), 0 ≤ (T.nodes o)[j]!.a ∧ (T.nodes o)[j]!.a ≤ o + T.size ∧ 0 ≤ (T.nodes o)[j]!.b ∧ (T.nodes o)[j]!.b ≤ o + T.size
  | .leaf p, o, j, hj => by
    simp only [Tr.nodes, List.length_cons, List.length_nil] at hj
    have : j = 0 := by omega
    subst this
    simp only [Tr.nodes, List.getElem!_cons_zero, Tr.size]; omega
  | .node d f a b, o, j, hj => by
    have hh : ∀ x ∈ (Tr.node d f a b).nodes o, 0 ≤ x.a ∧ x.a ≤ o + (Tr.node d f a b).size ∧ 0 ≤ x.b ∧ x.b ≤ o + (Tr.node d f a b).size := fun x hx => by
      simp only [Tr.nodes, List.mem_cons, List.mem_append] at hx
      simp only [Tr.size]
      rcases hx with rfl | hx | hx
      · simp only; omega
      · obtain ⟨i, hi, rfl⟩ := List.mem_iff_getElem.1 hx
        have := Tr.nodes_bound (T := a) (o + 1) i hi
        rw [getElem!_pos (a.nodes (o + 1)) i hi] at this
        omega
      · obtain ⟨i, hi, rfl⟩ := List.mem_iff_getElem.1 hx
        have := Tr.nodes_bound (T := b) (o + 1 + a.size) i hi
        rw [getElem!_pos (b.nodes (o + 1 + a.size)) i hi] at this
        omega
    rw [getElem!_pos _ j hj]
    exact hh _ (List.getElem_mem hj)
end Tp
namespace Go.Proofs
open Go.RowKit Go.Lib Go.Sort Tp
attribute [local go_sem ↓] Go.wp_at_zero Go.wp_at_succ

/-- A tree that is split, or that there is no room. -/
def SplitPost (T : Tr) (p fresh d n : Int) (w : World) (e : Ending) (w' : World) : Prop :=
  (n < 3 ∧ NoTree w.heap.size w e w') ∨ (3 ≤ n ∧ ∃ f, 1 ≤ f ∧ f ≤ n - 2 ∧ TreePost (T.put p fresh d f) w.heap.size w e w')

def SpotsPost (l : List Sp) (w : World) (e : Ending) (w' : World) : Prop := ∃ v u, e = .returned (.tuple #[v, u, .bool true]) ∧ SpotsAt w' v l ∧ Below w.heap.size w w'
set_option maxRecDepth 100000 in
set_option maxHeartbeats 4000000 in
theorem Try.rsplit_ok (T : Tr) (hT : Whole T) (v : Value) (x y p fresh d : Int) (r : Nat) (w : World) (hf : T.fits x y) (h3 : x ≤ 1000) (h4 : y ≤ 1000) (hp : p ∈ T.panes) (hp1 : 1 ≤ p) (hfr : fresh ∉ T.panes) (hf1 : 1 ≤ fresh) (hs : T.size + 2 ≤ 63) (hd : d = 1 ∨ d = 2) (hv : NodesAt w v (T.nodes 0)) :
    Calls Try.prog 25 #[.agg #[v], .int .i64 x, .int .i64 y, .int .i64 p, .int .i64 fresh, .int .i64 d, .float .f64 r] w (SplitPost T p fresh d (lng (T.spots (whole x y)) p d) w) := by
  have hPl := Lib.hid (fun w' (hW : Below w.heap.size w w') => (Try.rplaces2_ok T hT v x y w' hf h3 h4 (hv.below hW)).mono (fun e w'' h => show SpotsPost (T.spots (whole x y)) w' e w'' from by obtain ⟨a, b, h1, h2, _, h4⟩ := h; exact ⟨a, b, h1, h2, h4⟩))
  obtain ⟨k, hk⟩ := Tr.pos_some (o := 0) hp
  obtain ⟨lf, rt, hrow, hlen, hbef⟩ := Tr.pos_node hp1 hT.good hk
  have hsp := Lib.hid (fun f => Tr.split_at k d f fresh hT.nodup hk)
  have hpos := Tr.pos_in hk
  have hnl := T.nodes_length 0
  have hat := Lib.hid (fun w' (hW : Below w.heap.size w w') => Try.rat_some (T.nodes 0) v p k w' hp1 (by rw [hnl]; exact hT.size) (by rw [hnl]; omega) (fun j hj => by
      rw [hrow, getElem!_pos _ _ (by simp; omega), List.getElem_append_left (by omega)]
      exact hbef _ (List.getElem_mem _)) (by
      rw [hrow, getElem!_pos _ _ (by simp; omega), List.getElem_append_right (by omega)]
      simp [show k - lf.length = 0 by omega]) (hv.below hW))
  have han := Lib.hid (fun w' (hW : Below w.heap.size w w') => Try.rat_none (T.nodes 0) v fresh w' hf1 (by rw [hnl]; exact hT.size) (fun j hj => by
      rw [getElem!_pos (T.nodes 0) j hj]
      exact Tr.pos_node.noname (p := fresh) hf1 hT.good (Tr.pos_none hfr) _ (List.getElem_mem _)) (hv.below hW))
  have hnk : (T.nodes 0)[k]!.p = p ∧ (T.nodes 0)[k]!.d = 0 ∧ (T.nodes 0)[k]!.f = 0 ∧ (T.nodes 0)[k]!.a = 0 ∧ (T.nodes 0)[k]!.b = 0 := by
    rw [hrow, getElem!_pos _ _ (by simp; omega), List.getElem_append_right (by omega)]
    simp [show k - lf.length = 0 by omega]
  have hnb := Lib.hid (fun j (hj : j < T.size) => Tr.nodes_bound (T := T) 0 j (by rw [hnl]; exact hj))
  have hnd : ((T.spots (whole x y)).map (·.pane)).Nodup := by rw [Tr.spots_panes]; exact hT.nodup
  have hslen : 0 < (T.spots (whole x y)).length ∧ (T.spots (whole x y)).length ≤ 63 := by rw [Tr.spots_length]; have := T.panes_length; have := T.size_pos; omega
  have hex : ∃ j, ∃ hj : j < (T.spots (whole x y)).length, (T.spots (whole x y))[j].pane = p := by
    have : p ∈ (T.spots (whole x y)).map (·.pane) := by rw [Tr.spots_panes]; exact hp
    obtain ⟨s, hs, e⟩ := List.mem_map.1 this
    obtain ⟨j, hj, rfl⟩ := List.mem_iff_getElem.1 hs
    exact ⟨j, hj, e⟩
  have hbd : ∀ j (hj : j < (T.spots (whole x y)).length), (T.spots (whole x y))[j].r.w ≤ 1000 ∧ (T.spots (whole x y))[j].r.h ≤ 1000 ∧ 1 ≤ (T.spots (whole x y))[j].r.w ∧ 1 ≤ (T.spots (whole x y))[j].r.h := fun j hj => by
    have h := Tr.spots_in (T := T) (r := whole x y) hf _ (List.getElem_mem hj)
    simp only [whole] at h ⊢
    omega
  obtain ⟨i0', hi0, hz0, hz1, hz2⟩ := info_parts Try.infoNode
  obtain ⟨b, off, c, rfl, hb, hN⟩ := hv
  rw [hnl] at *
  have HN := Lib.hid hN; have ND := Lib.hid hnd; have EX := Lib.hid hex; have BD := Lib.hid hbd
  have hpos2 := hpos.2
  have hkz : k < T.size := by omega
  obtain ⟨pk0, pk1, pk2, pk3, pk4⟩ := hnk
  have PK := Lib.hid (show (T.nodes 0)[k]! = ⟨p, 0, 0, 0, 0⟩ by
    cases hx : (T.nodes 0)[k]!; rw [hx] at pk0 pk1 pk2 pk3 pk4; simp only at pk0 pk1 pk2 pk3 pk4; subst pk0 pk1 pk2 pk3 pk4; rfl)
  have e1 : decide (fresh < 1) = false := by simp; omega
  have e2 : decide (63 < (T.size : Int) + 2) = false := by simp; omega
  have e3 : decide (63 < T.size + 2) = false := by simp; omega
  clear hN hT hf hp hfr hk hrow hlen hbef hnd hex hbd hpos pk0 pk1 pk2 pk3 pk4
  have HNL : (T.nodes 0).length = T.size := T.nodes_length 0
  generalize hsl : T.spots (whole x y) = l at *
  generalize hnn : T.nodes 0 = nl at *
  clear hsl hnn
  go_enter Try.func25, Try.ntmps25
  go_wp2_with fail
  go_at_call 11
  refine (hPl.out _ (((Below.refl _ w).alloc (Nat.le_refl _) _).alloc (by simp) _)).mono ?_
  rintro e w1 ⟨vs, us, rfl, hvs, hb1⟩
  obtain ⟨t1, t2, t3, t4⟩ := two_new w (.cells #[.slice (some ⟨b, off, none⟩) T.size c] 26) (.cells #[.slice none 0 0] 26)
  have F1 := Lib.hid ((hb1.block (w.heap.size + 1) (by rw [t4]; omega)).trans t1)
  have F0 := Lib.hid ((hb1.block w.heap.size (by rw [t4]; omega)).trans t2)
  have HB1 : Below w.heap.size w w1 := t3.trans (hb1.mono (by rw [t4]; omega))
  have hs1 : w.heap.size + 2 ≤ w1.heap.size := by have := hb1.size; rw [t4] at this; exact this
  have q0 : w.heap.size < w1.heap.size := by omega
  have q1 : w.heap.size + 1 < w1.heap.size := by omega
  have c0 := cell_block F0.out 0
  obtain ⟨sb, so, sc, rfl, hsb, hsc⟩ := hvs.at hslen.1
  have SC := Lib.hid hsc
  clear hvs hsc t1 t2 t3 t4 hb1
  go_wp2_with fail
  go_at_call 43
  refine (hat.out _ HB1).mono ?_
  rintro e w2 ⟨rfl, rfl⟩
  go_wp2_with fail
  go_at_call 43
  refine (han.out _ (HB1.alloc HB1.size _)).mono ?_
  rintro e w2 ⟨rfl, rfl⟩
  have HB2 : Below w1.heap.size w1 ((w1.alloc (.cells #[.slice (some ⟨b, off, none⟩) T.size c] 26)).alloc (.cells #[.slice (some ⟨b, off, none⟩) T.size c] 26)) := ((Below.refl _ w1).alloc (Nat.le_refl _) _).alloc (by simp) _
  generalize ((w1.alloc (.cells #[.slice (some ⟨b, off, none⟩) T.size c] 26)).alloc (.cells #[.slice (some ⟨b, off, none⟩) T.size c] 26)) = wa at *
  have c0a := (HB2.cell (p := ⟨w.heap.size, 0, none⟩) q0).trans c0
  have HBa : Below w.heap.size w wa := HB1.trans (HB2.mono HB1.size)
  have hsa := HB2.size
  rcases hd with rfl | rfl
  · have hn : 1 ≤ lng l p 1 ∧ lng l p 1 ≤ 1000 := by
      obtain ⟨j, hj, e⟩ := EX.out
      rw [lng_at (d := 1) hj (fun i hi hij h => by
        have := List.pairwise_iff_getElem.1 ND.out i j (by simpa using hi) (by simpa using hj) hij
        simp only [List.getElem_map] at this
        exact this (h.trans e.symm)) e]
      have := BD.out j hj
      simp; omega
    go_wp2_with fail
    go_loop [20, 21] (fun s20 s21 => ∃ kk : Nat, kk ≤ l.length ∧ s21 = .int .i64 kk ∧ s20 = .int .i64 (lng (l.take kk) p 1)) (fun _ s21 => l.length - (intOf s21).toNat)
    case atStart => exact ⟨0, Nat.zero_le _, rfl, rfl⟩
    case round =>
      obtain ⟨kk, hkk, rfl, rfl⟩ := hrel
      by_cases hlt : kk < l.length
      · have hltz : (kk : Int) < (l.length : Int) := by omega
        obtain ⟨s0, s1, s2, s3, s4⟩ := SC.out kk hlt
        have t0 := (HB2.cell (p := ⟨sb, so + kk * 5, none⟩) hsb).trans s0
        have t3 := (HB2.cell (p := ⟨sb, so + kk * 5 + 3, none⟩) hsb).trans s3
        have t4 := (HB2.cell (p := ⟨sb, so + kk * 5 + 4, none⟩) hsb).trans s4
        clear s0 s1 s2 s3 s4
        by_cases hq : l[kk].pane = p
        · have hh := Lib.hid (lng_hit (d := 1) ND.out kk hlt hq)
          rw [hq] at t0
          generalize l[kk] = s at t0 t3 t4 hh
          clear hq
          go_wp2
          go_round
          case rel => exact ⟨kk + 1, by omega, by go_num, by rw [hh.out]; rfl⟩
          case measure => simp [intOf]; omega
        · have hh := Lib.hid (lng_miss (d := 1) kk hlt hq)
          have hq2 : (l[kk].pane == p) = false := by simpa using hq
          have hq3 : decide (l[kk].pane = p) = false := by simpa using hq
          generalize l[kk] = s at t0 t3 t4 hh hq hq2 hq3
          go_wp2
          go_round
          case rel => exact ⟨kk + 1, by omega, by go_num, by rw [hh.out]⟩
          case measure => simp [intOf]; omega
      · have hltz : ¬ (kk : Int) < (l.length : Int) := by omega
        have hkl : kk = l.length := by omega
        subst hkl
        rw [List.take_length]
        obtain ⟨hn1, hn2⟩ := hn
        clear hltz hlt hkk
        generalize hgn : lng l p 1 = n at hn1 hn2 ⊢
        have HG := Lib.hid hgn
        clear hgn
        by_cases hn3 : n < 3
        · have hres := cell_block ((HB2.block (w.heap.size + 1) q1).trans F1.out) 0
          have hrez := free_block ((HB2.block (w.heap.size + 1) q1).trans F1.out) 0
          go_wp2
          refine bodyPost_ret (v := .tuple #[.agg #[.slice none 0 0], .bool false]) (by simp [results, Try.results25, go_sem, hres]) rfl (.inl ⟨by rw [HG.out]; exact hn3, rfl, HBa.setCell (by simp) _⟩)
        · have hres := Lib.hid ((HB2.block (w.heap.size + 1) q1).trans F1.out)
          go_wp2_with fail
          go_loopg [22, 23] T.size (fun gg s22 s23 wr => ∃ (f : Int) (kk : Nat), kk ≤ T.size ∧ T.size - kk ≤ gg ∧ s23 = .int .i64 kk ∧ 1 ≤ f ∧ f ≤ n - 2 ∧ wr.ownsRow wa.heap.size 73 5 s22 (splitRow k 1 f fresh 0 (nl.take kk)).length ((splitRow k 1 f fresh 0 (nl.take kk)).flatMap Nd.cells) ∧ Aside (Below wa.heap.size wa wr))
          case atStart => exact ⟨1, 0, Nat.zero_le _, by omega, rfl, by omega, by omega, ⟨rfl, .inl ⟨rfl, rfl⟩⟩, Below.refl _ _⟩
          case round =>
            obtain ⟨f, kk, hkk, hg, rfl, hff1, hff2, hown, BW⟩ := hrel
            have cb := (BW.out.cell (p := ⟨w.heap.size, 0, none⟩) (by show w.heap.size < _; omega)).trans c0a
            have HBr : Below w.heap.size w wr := HBa.trans (BW.out.mono HBa.size)
            have hsr := BW.out.size
            have hcnt : (splitRow k 1 f fresh 0 (nl.take kk)).length ≤ 189 := Nat.le_trans (splitRow_length _ _ _ _ _ _) (by rw [List.length_take]; omega)
            have HO := Lib.hid hown
            clear hown
            by_cases hlt : kk < T.size
            · have hltz : (kk : Int) < (T.size : Int) := by omega
              have i0 : (0 : Int) ≤ (kk : Int) := by omega
              obtain ⟨p0, p1, p2, p3, p4⟩ := HN.out kk (by rw [HNL]; exact hlt)
              rw [Nat.zero_add] at p0 p1 p2 p3 p4
              have hsucc := Lib.hid (splitRow_succ k 1 f fresh nl kk (by rw [HNL]; exact hlt))
              by_cases hkq : kk = k
              · subst hkq
                rw [PK.out] at p0 p1 p2 p3 p4
                simp only at p0 p1 p2 p3 p4
                have K6 := Lib.hid (keep6 (B := wa.heap.size) (w0 := wa) (p1 := ⟨w.heap.size, 0, none⟩) c0a (by show w.heap.size < _; omega) ((HBa.cell (p := ⟨b, off + kk * 5, none⟩) hb).trans p0) (Nat.lt_of_lt_of_le hb HBa.size) ((HBa.cell (p := ⟨b, off + kk * 5 + 1, none⟩) hb).trans p1) (Nat.lt_of_lt_of_le hb HBa.size) ((HBa.cell (p := ⟨b, off + kk * 5 + 2, none⟩) hb).trans p2) (Nat.lt_of_lt_of_le hb HBa.size) ((HBa.cell (p := ⟨b, off + kk * 5 + 3, none⟩) hb).trans p3) (Nat.lt_of_lt_of_le hb HBa.size) ((HBa.cell (p := ⟨b, off + kk * 5 + 4, none⟩) hb).trans p4) (Nat.lt_of_lt_of_le hb HBa.size))
                have BWp := BW.out
                have hw1 : IntKind.i64.wrap (n - 1) = n - 1 := IntWalk.i64_in _ (by omega)
                have hw2 : IntKind.i64.wrap (n - 2) = n - 2 := IntWalk.i64_in _ (by omega)
                have hw3 : IntKind.i64.wrap ((kk : Int) + 1) = (kk : Int) + 1 := IntWalk.i64_in _ (by omega)
                have hw4 : IntKind.i64.wrap ((kk : Int) + 2) = (kk : Int) + 2 := IntWalk.i64_in _ (by omega)
                have hPt := Lib.hid (fun w' => Try.rpart_ok (n - 1) r w' (by omega) (by omega))
                clear p0 p1 p2 p3 p4
                go_wp2_with fail
                go_region_held3 (fun w' => Below wa.heap.size wa w' ∧ w'.cell? ⟨w.heap.size, 0, none⟩ = some (.slice (some ⟨b, off, none⟩) T.size c) ∧ w'.cell? ⟨b, off + kk * 5, none⟩ = some (.int .i64 p) ∧ w'.cell? ⟨b, off + kk * 5 + 1, none⟩ = some (.int .i64 0) ∧ w'.cell? ⟨b, off + kk * 5 + 2, none⟩ = some (.int .i64 0) ∧ w'.cell? ⟨b, off + kk * 5 + 3, none⟩ = some (.int .i64 0) ∧ w'.cell? ⟨b, off + kk * 5 + 4, none⟩ = some (.int .i64 0))
                  ((refine K6.out _ ?_; repeat (first | with_reducible assumption | with_reducible exact Below.refl _ _ | with_reducible refine Below.drew ?_ | (with_reducible refine Below.alloc ?_ ?_ _; rotate_left; (first | omega | (simp <;> omega))))))
                  (first
                    | ((go_at_call 45; refine (hPt.out _).mono ?_; rintro e w2 ⟨m, hm, rfl, hb2⟩
                        have hB2 : Below wa.heap.size wa w2 := BWp.drew.trans (hb2.mono hsr)
                        have hs2 := hB2.size
                        have HO2 := Lib.hid (own_below (own_below HO.out ((Below.refl wr.heap.size wr).drew)) hb2)))
                    | ((go_at_call 44; refine (Try.rheld_ok _ _ _ _).mono ?_; rintro e w' ⟨rfl, rfl⟩; have tH : True := trivial))
                    | ((have tV := tH
                        have hown2 := own_below HO2.out ((Below.refl w2.heap.size w2).alloc (Nat.le_refl _) (.cells #[.int .i64 0, .int .i64 1, .int .i64 (held m 1 (n - 2)), .int .i64 ((kk : Int) + 1), .int .i64 ((kk : Int) + 2), .int .i64 p, .int .i64 0, .int .i64 0, .int .i64 0, .int .i64 0, .int .i64 fresh, .int .i64 0, .int .i64 0, .int .i64 0, .int .i64 0] 73))
                        obtain ⟨v', w4, hrun, hown', hgrow, _⟩ := app_run (P := Try.prog) (w2.alloc (.cells #[.int .i64 0, .int .i64 1, .int .i64 (held m 1 (n - 2)), .int .i64 ((kk : Int) + 1), .int .i64 ((kk : Int) + 2), .int .i64 p, .int .i64 0, .int .i64 0, .int .i64 0, .int .i64 0, .int .i64 fresh, .int .i64 0, .int .i64 0, .int .i64 0, .int .i64 0] 73)) wa.heap.size 24 24 73 i0' _ 5 40 Try.underlying24 hi0 hz0 hz1 hz2 rfl (by decide) _ _ _ hown2 (.slice (some ⟨w2.heap.size, 0, none⟩) 3 3) 3 _
                          (Rd.of_block (heap_alloc_new w2 _) rfl) (fun u hu => by simp only [List.mem_cons, List.not_mem_nil, or_false] at hu; repeat (first | (rcases hu with hu | hu; (subst hu; rfl)) | (subst hu; rfl))) (by simp only [maxLen]; omega) (by omega) (by simp; omega)
                        refine step_append_run _ (by rfl) (.tmp 107) (.tmp 128) 24 (by rfl) _ _ (by rfl) (by rfl) v' w4 hrun ?_
                        have hlo := hown2.lt
                        have hB4 : Below wa.heap.size wa w4 := (hB2.alloc hs2 _).grown hgrow (by simp; omega) (fun i e => (hlo i e).1)
                        have HO4 := Lib.hid hown'
                        clear hrun hown' hgrow hlo hown2)))
                go_wp2
                go_roundg (T.size - (kk + 1))
                case measure => omega
                case rel =>
                  have hh := held_in (n := m) (lo := 1) (hi := n - 2) (by omega)
                  refine ⟨held m 1 (n - 2), kk + 1, by omega, by omega, by go_num, hh.1, hh.2, ?_, hB4⟩
                  have := HO4.out
                  rw [splitRow_free kk 1 f (held m 1 (n - 2)) fresh 0 (nl.take kk) (by rw [List.length_take]; omega)] at this
                  rw [splitRow_succ kk 1 (held m 1 (n - 2)) fresh nl kk (by rw [HNL]; exact hlt), if_pos rfl, PK.out]
                  simpa [Nd.cells, List.flatMap_append] using this
              · have hkq2 : ((kk : Int) == (k : Int)) = false := by simp; omega
                have hkq3 : ¬ (kk : Int) = (k : Int) := by omega
                have hbnd := hnb.out kk hlt
                have d0 := (HBr.cell (p := ⟨b, off + kk * 5, none⟩) hb).trans p0
                have d1 := (HBr.cell (p := ⟨b, off + kk * 5 + 1, none⟩) hb).trans p1
                have d2 := (HBr.cell (p := ⟨b, off + kk * 5 + 2, none⟩) hb).trans p2
                have d3 := (HBr.cell (p := ⟨b, off + kk * 5 + 3, none⟩) hb).trans p3
                have d4 := (HBr.cell (p := ⟨b, off + kk * 5 + 4, none⟩) hb).trans p4
                clear p0 p1 p2 p3 p4
                have hmv := Lib.hid (Try.moved_ok nl[kk]! k wr (by omega) (by omega) (by omega) (by omega) (by omega))
                generalize nl[kk]! = xn at d0 d1 d2 d3 d4 hmv hsucc
                generalize hyn : xn.moved k 2 = yn at hmv hsucc
                clear hyn hbnd
                obtain ⟨x0, x1, x2, x3, x4⟩ := xn
                simp only at d0 d1 d2 d3 d4 hmv
                go_wp2_with fail
                go_at_call 46
                refine (hmv.out).mono ?_
                rintro e w2 ⟨rfl, hb2⟩
                have hB2 : Below wa.heap.size wa w2 := BW.out.trans (hb2.mono hsr)
                have hs2 := hB2.size
                have HO2 := own_below HO.out hb2
                have hown2 := own_below HO2 ((Below.refl w2.heap.size w2).alloc (Nat.le_refl _) (.cells #[.int .i64 yn.p, .int .i64 yn.d, .int .i64 yn.f, .int .i64 yn.a, .int .i64 yn.b] 73))
                obtain ⟨v', w4, hrun, hown', hgrow, _⟩ := app_run (P := Try.prog) (w2.alloc (.cells #[.int .i64 yn.p, .int .i64 yn.d, .int .i64 yn.f, .int .i64 yn.a, .int .i64 yn.b] 73)) wa.heap.size 24 24 73 i0' _ 5 40 Try.underlying24 hi0 hz0 hz1 hz2 rfl (by decide) _ _ _ hown2 (.slice (some ⟨w2.heap.size, 0, none⟩) 1 1) 1 yn.cells
                  (Rd.of_block (cs := #[.int .i64 yn.p, .int .i64 yn.d, .int .i64 yn.f, .int .i64 yn.a, .int .i64 yn.b]) (heap_alloc_new w2 _) rfl) (fun u hu => by simp [Nd.cells] at hu; rcases hu with rfl | rfl | rfl | rfl | rfl <;> rfl) (by simp only [maxLen]; omega) (by omega) (by simp; omega)
                have hlo := hown2.lt
                have G := Lib.hid ((hB2.alloc hs2 _).grown hgrow (by simp; omega) (fun i e => (hlo i e).1))
                have O := Lib.hid hown'
                have hrun := Lib.hid hrun
                clear hown2 hown' hgrow hlo HO2
                go_wp2_with (at_builtin; refine Lib.wpList_append_run _ rfl _ _ _ _ rfl _ _ (by rfl) (by rfl) _ _ hrun.out ?_)
                go_roundg (T.size - (kk + 1))
                case measure => omega
                case rel =>
                  refine ⟨f, kk + 1, by omega, by omega, by go_num, hff1, hff2, ?_, G.out⟩
                  rw [hsucc.out, if_neg hkq]
                  simpa [List.flatMap_append] using O.out
            · have hltz : ¬ (kk : Int) < (T.size : Int) := by omega
              have hkT : kk = T.size := by omega
              have hO := HO.out
              rw [hkT, ← HNL, List.take_length, hsp.out f, Tr.nodes_length] at hO
              obtain ⟨g, cg, rfl, hg1, hg2⟩ := hO.form (Tr.size_pos _)
              have rc := cell_block ((BW.out.block (w.heap.size + 1) (by omega)).trans hres.out) 0
              have rz := free_block ((BW.out.block (w.heap.size + 1) (by omega)).trans hres.out) 0
              have OO := Lib.hid hO
              clear hO
              go_wp2
              refine bodyPost_ret (v := .tuple #[.agg #[.slice (some ⟨g, 0, none⟩) (T.put p fresh 1 f).size cg], .bool true]) (by simp [results, Try.results25, go_sem, rc]) rfl (.inr ⟨by rw [HG.out]; omega, f, hff1, by rw [HG.out]; exact hff2, g, 0, cg, rfl, Nat.le_trans HBa.size hg1, ?_, HBr.setCell (by simp) _⟩)
              refine nodes_set (NodesAt.of (by rw [Tr.nodes_length]; exact Rd.own OO.out) (by rw [Tr.nodes_length]; exact Tr.size_pos _)) (fun b' o' c' e => ?_) _ _
              injection e with e1 e2 e3; injection e1 with e1; injection e1 with e1
              rw [← e1]; omega
  · have hn : 1 ≤ lng l p 2 ∧ lng l p 2 ≤ 1000 := by
      obtain ⟨j, hj, e⟩ := EX.out
      rw [lng_at (d := 2) hj (fun i hi hij h => by
        have := List.pairwise_iff_getElem.1 ND.out i j (by simpa using hi) (by simpa using hj) hij
        simp only [List.getElem_map] at this
        exact this (h.trans e.symm)) e]
      have := BD.out j hj
      simp; omega
    go_wp2_with fail
    go_loop [20, 21] (fun s20 s21 => ∃ kk : Nat, kk ≤ l.length ∧ s21 = .int .i64 kk ∧ s20 = .int .i64 (lng (l.take kk) p 2)) (fun _ s21 => l.length - (intOf s21).toNat)
    case atStart => exact ⟨0, Nat.zero_le _, rfl, rfl⟩
    case round =>
      obtain ⟨kk, hkk, rfl, rfl⟩ := hrel
      by_cases hlt : kk < l.length
      · have hltz : (kk : Int) < (l.length : Int) := by omega
        obtain ⟨s0, s1, s2, s3, s4⟩ := SC.out kk hlt
        have t0 := (HB2.cell (p := ⟨sb, so + kk * 5, none⟩) hsb).trans s0
        have t3 := (HB2.cell (p := ⟨sb, so + kk * 5 + 3, none⟩) hsb).trans s3
        have t4 := (HB2.cell (p := ⟨sb, so + kk * 5 + 4, none⟩) hsb).trans s4
        clear s0 s1 s2 s3 s4
        by_cases hq : l[kk].pane = p
        · have hh := Lib.hid (lng_hit (d := 2) ND.out kk hlt hq)
          rw [hq] at t0
          generalize l[kk] = s at t0 t3 t4 hh
          clear hq
          go_wp2
          go_round
          case rel => exact ⟨kk + 1, by omega, by go_num, by rw [hh.out]; rfl⟩
          case measure => simp [intOf]; omega
        · have hh := Lib.hid (lng_miss (d := 2) kk hlt hq)
          have hq2 : (l[kk].pane == p) = false := by simpa using hq
          have hq3 : decide (l[kk].pane = p) = false := by simpa using hq
          generalize l[kk] = s at t0 t3 t4 hh hq hq2 hq3
          go_wp2
          go_round
          case rel => exact ⟨kk + 1, by omega, by go_num, by rw [hh.out]⟩
          case measure => simp [intOf]; omega
      · have hltz : ¬ (kk : Int) < (l.length : Int) := by omega
        have hkl : kk = l.length := by omega
        subst hkl
        rw [List.take_length]
        obtain ⟨hn1, hn2⟩ := hn
        clear hltz hlt hkk
        generalize hgn : lng l p 2 = n at hn1 hn2 ⊢
        have HG := Lib.hid hgn
        clear hgn
        by_cases hn3 : n < 3
        · have hres := cell_block ((HB2.block (w.heap.size + 1) q1).trans F1.out) 0
          have hrez := free_block ((HB2.block (w.heap.size + 1) q1).trans F1.out) 0
          go_wp2
          refine bodyPost_ret (v := .tuple #[.agg #[.slice none 0 0], .bool false]) (by simp [results, Try.results25, go_sem, hres]) rfl (.inl ⟨by rw [HG.out]; exact hn3, rfl, HBa.setCell (by simp) _⟩)
        · have hres := Lib.hid ((HB2.block (w.heap.size + 1) q1).trans F1.out)
          go_wp2_with fail
          go_loopg [22, 23] T.size (fun gg s22 s23 wr => ∃ (f : Int) (kk : Nat), kk ≤ T.size ∧ T.size - kk ≤ gg ∧ s23 = .int .i64 kk ∧ 1 ≤ f ∧ f ≤ n - 2 ∧ wr.ownsRow wa.heap.size 73 5 s22 (splitRow k 2 f fresh 0 (nl.take kk)).length ((splitRow k 2 f fresh 0 (nl.take kk)).flatMap Nd.cells) ∧ Aside (Below wa.heap.size wa wr))
          case atStart => exact ⟨1, 0, Nat.zero_le _, by omega, rfl, by omega, by omega, ⟨rfl, .inl ⟨rfl, rfl⟩⟩, Below.refl _ _⟩
          case round =>
            obtain ⟨f, kk, hkk, hg, rfl, hff1, hff2, hown, BW⟩ := hrel
            have cb := (BW.out.cell (p := ⟨w.heap.size, 0, none⟩) (by show w.heap.size < _; omega)).trans c0a
            have HBr : Below w.heap.size w wr := HBa.trans (BW.out.mono HBa.size)
            have hsr := BW.out.size
            have hcnt : (splitRow k 2 f fresh 0 (nl.take kk)).length ≤ 189 := Nat.le_trans (splitRow_length _ _ _ _ _ _) (by rw [List.length_take]; omega)
            have HO := Lib.hid hown
            clear hown
            by_cases hlt : kk < T.size
            · have hltz : (kk : Int) < (T.size : Int) := by omega
              have i0 : (0 : Int) ≤ (kk : Int) := by omega
              obtain ⟨p0, p1, p2, p3, p4⟩ := HN.out kk (by rw [HNL]; exact hlt)
              rw [Nat.zero_add] at p0 p1 p2 p3 p4
              have hsucc := Lib.hid (splitRow_succ k 2 f fresh nl kk (by rw [HNL]; exact hlt))
              by_cases hkq : kk = k
              · subst hkq
                rw [PK.out] at p0 p1 p2 p3 p4
                simp only at p0 p1 p2 p3 p4
                have K6 := Lib.hid (keep6 (B := wa.heap.size) (w0 := wa) (p1 := ⟨w.heap.size, 0, none⟩) c0a (by show w.heap.size < _; omega) ((HBa.cell (p := ⟨b, off + kk * 5, none⟩) hb).trans p0) (Nat.lt_of_lt_of_le hb HBa.size) ((HBa.cell (p := ⟨b, off + kk * 5 + 1, none⟩) hb).trans p1) (Nat.lt_of_lt_of_le hb HBa.size) ((HBa.cell (p := ⟨b, off + kk * 5 + 2, none⟩) hb).trans p2) (Nat.lt_of_lt_of_le hb HBa.size) ((HBa.cell (p := ⟨b, off + kk * 5 + 3, none⟩) hb).trans p3) (Nat.lt_of_lt_of_le hb HBa.size) ((HBa.cell (p := ⟨b, off + kk * 5 + 4, none⟩) hb).trans p4) (Nat.lt_of_lt_of_le hb HBa.size))
                have BWp := BW.out
                have hw1 : IntKind.i64.wrap (n - 1) = n - 1 := IntWalk.i64_in _ (by omega)
                have hw2 : IntKind.i64.wrap (n - 2) = n - 2 := IntWalk.i64_in _ (by omega)
                have hw3 : IntKind.i64.wrap ((kk : Int) + 1) = (kk : Int) + 1 := IntWalk.i64_in _ (by omega)
                have hw4 : IntKind.i64.wrap ((kk : Int) + 2) = (kk : Int) + 2 := IntWalk.i64_in _ (by omega)
                have hPt := Lib.hid (fun w' => Try.rpart_ok (n - 1) r w' (by omega) (by omega))
                clear p0 p1 p2 p3 p4
                go_wp2_with fail
                go_region_held3 (fun w' => Below wa.heap.size wa w' ∧ w'.cell? ⟨w.heap.size, 0, none⟩ = some (.slice (some ⟨b, off, none⟩) T.size c) ∧ w'.cell? ⟨b, off + kk * 5, none⟩ = some (.int .i64 p) ∧ w'.cell? ⟨b, off + kk * 5 + 1, none⟩ = some (.int .i64 0) ∧ w'.cell? ⟨b, off + kk * 5 + 2, none⟩ = some (.int .i64 0) ∧ w'.cell? ⟨b, off + kk * 5 + 3, none⟩ = some (.int .i64 0) ∧ w'.cell? ⟨b, off + kk * 5 + 4, none⟩ = some (.int .i64 0))
                  ((refine K6.out _ ?_; repeat (first | with_reducible assumption | with_reducible exact Below.refl _ _ | with_reducible refine Below.drew ?_ | (with_reducible refine Below.alloc ?_ ?_ _; rotate_left; (first | omega | (simp <;> omega))))))
                  (first
                    | ((go_at_call 45; refine (hPt.out _).mono ?_; rintro e w2 ⟨m, hm, rfl, hb2⟩
                        have hB2 : Below wa.heap.size wa w2 := BWp.drew.trans (hb2.mono hsr)
                        have hs2 := hB2.size
                        have HO2 := Lib.hid (own_below (own_below HO.out ((Below.refl wr.heap.size wr).drew)) hb2)))
                    | ((go_at_call 44; refine (Try.rheld_ok _ _ _ _).mono ?_; rintro e w' ⟨rfl, rfl⟩; have tH : True := trivial))
                    | ((have tV := tH
                        have hown2 := own_below HO2.out ((Below.refl w2.heap.size w2).alloc (Nat.le_refl _) (.cells #[.int .i64 0, .int .i64 2, .int .i64 (held m 1 (n - 2)), .int .i64 ((kk : Int) + 1), .int .i64 ((kk : Int) + 2), .int .i64 p, .int .i64 0, .int .i64 0, .int .i64 0, .int .i64 0, .int .i64 fresh, .int .i64 0, .int .i64 0, .int .i64 0, .int .i64 0] 73))
                        obtain ⟨v', w4, hrun, hown', hgrow, _⟩ := app_run (P := Try.prog) (w2.alloc (.cells #[.int .i64 0, .int .i64 2, .int .i64 (held m 1 (n - 2)), .int .i64 ((kk : Int) + 1), .int .i64 ((kk : Int) + 2), .int .i64 p, .int .i64 0, .int .i64 0, .int .i64 0, .int .i64 0, .int .i64 fresh, .int .i64 0, .int .i64 0, .int .i64 0, .int .i64 0] 73)) wa.heap.size 24 24 73 i0' _ 5 40 Try.underlying24 hi0 hz0 hz1 hz2 rfl (by decide) _ _ _ hown2 (.slice (some ⟨w2.heap.size, 0, none⟩) 3 3) 3 _
                          (Rd.of_block (heap_alloc_new w2 _) rfl) (fun u hu => by simp only [List.mem_cons, List.not_mem_nil, or_false] at hu; repeat (first | (rcases hu with hu | hu; (subst hu; rfl)) | (subst hu; rfl))) (by simp only [maxLen]; omega) (by omega) (by simp; omega)
                        refine step_append_run _ (by rfl) (.tmp 107) (.tmp 128) 24 (by rfl) _ _ (by rfl) (by rfl) v' w4 hrun ?_
                        have hlo := hown2.lt
                        have hB4 : Below wa.heap.size wa w4 := (hB2.alloc hs2 _).grown hgrow (by simp; omega) (fun i e => (hlo i e).1)
                        have HO4 := Lib.hid hown'
                        clear hrun hown' hgrow hlo hown2)))
                go_wp2
                go_roundg (T.size - (kk + 1))
                case measure => omega
                case rel =>
                  have hh := held_in (n := m) (lo := 1) (hi := n - 2) (by omega)
                  refine ⟨held m 1 (n - 2), kk + 1, by omega, by omega, by go_num, hh.1, hh.2, ?_, hB4⟩
                  have := HO4.out
                  rw [splitRow_free kk 2 f (held m 1 (n - 2)) fresh 0 (nl.take kk) (by rw [List.length_take]; omega)] at this
                  rw [splitRow_succ kk 2 (held m 1 (n - 2)) fresh nl kk (by rw [HNL]; exact hlt), if_pos rfl, PK.out]
                  simpa [Nd.cells, List.flatMap_append] using this
              · have hkq2 : ((kk : Int) == (k : Int)) = false := by simp; omega
                have hkq3 : ¬ (kk : Int) = (k : Int) := by omega
                have hbnd := hnb.out kk hlt
                have d0 := (HBr.cell (p := ⟨b, off + kk * 5, none⟩) hb).trans p0
                have d1 := (HBr.cell (p := ⟨b, off + kk * 5 + 1, none⟩) hb).trans p1
                have d2 := (HBr.cell (p := ⟨b, off + kk * 5 + 2, none⟩) hb).trans p2
                have d3 := (HBr.cell (p := ⟨b, off + kk * 5 + 3, none⟩) hb).trans p3
                have d4 := (HBr.cell (p := ⟨b, off + kk * 5 + 4, none⟩) hb).trans p4
                clear p0 p1 p2 p3 p4
                have hmv := Lib.hid (Try.moved_ok nl[kk]! k wr (by omega) (by omega) (by omega) (by omega) (by omega))
                generalize nl[kk]! = xn at d0 d1 d2 d3 d4 hmv hsucc
                generalize hyn : xn.moved k 2 = yn at hmv hsucc
                clear hyn hbnd
                obtain ⟨x0, x1, x2, x3, x4⟩ := xn
                simp only at d0 d1 d2 d3 d4 hmv
                go_wp2_with fail
                go_at_call 46
                refine (hmv.out).mono ?_
                rintro e w2 ⟨rfl, hb2⟩
                have hB2 : Below wa.heap.size wa w2 := BW.out.trans (hb2.mono hsr)
                have hs2 := hB2.size
                have HO2 := own_below HO.out hb2
                have hown2 := own_below HO2 ((Below.refl w2.heap.size w2).alloc (Nat.le_refl _) (.cells #[.int .i64 yn.p, .int .i64 yn.d, .int .i64 yn.f, .int .i64 yn.a, .int .i64 yn.b] 73))
                obtain ⟨v', w4, hrun, hown', hgrow, _⟩ := app_run (P := Try.prog) (w2.alloc (.cells #[.int .i64 yn.p, .int .i64 yn.d, .int .i64 yn.f, .int .i64 yn.a, .int .i64 yn.b] 73)) wa.heap.size 24 24 73 i0' _ 5 40 Try.underlying24 hi0 hz0 hz1 hz2 rfl (by decide) _ _ _ hown2 (.slice (some ⟨w2.heap.size, 0, none⟩) 1 1) 1 yn.cells
                  (Rd.of_block (cs := #[.int .i64 yn.p, .int .i64 yn.d, .int .i64 yn.f, .int .i64 yn.a, .int .i64 yn.b]) (heap_alloc_new w2 _) rfl) (fun u hu => by simp [Nd.cells] at hu; rcases hu with rfl | rfl | rfl | rfl | rfl <;> rfl) (by simp only [maxLen]; omega) (by omega) (by simp; omega)
                have hlo := hown2.lt
                have G := Lib.hid ((hB2.alloc hs2 _).grown hgrow (by simp; omega) (fun i e => (hlo i e).1))
                have O := Lib.hid hown'
                have hrun := Lib.hid hrun
                clear hown2 hown' hgrow hlo HO2
                go_wp2_with (at_builtin; refine Lib.wpList_append_run _ rfl _ _ _ _ rfl _ _ (by rfl) (by rfl) _ _ hrun.out ?_)
                go_roundg (T.size - (kk + 1))
                case measure => omega
                case rel =>
                  refine ⟨f, kk + 1, by omega, by omega, by go_num, hff1, hff2, ?_, G.out⟩
                  rw [hsucc.out, if_neg hkq]
                  simpa [List.flatMap_append] using O.out
            · have hltz : ¬ (kk : Int) < (T.size : Int) := by omega
              have hkT : kk = T.size := by omega
              have hO := HO.out
              rw [hkT, ← HNL, List.take_length, hsp.out f, Tr.nodes_length] at hO
              obtain ⟨g, cg, rfl, hg1, hg2⟩ := hO.form (Tr.size_pos _)
              have rc := cell_block ((BW.out.block (w.heap.size + 1) (by omega)).trans hres.out) 0
              have rz := free_block ((BW.out.block (w.heap.size + 1) (by omega)).trans hres.out) 0
              have OO := Lib.hid hO
              clear hO
              go_wp2
              refine bodyPost_ret (v := .tuple #[.agg #[.slice (some ⟨g, 0, none⟩) (T.put p fresh 2 f).size cg], .bool true]) (by simp [results, Try.results25, go_sem, rc]) rfl (.inr ⟨by rw [HG.out]; omega, f, hff1, by rw [HG.out]; exact hff2, g, 0, cg, rfl, Nat.le_trans HBa.size hg1, ?_, HBr.setCell (by simp) _⟩)
              refine nodes_set (NodesAt.of (by rw [Tr.nodes_length]; exact Rd.own OO.out) (by rw [Tr.nodes_length]; exact Tr.size_pos _)) (fun b' o' c' e => ?_) _ _
              injection e with e1 e2 e3; injection e1 with e1; injection e1 with e1
              rw [← e1]; omega
end Go.Proofs
