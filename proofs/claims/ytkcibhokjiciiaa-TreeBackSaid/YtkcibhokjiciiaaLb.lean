/-
  TreeBack. TreeBack: for every input of the types of its arguments the law returns true; the arguments read behind the call as they read before. No condition.
-/
import Derived.Test.YtkcibhokjiciiaaBm
import Derived.Test.YtkcibhokjiciiaaBj
import Derived.Test.YtkcibhokjiciiaaBc
import Derived.Test.YtkcibhokjiciiaaRows
import Derived.Test.YtkcibhokjiciiaaBk
import Derived.Test.YtkcibhokjiciiaaBl
import Derived.WalkKit
import Derived.Below
import Derived.ProofKit
import Derived.OpenShut
namespace Go.Proofs
open Go.RowKit Go.Lib Go.Sort Tp
attribute [local go_sem ↓] Go.wp_at_zero Go.wp_at_succ

/-- What a split answers, told or not. -/
def BackU (T : Tr) (p fresh d n : Int) (w : World) (e : Ending) (w' : World) : Prop := ∃ (o : Option Addr) (l c : Nat) (okb : Bool), e = .returned (.tuple #[.agg #[.slice o l c], .bool okb]) ∧ Below w.heap.size w w' ∧
  Aside ((n < 3 ∧ okb = false ∧ l = 0) ∨ (3 ≤ n ∧ okb = true ∧ ∃ f, 1 ≤ f ∧ f ≤ n - 2 ∧ l = (T.put p fresh d f).size ∧ NodesAt w' (.slice o l c) ((T.put p fresh d f).nodes 0)))
theorem backU {T : Tr} {p fresh d n : Int} {w : World} {e : Ending} {w' : World} (h : SplitPost T p fresh d n w e w') : BackU T p fresh d n w e w' := by
  rcases h with ⟨hn, rfl, hb⟩ | ⟨hn, f, h1, h2, b', o', c', rfl, hl, hN, hb⟩
  · exact ⟨none, 0, 0, false, rfl, hb, .inl ⟨hn, rfl, rfl⟩⟩
  · exact ⟨some ⟨b', o', none⟩, _, c', true, rfl, hb, .inr ⟨hn, rfl, f, h1, h2, rfl, hN⟩⟩

set_option maxRecDepth 100000 in
set_option maxHeartbeats 4000000 in
theorem Try.back_ok (hA : Try.Awake) (xs : List Int) (v : Value) (a1 a2 r : Int) (w : World) (hx : xs.length ≤ maxLen) (hr0 : 0 ≤ r) (hv : IntsIn w v xs) :
    Calls Try.prog 3 #[v, .int .i64 a1, .int .i64 a2, .int .u64 r] w fun e w' => e = .returned (.bool true) ∧ Below w.heap.size w w' := by
  have hTree := Lib.hid (fun w' h => Try.tree_ok xs v w' hx h)
  have hA := Lib.hid hA
  have HV := Lib.hid hv
  obtain ⟨LA, lc, rfl, _⟩ := hv
  have h255 := i64_and255
  have h1 := i64_and1
  obtain ⟨R, F, hq, hF⟩ := quo_all Try.prog 31
  have HF := Lib.hid hF
  clear hF
  go_enter Try.func3, Try.ntmps3
  go_wp2_with fail
  go_at_call 8
  refine (hTree.out _ HV.out).mono ?_
  rintro e w1 ⟨T, b, off, c, GR, rfl, hN, hb1⟩
  have GR := Lib.hid GR
  have N1 := Lib.hid hN
  have WT := Lib.hid GR.out.whole
  have BW1 := Lib.hid hb1
  clear hN hb1
  -- panes
  go_wp2_with fail
  go_at_call 9
  refine (Try.tpanes_ok T WT.out _ _ (N1.out.below (by (repeat (first | with_reducible assumption | with_reducible exact Below.refl _ _ | with_reducible refine Below.drew ?_ | with_reducible refine below_drewN ?_ _ | (with_reducible refine Below.setCell ?_ ?_ _; rotate_left; (first | omega | (simp <;> omega))) | (with_reducible refine Below.alloc ?_ ?_ _; rotate_left; (first | omega | (simp <;> omega)))))))).mono ?_
  rintro e w2 ⟨vp, rfl, hvp, hb2⟩
  obtain ⟨B12, F9, s12⟩ := step_alloc hb2
  have N9 := Lib.hid (N1.out.below B12)
  have G9 := Lib.hid F9
  have BW2 := Lib.hid (BW1.out.trans (B12.mono BW1.out.size))
  obtain ⟨_, _, _, _, m5, m6, m7, m8⟩ := GR.out.bounds
  obtain ⟨pb, po, pc, rfl, hpb, hpc⟩ := hvp.at m5
  have HPC := Lib.hid hpc
  obtain ⟨k1, k2, k3, k4⟩ := pick_at T.panes a1 m5
  obtain ⟨pa, M1', p1⟩ := pick_cell hpc a1 m5
  have M1 := Lib.hid M1'
  have c9 := cell_block G9.out 0
  clear hb2 N1 BW1 F9 B12 hvp hpc M1' k3
  have hfr : (99 : Int) ∉ T.panes := GR.out.apart (by omega)
  have hd : a2 % 2 + 1 = 1 ∨ a2 % 2 + 1 = 2 := by omega
  have hSp := Lib.hid (fun d (hd : d = 1 ∨ d = 2) bb w' h => (Try.tsplit_ok T WT.out (.slice (some ⟨b, off, none⟩) T.size c) 30 20 pa 99 d bb w' GR.out.fits (by omega) (by omega) M1.out hfr (by omega) (by have := GR.out.size; omega) hd h).mono fun e w'' h => backU h)
  have hPW := Lib.hid (fun d f (hd : d = 1 ∨ d = 2) (h1 : 1 ≤ f) (h2 : f ≤ lng (T.spots (whole 30 20)) pa d - 2) => put_whole (fresh := 99) WT.out GR.out.fits (by omega) (by omega) M1.out hfr ⟨by omega, by omega⟩ hd h1 h2 (by have := GR.out.size; omega))
  have hfr := Lib.hid hfr
  obtain ⟨L, hL⟩ : ∃ L, T.panes.length = L := ⟨_, rfl⟩
  rw [hL] at k1 k2 k4 p1 m5 m6 ⊢
  have LP := Lib.hid hL
  clear hL
  have hl0 : ((L : Int) == 0) = false := by rw [beq_eq_false_iff_ne]; omega
  have hl1 : ¬ (L : Int) = 0 := by omega
  have hl2 : ¬ L = 0 := by omega
  go_wp2_with fail
  go_at_call 10
  refine (hSp.out _ hd _ _ (N9.out.below (HF.out _ _ _))).mono ?_
  rintro e w3 ⟨o3, l3, c3, okb, rfl, hb3, hU⟩
  have B23 : Below w2.heap.size w2 w3 := (HF.out _ _ _).trans (hb3.mono (HF.out _ _ _).size)
  have s23 := B23.size
  have N9 := Lib.hid (N9.out.below B23)
  have G9 := Lib.hid ((B23.block _ s12).trans G9.out)
  have BW3 := Lib.hid (BW2.out.trans (B23.mono BW2.out.size))
  have B23 := Lib.hid B23
  have s13 : w1.heap.size < w3.heap.size := by omega
  clear c9 hb3 hSp k1 k2 k4 p1 hl0 hl1 hl2 BW2 hq h255 h1
  have c9 := cell_block G9.out 0
  generalize a2 % 2 + 1 = d at *
  have hd := Lib.hid hd
  -- places
  go_wp2_with fail
  go_at_call 11
  refine (Try.rplaces2_ok T WT.out _ 30 20 _ GR.out.fits (by omega) (by omega) (N9.out.below (by (repeat (first | with_reducible assumption | with_reducible exact Below.refl _ _ | with_reducible refine Below.drew ?_ | with_reducible refine below_drewN ?_ _ | (with_reducible refine Below.setCell ?_ ?_ _; rotate_left; (first | omega | (simp <;> omega))) | (with_reducible refine Below.alloc ?_ ?_ _; rotate_left; (first | omega | (simp <;> omega)))))))).mono ?_
  rintro e w4 ⟨vq, uq, rfl, hvq, _, hb4⟩
  obtain ⟨B34, F11, s34⟩ := step_alloc hb4
  have l0 : 0 < (T.spots (whole 30 20)).length ∧ (T.spots (whole 30 20)).length ≤ 63 := by rw [Tr.spots_length]; have := T.panes_length; have := T.size_pos; have := WT.out.size; omega
  have l1 : (T.spots (whole 30 20)).length = T.panes.length := Tr.spots_length _ _
  obtain ⟨qb, qo, qc, rfl, hqb, hqc⟩ := hvq.at l0.1
  have HQ := Lib.hid hqc
  have N9 := Lib.hid (N9.out.below B34)
  have G9 := Lib.hid ((B34.block _ s13).trans G9.out)
  have G11 := Lib.hid F11
  have BW4 := Lib.hid (BW3.out.trans (B34.mono BW3.out.size))
  have B24 := Lib.hid (B23.out.trans (B34.mono s23))
  have hU := Lib.hid (show (lng (T.spots (whole 30 20)) pa d < 3 ∧ okb = false ∧ l3 = 0) ∨ (3 ≤ lng (T.spots (whole 30 20)) pa d ∧ okb = true ∧ ∃ f, 1 ≤ f ∧ f ≤ lng (T.spots (whole 30 20)) pa d - 2 ∧ l3 = (T.put pa 99 d f).size ∧ NodesAt w4 (.slice o3 l3 c3) ((T.put pa 99 d f).nodes 0)) from by
    rcases hU.out with ⟨u1, u2, u3⟩ | ⟨u1, u2, f, u3, u4, u5, u6⟩
    · exact .inl ⟨u1, u2, u3⟩
    · exact .inr ⟨u1, u2, f, u3, u4, u5, u6.below B34⟩)
  have LN := Lib.hid (show (T.spots (whole 30 20)).length = L from by rw [Tr.spots_length]; exact LP.out)
  have ND := Lib.hid (show ((T.spots (whole 30 20)).map (·.pane)).Nodup from by rw [Tr.spots_panes]; exact WT.out.nodup)
  have hln : (T.spots (whole 30 20)).length = L := LN.out
  rw [hln]
  clear hln l0 l1 c9 hb4 B34 F11 BW3 B23 hvq hqc
  generalize T.spots (whole 30 20) = l at *
  have hm : 1 ≤ L := m5
  go_wp2_with fail
  go_loopg [16, 18, 64] L (fun gg s16 s18 s64 wr => ∃ i : Nat, i ≤ L ∧ L - i ≤ gg ∧ s64 = .int .i64 i ∧ s16 = .int .i64 (lng (l.take i) pa d) ∧ Aside (Below w4.heap.size w4 wr))
  case atStart => exact ⟨0, Nat.zero_le _, by omega, rfl, rfl, Below.refl _ _⟩
  case round =>
    obtain ⟨i, hi, hg, rfl, rfl, BW⟩ := hrel
    have BWo := BW.out
    have hsr := BWo.size
    by_cases hlt : i < L
    · have hltz : (i : Int) < (L : Int) := by omega
      have i0 : (0 : Int) ≤ (i : Int) := by omega
      have hR : i < l.length := by have := LN.out; omega
      obtain ⟨p0, p1, p2, p3, p4⟩ := HQ.out i hR
      have bx := fun o => BW.out.cell (p := ⟨qb, o, none⟩) hqb
      have c0 := (bx _).trans p0; have c1 := (bx _).trans p1; have c2 := (bx _).trans p2; have c3 := (bx _).trans p3; have c4 := (bx _).trans p4
      have E1 := Lib.hid (fun h => lng_hit (d := d) ND.out i hR (p := pa) h)
      have E2 := Lib.hid (fun h => lng_miss (d := d) (l := l) i hR (p := pa) h)
      clear p0 p1 p2 p3 p4 bx
      generalize lng (l.take i) pa d = lo at *
      generalize l[i] = x at *
      clear hR
      obtain ⟨xp, x0, x1, x2, x3⟩ := x
      simp only at c0 c1 c2 c3 c4
      by_cases e1 : xp = pa
      · subst e1
        have E1 := E1.out rfl
        rcases hd.out with e2 | e2
        · subst e2
          have E1 := Lib.hid E1
          go_wp2
          go_roundg (L - (i + 1))
          case measure => omega
          case rel => exact ⟨i + 1, by omega, by omega, by go_num, by rw [E1.out]; rfl, show Below _ _ _ from by (repeat (first | with_reducible assumption | with_reducible exact Below.refl _ _ | with_reducible refine Below.drew ?_ | with_reducible refine below_drewN ?_ _ | (with_reducible refine Below.setCell ?_ ?_ _; rotate_left; (first | omega | (simp <;> omega))) | (with_reducible refine Below.alloc ?_ ?_ _; rotate_left; (first | omega | (simp <;> omega)))))⟩
        · subst e2
          have E1 := Lib.hid E1
          go_wp2
          go_roundg (L - (i + 1))
          case measure => omega
          case rel => exact ⟨i + 1, by omega, by omega, by go_num, by rw [E1.out]; rfl, show Below _ _ _ from by (repeat (first | with_reducible assumption | with_reducible exact Below.refl _ _ | with_reducible refine Below.drew ?_ | with_reducible refine below_drewN ?_ _ | (with_reducible refine Below.setCell ?_ ?_ _; rotate_left; (first | omega | (simp <;> omega))) | (with_reducible refine Below.alloc ?_ ?_ _; rotate_left; (first | omega | (simp <;> omega)))))⟩
      · have f1 : (xp == pa) = false := by simpa using e1
        have E2 := Lib.hid (E2.out e1)
        go_wp2
        go_roundg (L - (i + 1))
        case measure => omega
        case rel => exact ⟨i + 1, by omega, by omega, by go_num, by rw [E2.out], show Below _ _ _ from by (repeat (first | with_reducible assumption | with_reducible exact Below.refl _ _ | with_reducible refine Below.drew ?_ | with_reducible refine below_drewN ?_ _ | (with_reducible refine Below.setCell ?_ ?_ _; rotate_left; (first | omega | (simp <;> omega))) | (with_reducible refine Below.alloc ?_ ?_ _; rotate_left; (first | omega | (simp <;> omega)))))⟩
    · have hltz : ¬ (i : Int) < (L : Int) := by omega
      have hR : l.take i = l := List.take_of_length_le (by have := LN.out; omega)
      rw [hR]
      clear hR
      have f9 := (BW.out.block _ (by omega)).trans G9.out
      have f11 := (BW.out.block _ (by omega)).trans G11.out
      rcases hU.out with ⟨u1, u2, u3⟩ | ⟨u1, u2, f, u3, u4, u5, u6⟩
      · subst u2 u3
        have c11 := cell_block f11 0
        have g1 : decide (3 ≤ lng l pa d) = false := by simp; omega
        have BW0 := Lib.hid (BW4.out.trans (BW.out.mono BW4.out.size))
        clear f9 f11
        go_wp2_with ((go_at_call 12; refine (hA.out _).mono ?_; rintro e w7 ⟨rfl, hb7⟩))
        go_ret
        exact ⟨rfl, BW0.out.trans (hb7.mono BW0.out.size)⟩
      · have u4' := u4
        clear u4
        subst u2 u5
        have c11 := cell_block f11 0
        have c9 := cell_block f9 0
        have g1 : decide (3 ≤ lng l pa d) = true := by simp; omega
        obtain ⟨PW, FT⟩ := hPW.out d f hd.out u3 u4'
        have PW := Lib.hid PW
        have FT := Lib.hid FT
        have ew : (T.put pa 99 d f).without 99 = T := Tr.put_without hfr.out
        have hRem := Lib.hid (fun w' h => (show Calls Try.prog 13 #[.agg #[.slice o3 (T.put pa 99 d f).size c3], .int .i64 30, .int .i64 20, .int .i64 99] w' (TreePost T w'.heap.size w') from by
          have := Try.tremove_ok (T.put pa 99 d f) PW.out (.slice o3 (T.put pa 99 d f).size c3) 30 20 99 w' (Tr.put_fresh M1.out) (Tr.put_node M1.out) (by rw [ew]; exact WT.out) (by rw [ew]; exact (Tr.fits_least GR.out.fits).1) (by rw [ew]; exact (Tr.fits_least GR.out.fits).2) (by omega) (by omega) h
          rwa [ew, Tr.fit_same GR.out.fits] at this))
        have hlx : ((T.put pa 99 d f).spots (whole 30 20)).length = L + 1 := by rw [Tr.spots_length, Tr.put_length WT.out.nodup M1.out, LP.out]
        have hlp : (T.put pa 99 d f).panes.length = L + 1 := by rw [Tr.put_length WT.out.nodup M1.out, LP.out]
        have hlx := Lib.hid hlx
        have hlp := Lib.hid hlp
        have HPF := Lib.hid (Tr.put_filter (p := pa) (d := d) (f := f) hfr.out)
        have NU := Lib.hid (u6.below BWo)
        have N9 := Lib.hid (N9.out.below BWo)
        have BWr := Lib.hid (BW4.out.trans (BWo.mono BW4.out.size))
        have B2r := Lib.hid (B24.out.trans (BWo.mono B24.out.size))
        have G9 := Lib.hid f9
        have G11 := Lib.hid f11
        have z9 : w1.heap.size < wr.heap.size := by omega
        have z11 : w3.heap.size < wr.heap.size := by omega
        clear ew u1 u3 u4' u6 f9 f11 BWo BW hPW hU B24 BW4
        generalize T.put pa 99 d f = T2 at *
        go_wp2_with fail
        go_at_call 13
        refine (hRem.out _ NU.out).mono ?_
        rintro e w5 ⟨b5, off5, c5, rfl, hle5, hN5, hb5⟩
        have s5 := hb5.size
        have NU := Lib.hid (NU.out.below hb5)
        have N9 := Lib.hid (N9.out.below hb5)
        have NV := Lib.hid hN5
        have G9 := Lib.hid ((hb5.block _ z9).trans G9.out)
        have G11 := Lib.hid ((hb5.block _ z11).trans G11.out)
        have BW5 := Lib.hid (BWr.out.trans (hb5.mono BWr.out.size))
        have B25 := Lib.hid (B2r.out.trans (hb5.mono B2r.out.size))
        clear c9 c11 hle5 hN5 hb5 BWr B2r g1
        have c11 := cell_block G11.out 0
        have z9 : w1.heap.size < w5.heap.size := by omega
        have z11 : w3.heap.size < w5.heap.size := by omega
        go_wp2_with fail
        go_at_call 14
        refine (Try.tplaces_ok T2 PW.out _ 30 20 _ FT.out (by omega) (by omega) (NU.out.below (by (repeat (first | with_reducible assumption | with_reducible exact Below.refl _ _ | with_reducible refine Below.drew ?_ | with_reducible refine below_drewN ?_ _ | (with_reducible refine Below.setCell ?_ ?_ _; rotate_left; (first | omega | (simp <;> omega))) | (with_reducible refine Below.alloc ?_ ?_ _; rotate_left; (first | omega | (simp <;> omega)))))))).mono ?_
        rintro e w6 ⟨vx, ux, rfl, hvx, _, hb6⟩
        obtain ⟨B56, F19, s56⟩ := step_alloc hb6
        obtain ⟨xb, xo, xc, rfl, _, _⟩ := hvx.at (by have := hlx.out; omega)
        have hl := hlx.out
        rw [hl]
        have NU := Lib.hid (NU.out.below B56)
        have N9 := Lib.hid (N9.out.below B56)
        have NV := Lib.hid (NV.out.below B56)
        have G9 := Lib.hid ((B56.block _ z9).trans G9.out)
        have G11 := Lib.hid ((B56.block _ z11).trans G11.out)
        have BW6 := Lib.hid (BW5.out.trans (B56.mono BW5.out.size))
        have B26 := Lib.hid (B25.out.trans (B56.mono B25.out.size))
        clear c11 hl hvx hb6 B56 BW5 B25
        have c9 := cell_block G9.out 0
        have c11 := cell_block G11.out 0
        have c19 := cell_block F19 0
        have hST := Lib.hid (Try.sametree_ok (T.nodes 0) _ _ w6 (by rw [Tr.nodes_length]; have := WT.out.size; omega) NV.out N9.out)
        have hOK := Lib.hid (fun w' (h : Below w6.heap.size w6 w') => Try.tok_ok T2 PW.out _ w' (NU.out.below h))
        have hPn := Lib.hid (fun w' (h : Below w6.heap.size w6 w') => Try.tpanes_ok T2 PW.out _ w' (NU.out.below h))
        go_wp2_with (first
          | ((go_at_call 15; with_reducible refine (hST.out).mono ?_; rintro e w7 ⟨rfl, hb7⟩; have s67 := hb7.size; have d11 := (hb7.cell (p := ⟨w3.heap.size, 0, none⟩) (by show w3.heap.size < _; omega)).trans c11))
          | ((go_at_call 16; with_reducible refine (hOK.out _ hb7).mono ?_; rintro e w8 ⟨rfl, hb8⟩; have B68 := hb7.trans (hb8.mono hb7.size); have s68 := B68.size; have e11 := (B68.cell (p := ⟨w3.heap.size, 0, none⟩) (by show w3.heap.size < _; omega)).trans c11)))
        go_at_call 9
        refine (hPn.out _ B68).mono ?_
        rintro e w9 ⟨vz, rfl, hvz, hb9⟩
        have hzl := hlp.out
        obtain ⟨zb, zo, zc, rfl, hzb, hzc⟩ := hvz.at (by omega)
        rw [hzl]
        clear hzl
        go_wp2_with fail
        have B69 : Below w6.heap.size w6 w9 := B68.trans (hb9.mono s68)
        have BW9 := Lib.hid (BW6.out.trans (B69.mono BW6.out.size))
        have B29 := Lib.hid (B26.out.trans (B69.mono B26.out.size))
        have HZ := Lib.hid hzc
        clear c9 c11 c19 d11 e11 hb7 hb8 hb9 B68 B69 hvz hzc hST hOK hPn BW6 B26
        go_loopg [24, 26, 135] (L + 1) (fun gg s24 s26 s135 wr => ∃ j : Nat, j ≤ L + 1 ∧ L + 1 - j ≤ gg ∧ s135 = .int .i64 j ∧ s24 = .int .i64 (((T2.panes.take j).filter (fun q => decide (q ≠ 99))).length : Nat) ∧ Aside (Below w9.heap.size w9 wr))
        case atStart => exact ⟨0, Nat.zero_le _, by omega, rfl, rfl, Below.refl _ _⟩
        case round =>
          obtain ⟨j, hj, hgj, rfl, rfl, BQ⟩ := hrel
          by_cases hltj : j < L + 1
          · have hltz : (j : Int) < ((L + 1 : Nat) : Int) := by omega
            have hltz2 : (j : Int) < (L : Int) + 1 := by omega
            have i0 : (0 : Int) ≤ (j : Int) := by omega
            have hR : j < T2.panes.length := by have := hlp.out; omega
            have cz := (BQ.out.cell (p := ⟨zb, zo + j, none⟩) hzb).trans (HZ.out j hR)
            have E1 := Lib.hid (filter_step (fun q : Int => decide (q ≠ 99)) T2.panes j hR)
            have E2 := Lib.hid (filter_at (fun q : Int => decide (q ≠ 99)) T2.panes j hR)
            have E3 := filter_le (fun q : Int => decide (q ≠ 99)) T2.panes j
            generalize ((T2.panes.take j).filter (fun q => decide (q ≠ 99))).length = k at *
            generalize T2.panes[j] = q at *
            clear hR
            by_cases e1 : q = 99
            · subst e1
              have E1 := Lib.hid E1.out
              go_wp2
              go_roundg (L + 1 - (j + 1))
              case measure => omega
              case rel => exact ⟨j + 1, by omega, by omega, by go_num, by rw [E1.out]; rfl, BQ.out⟩
            · have f1 : (q == 99) = false := by simpa using e1
              have hk := E2.out (by simpa using e1)
              rw [HPF.out, List.getElem?_eq_some_iff] at hk
              obtain ⟨hk1, hk2⟩ := hk
              have hk0 : k < L := by have := LP.out; omega
              have hkz : (k : Int) < (L : Int) := by omega
              have k0 : (0 : Int) ≤ (k : Int) := by omega
              have cp := ((BQ.out.cell (p := ⟨pb, po + k, none⟩) (Nat.lt_of_lt_of_le hpb B29.out.size)).trans (B29.out.cell (p := ⟨pb, po + k, none⟩) hpb)).trans (HPC.out k hk1)
              rw [hk2] at cp
              have e1d : decide (q ≠ 99) = true := by simpa using e1
              have E1 := E1.out
              rw [e1d] at E1
              have E1 := Lib.hid E1
              clear hk1 hk2 e1d
              go_wp2
              go_roundg (L + 1 - (j + 1))
              case measure => omega
              case rel => exact ⟨j + 1, by omega, by omega, by go_num, by rw [E1.out]; go_num, BQ.out⟩
          · have hltz : ¬ (j : Int) < ((L + 1 : Nat) : Int) := by omega
            have hltz2 : ¬ (j : Int) < (L : Int) + 1 := by omega
            have hR : T2.panes.take j = T2.panes := List.take_of_length_le (by have := hlp.out; omega)
            rw [hR, HPF.out, LP.out]
            clear hR
            have BQ0 := Lib.hid (BW9.out.trans (BQ.out.mono BW9.out.size))
            go_wp2_with ((go_at_call 12; refine (hA.out _).mono ?_; rintro e w10 ⟨rfl, hb10⟩))
            go_ret
            exact ⟨rfl, BQ0.out.trans (hb10.mono BQ0.out.size)⟩
end Go.Proofs
namespace Go.Proofs.Ytkcibhokjiciiaa.treeBack
open Go.ChangeShapes Go.WideShapes Go.ChangeAt Go.RowKit

theorem own : ownKnob Try.prog.godebug = none := by kernel_rfl
theorem tidy : Cm.Tidy Try.prog := Cm.tidy_of Try.prog (by kernel_rfl) (by kernel_rfl) (by kernel_rfl) (by kernel_rfl)
theorem fnIs (H : Type) : ∀ ds : List (DataW H), ds.length = Try.f3.params.size → Rows.treeBackSpec.fn H ds = { results := [.lit (.bool true)], args := ds }
  | [_, _, _, _], _ => rfl
  | [], h => by cases h
  | [_], h => by cases h
  | [_, _], h => by cases h
  | [_, _, _], h => by cases h
  | _ :: _ :: _ :: _ :: _ :: _, h => by
    have : Try.f3.params.size = 4 := rfl
    simp only [List.length_cons, this] at h
    omega

theorem law (cs : List Value) (hcs : Cm.HasArgs [.slice (.int .i64), .int .i64, .int .i64, .int .u64] cs) (W : World) (args : Array Value) (hc : Cm.Colds (fun b => W.heap[b]?) cs args.toList) :
    Calls Try.prog 3 args W fun e W' => e = .returned (.bool true) ∧ Below W.heap.size W W' := by
  obtain ⟨x0, r0, h0, ⟨x1, r1, h1, ⟨x2, r2, h2, ⟨x3, r3, h3, hr, rfl⟩, rfl⟩, rfl⟩, rfl⟩ := hcs
  have hr : r3 = [] := hr
  subst hr
  obtain ⟨al⟩ := args
  cases hc with
  | cons _ y0 _ l0 c0 hl0 =>
    cases hl0 with
    | cons _ y1 _ l1 c1 hl1 =>
      cases hl1 with
      | cons _ y2 _ l2 c2 hl2 =>
        cases hl2 with
        | cons _ y3 _ l3 c3 hl3 =>
          cases hl3
          obtain ⟨xs0, b0, e0⟩ := Cl.ints_in h0 c0
          obtain ⟨a1, w1, rfl⟩ := Cl.int_in h1 c1
          obtain ⟨a2, w2, rfl⟩ := Cl.int_in h2 c2
          obtain ⟨a3, w3, rfl⟩ := Cl.int_in h3 c3
          exact Try.back_ok Cl.awake xs0 y0 a1 a2 a3 W b0 (Cl.nat_of w3) e0

set_option maxRecDepth 100000 in
theorem lifted (os : Os) (started : os.Started) (H : Type) (enc : TypeId × Value → H) :
    ReturnsInHanded {} Try.checked os 3 .any (Rows.treeBackSpec.pre6 enc Try.prog Try.f3 Rows.treeBackRow.domain false) (Rows.treeBackSpec.post enc Try.prog Try.f3 false true false false) := by
  refine returnsInHanded_of_change (C := Try.checked) own started (by kernel_rfl) Try.func3
    (ChangeSpec.witness6 (enc := enc) (C := Try.checked) false ⟨#[], #[.slice none 0 0, .int .i64 0, .int .i64 0, .int .u64 0], []⟩ 8 (by kernel_rfl) (by kernel_rfl) (by kernel_rfl) (by kernel_rfl)) ?_
  intro W base args ds gs before hval0 hW hcnd _
  exact Cm.law_post tidy [.slice (.int .i64), .int .i64, .int .i64, .int .u64] rfl (fnIs H) rfl Try.underlying4 (by kernel_rfl) (by kernel_rfl) law W base args ds gs before hval0 hW

theorem fa : (Rows.treeBackRow.inPlace == Try.pinned.checked.prog.inPlace 3) = true := by kernel_rfl
theorem fb : (Rows.treeBackRow.unfollowed == Try.pinned.checked.prog.unfollowed 3) = true := by kernel_rfl
theorem fc : (Rows.treeBackRow.recurses == Try.pinned.checked.prog.recurses 3) = true := by kernel_rfl
theorem fd : (Rows.treeBackRow.named == Try.pinned.checked.prog.varsNamed 3) = true := by kernel_rfl
set_option maxHeartbeats 4000000 in
theorem facts : joinedFacts Try.pinned.checked.prog 3 Try.f3 Rows.treeBackSpec Rows.treeBackRow = true := by
  unfold joinedFacts
  simp only [Bool.and_eq_true]
  repeat' apply And.intro
  all_goals first
    | with_reducible exact fa
    | with_reducible exact fb
    | with_reducible exact fc
    | with_reducible exact fd
    | kernel_rfl

theorem over : Rows.treeBackRow.holds Try.pinned (OpenSpec.ofChange Rows.treeBackSpec) :=
  OpenClaim.holds_of_wide 3 Try.f3 rfl rfl rfl rfl rfl rfl rfl ⟨rfl, rfl, rfl, rfl, rfl⟩ rfl rfl rfl rfl rfl (by kernel_rfl) Try.func3 facts
    (of_decide_eq_true (by kernel_rfl)) (by unfold Func.isWrapper; first | (rw [if_pos (by decide +kernel)]; kernel_rfl) | (rw [if_neg (by decide +kernel)]; exact ⟨rfl, rfl⟩))
    (fun os started H enc _ => lifted os started H enc)

/-- ████ THE STATEMENT ████ -/
theorem proved : Rows.TreeBackSaid :=
  over
end Go.Proofs.Ytkcibhokjiciiaa.treeBack
