/-
  TreeWhole. TreeWhole: for every input of the types of its arguments the law returns true; the arguments read behind the call as they read before. No condition.
-/
import Derived.Test.YtkcibhokjiciiaaBm
import Derived.Test.YtkcibhokjiciiaaRows
import Derived.Test.YtkcibhokjiciiaaBk
import Derived.Test.YtkcibhokjiciiaaBl
import Derived.WalkKit
import Derived.Below
import Derived.ProofKit
import Derived.OpenShut
namespace Tp
open Go Go.RowKit Go.Proofs
theorem areas_in {r : Rc} (hw : 1 ≤ r.w ∧ r.w ≤ 50) (hh : 1 ≤ r.h ∧ r.h ≤ 50) : 0 ≤ r.w * r.h ∧ r.w * r.h ≤ 2500 :=
  ⟨Int.mul_nonneg (by omega) (by omega), Int.le_trans (Int.mul_le_mul hw.2 hh.2 (by omega) (by omega)) (by omega)⟩
/-- The rectangles of places. -/
def rcs (l : List Sp) : List Rc := l.map fun s : Sp => s.r
theorem rcs_length (l : List Sp) : (rcs l).length = l.length := List.length_map _
theorem rcs_get {l : List Sp} (j : Nat) (hj : j < (rcs l).length) : (rcs l)[j] = (l[j]'(by rw [← rcs_length]; exact hj)).r := by simp [rcs]
/-- A row of rectangles that lie within a window. -/
def Within (l : List Rc) : Prop := ∀ s ∈ l, 1 ≤ s.w ∧ s.w ≤ 50 ∧ 1 ≤ s.h ∧ s.h ≤ 50 ∧ Fine s
theorem Within.get {l : List Rc} (h : Within l) (i : Nat) (hi : i < l.length) : 1 ≤ l[i].w ∧ l[i].w ≤ 50 ∧ 1 ≤ l[i].h ∧ l[i].h ≤ 50 ∧ Fine l[i] := h _ (List.getElem_mem hi)
theorem Within.sums {l : List Rc} (h : Within l) (x y : Int) : 0 ≤ hits l x y ∧ hits l x y ≤ l.length ∧ 0 ≤ areas l ∧ areas l ≤ 2500 * l.length := by
  induction l with
  | nil => simp [hits, areas]
  | cons r l ih =>
    obtain ⟨i1, i2, i3, i4⟩ := ih fun s hs => h s (List.mem_cons_of_mem _ hs)
    obtain ⟨a, b, c, d, _⟩ := h r (by simp)
    have := areas_in (r := r) ⟨a, b⟩ ⟨c, d⟩
    have hb : 0 ≤ bit (r.has x y) ∧ bit (r.has x y) ≤ 1 := by unfold bit; split <;> omega
    simp only [hits, areas, List.length_cons]
    generalize r.w * r.h = m at *
    omega
theorem Within.take {l : List Rc} (h : Within l) (k : Nat) : Within (l.take k) := fun s hs => h s (List.mem_of_mem_take hs)
theorem whole_within {T : Tr} {W H : Int} (hf : T.fits W H) (hW : W ≤ 50) (hH : H ≤ 50) : Within (rcs (T.spots (whole W H))) ∧ Within (T.borders (whole W H)) := by
  refine ⟨fun s hs => ?_, fun s hs => ?_⟩
  · obtain ⟨t, ht, rfl⟩ := List.mem_map.1 hs
    have := Tr.spots_in (T := T) (r := whole W H) hf t ht
    simp only [whole] at this
    exact ⟨by omega, by omega, by omega, by omega, ⟨by omega, by omega, by omega, by omega, by omega, by omega⟩⟩
  · have := Tr.borders_in (T := T) (r := whole W H) hf s hs
    simp only [whole] at this
    exact ⟨by omega, by omega, by omega, by omega, ⟨by omega, by omega, by omega, by omega, by omega, by omega⟩⟩
theorem spots_rects {l : List Sp} {w : World} {v : Value} (h : SpotsAt w v l) (h0 : 0 < l.length) : ∃ b off c, v = .slice (some ⟨b, off, none⟩) l.length c ∧ b < w.heap.size ∧
    ∀ j, (hj : j < (rcs l).length) → ∃ p : Int, w.cell? ⟨b, off + j * 5, none⟩ = some (.int .i64 p) ∧ w.cell? ⟨b, off + j * 5 + 1, none⟩ = some (.int .i64 (rcs l)[j].x) ∧ w.cell? ⟨b, off + j * 5 + 2, none⟩ = some (.int .i64 (rcs l)[j].y) ∧
      w.cell? ⟨b, off + j * 5 + 3, none⟩ = some (.int .i64 (rcs l)[j].w) ∧ w.cell? ⟨b, off + j * 5 + 4, none⟩ = some (.int .i64 (rcs l)[j].h) := by
  obtain ⟨b, off, c, e, hb, hc⟩ := h.at h0
  refine ⟨b, off, c, e, hb, fun j hj => ?_⟩
  obtain ⟨h0, h1, h2, h3, h4⟩ := hc j (by rw [← rcs_length]; exact hj)
  exact ⟨_, h0, by rw [rcs_get]; exact h1, by rw [rcs_get]; exact h2, by rw [rcs_get]; exact h3, by rw [rcs_get]; exact h4⟩
theorem hits_whole {T : Tr} {W H x y : Int} (hf : T.fits W H) (h1 : 0 ≤ x) (h2 : x < W) (h3 : 0 ≤ y) (h4 : y < H) : hits (rcs (T.spots (whole W H))) x y + hits (T.borders (whole W H)) x y = 1 := by
  refine (Tr.tile_hits x y (r := whole W H) hf).trans ?_
  simp [bit, Rc.has, whole, h1, h2, h3, h4]
end Tp
namespace Go.Proofs
open Go.RowKit Go.Lib Go.Sort Tp
attribute [local go_sem ↓] Go.wp_at_zero Go.wp_at_succ

set_option maxRecDepth 100000 in
set_option maxHeartbeats 4000000 in
theorem Try.whole_ok (hA : Try.Awake) (xs : List Int) (v : Value) (a1 a2 a3 a4 : Int) (w : World) (hx : xs.length ≤ maxLen) (hv : IntsIn w v xs) :
    Calls Try.prog 7 #[v, .int .i64 a1, .int .i64 a2, .int .i64 a3, .int .i64 a4] w fun e w' => e = .returned (.bool true) ∧ Below w.heap.size w w' := by
  have hTree := Lib.hid (fun w' h => Try.tree_ok xs v w' hx h)
  have hA := Lib.hid hA
  have HV := Lib.hid hv
  obtain ⟨LA, lc, rfl, _⟩ := hv
  have h15 := i64_and15
  go_enter Try.func7, Try.ntmps7
  go_wp2_with fail
  go_at_call 8
  refine (hTree.out _ HV.out).mono ?_
  rintro e w1 ⟨T, b, off, c, GR, rfl, hN, hb1⟩
  have GR := Lib.hid GR
  have N1 := Lib.hid hN
  have WT := Lib.hid GR.out.whole
  have BW1 := Lib.hid hb1
  clear hN hb1
  -- least
  go_wp2_with fail
  go_at_call 22
  refine (Try.tleast_ok T WT.out _ _ (N1.out.below (by (repeat (first | with_reducible assumption | with_reducible exact Below.refl _ _ | with_reducible refine Below.drew ?_ | with_reducible refine below_drewN ?_ _ | (with_reducible refine Below.setCell ?_ ?_ _; rotate_left; (first | omega | (simp <;> omega))) | (with_reducible refine Below.alloc ?_ ?_ _; rotate_left; (first | omega | (simp <;> omega)))))))).mono ?_
  rintro e w2 ⟨rfl, hb2⟩
  obtain ⟨B12, F11, s12⟩ := step_alloc hb2
  have N7 := Lib.hid (N1.out.below B12)
  have G11 := Lib.hid F11
  have BW2 := Lib.hid (BW1.out.trans (B12.mono BW1.out.size))
  have c11 := cell_block G11.out 0
  clear hb2 B12 F11 N1 BW1
  obtain ⟨m1, m2, m3, m4, m5, m6, m7, m8⟩ := GR.out.bounds
  clear m5 m6 m7 m8
  have FW := Lib.hid (fun (W H : Int) (h1 : T.lw ≤ W) (h2 : W ≤ 45) (h3 : T.lh ≤ H) (h4 : H ≤ 35) => (show Whole (T.fit W H) ∧ (T.fit W H).fits W H from
    ⟨Tr.fit_whole WT.out h1 h3 (by omega) (by omega), Tr.fit_fits h1 h3⟩))
  have hFit := Lib.hid (fun (W H : Int) w' (hv : NodesAt w' _ (T.nodes 0)) (h1 : T.lw ≤ W) (h2 : W ≤ 45) (h3 : T.lh ≤ H) (h4 : H ≤ 35) => Try.tfit_ok T WT.out (.slice (some ⟨b, off, none⟩) T.size c) W H w' h1 h3 (by omega) (by omega) hv)
  have hNo := Lib.hid (fun w' hv => Try.tfit_no T WT.out (.slice (some ⟨b, off, none⟩) T.size c) (T.lw - 1) T.lh w' (by omega) hv)
  generalize T.lw = lw at *
  generalize T.lh = lh at *
  go_wp2_with fail
  have q1 : lw ≤ lw + a1 % 16 := by omega
  have q2 : lw + a1 % 16 ≤ 45 := by omega
  have q3 : lh ≤ lh + a2 % 16 := by omega
  have q4 : lh + a2 % 16 ≤ 35 := by omega
  have q5 : 1 ≤ lw + a1 % 16 := by omega
  have q6 : 1 ≤ lh + a2 % 16 := by omega
  generalize lw + a1 % 16 = W at *
  generalize lh + a2 % 16 = H at *
  go_at_call 21
  refine (hFit.out W H _ N7.out q1 q2 q3 q4).mono ?_
  rintro e w3 ⟨b3, off3, c3, rfl, hle3, hN3, B23⟩
  obtain ⟨WU, FU⟩ := FW.out W H q1 q2 q3 q4
  have WU := Lib.hid WU
  have FU := Lib.hid FU
  have s23 := B23.size
  have N7 := Lib.hid (N7.out.below B23)
  have NU := Lib.hid hN3
  have G11 := Lib.hid ((B23.block _ s12).trans G11.out)
  have BW3 := Lib.hid (BW2.out.trans (B23.mono BW2.out.size))
  clear c11 hle3 hN3 B23 BW2 h15
  -- places
  go_wp2_with fail
  go_at_call 14
  refine (Try.tplaces_ok (T.fit W H) WU.out _ W H _ FU.out (by omega) (by omega) (NU.out.below (by (repeat (first | with_reducible assumption | with_reducible exact Below.refl _ _ | with_reducible refine Below.drew ?_ | with_reducible refine below_drewN ?_ _ | (with_reducible refine Below.setCell ?_ ?_ _; rotate_left; (first | omega | (simp <;> omega))) | (with_reducible refine Below.alloc ?_ ?_ _; rotate_left; (first | omega | (simp <;> omega)))))))).mono ?_
  rintro e w4 ⟨vp, um, rfl, hvp, hum, hb4⟩
  obtain ⟨B34, _, s34⟩ := step_alloc hb4
  have N7 := Lib.hid (N7.out.below B34)
  have G11 := Lib.hid ((B34.block _ (by omega)).trans G11.out)
  have BW4 := Lib.hid (BW3.out.trans (B34.mono BW3.out.size))
  have l0 : 0 < ((T.fit W H).spots (whole W H)).length ∧ ((T.fit W H).spots (whole W H)).length ≤ 63 := by rw [Tr.spots_length]; have := (T.fit W H).panes_length; have := (T.fit W H).size_pos; have := WU.out.size; omega
  have l1 : ((T.fit W H).borders (whole W H)).length + 1 = ((T.fit W H).spots (whole W H)).length := by rw [Tr.borders_length, Tr.spots_length]
  have HT := Lib.hid (show areas (rcs ((T.fit W H).spots (whole W H))) + areas ((T.fit W H).borders (whole W H)) = W * H from Tr.tile_area (r := whole W H) FU.out)
  have HH := Lib.hid (fun x y (h1 : 0 ≤ x) (h2 : x < W) (h3 : 0 ≤ y) (h4 : y < H) => hits_whole (x := x) (y := y) FU.out h1 h2 h3 h4)
  have HI := Lib.hid (whole_within FU.out (by omega) (by omega))
  obtain ⟨pb, po, pc, rfl, hpb, hpc⟩ := spots_rects hvp l0.1
  obtain ⟨U1, uc1, rfl, _⟩ := Rd.val hum
  have HP := Lib.hid hpc
  have HM := Lib.hid hum
  have l5 : (rcs ((T.fit W H).spots (whole W H))).length = ((T.fit W H).spots (whole W H)).length := rcs_length _
  clear hb4 B34 BW3 hvp hum hpc NU FU WU FW hFit hTree
  obtain ⟨l2, l3⟩ := l0
  generalize rcs ((T.fit W H).spots (whole W H)) = R at *
  generalize ((T.fit W H).spots (whole W H)).length = m at *
  generalize (T.fit W H).borders (whole W H) = bl at *
  obtain ⟨n, hn⟩ : ∃ n, n = bl.length := ⟨_, rfl⟩
  have hn' : m = n + 1 := by omega
  have L1 := Lib.hid hn
  have L2 := Lib.hid (show R.length = n + 1 by omega)
  have l4 : n ≤ 62 := by omega
  subst hn'
  rw [← hn]
  clear l1 l2 l3 l5 hn
  have h65 := i64_and65535
  have r1 : 0 ≤ a3 % 65536 := by omega
  have r2 : 0 ≤ a4 % 65536 := by omega
  have r3 : (a3 % 65536).tmod W = a3 % 65536 % W := Int.tmod_eq_emod_of_nonneg r1
  have r4 : (a4 % 65536).tmod H = a4 % 65536 % H := Int.tmod_eq_emod_of_nonneg r2
  have r5 : 0 ≤ a3 % 65536 % W := Int.emod_nonneg _ (by omega)
  have r6 : 0 ≤ a4 % 65536 % H := Int.emod_nonneg _ (by omega)
  have r7 : a3 % 65536 % W < W := Int.emod_lt_of_pos _ (by omega)
  have r8 : a4 % 65536 % H < H := Int.emod_lt_of_pos _ (by omega)
  have r9 : (W == 0) = false := by rw [beq_eq_false_iff_ne]; omega
  have r10 : (H == 0) = false := by rw [beq_eq_false_iff_ne]; omega
  have r11 : ¬ W = 0 := by omega
  have r12 : ¬ H = 0 := by omega
  go_wp2_with fail
  go_quiet (fail)
  clear r1 r2 r3 r4 r9 r10 r11 r12 h65
  generalize a3 % 65536 % W = X at *
  generalize a4 % 65536 % H = Y at *
  have B4n := Lib.hid (below_drewN (Below.refl w4.heap.size w4) nq)
  go_wp2_with fail
  have am := areas_in (r := ⟨0, 0, W, H⟩) ⟨q5, by show W ≤ 50; omega⟩ ⟨q6, by show H ≤ 50; omega⟩
  simp only at am
  obtain ⟨am1, am2⟩ := am
  go_loopg [19, 20, 22, 81] (n + 1) (fun gg s19 s20 s22 s81 wr => ∃ i : Nat, i ≤ n + 1 ∧ n + 1 - i ≤ gg ∧ s81 = .int .i64 i ∧ s19 = .int .i64 (hits (R.take i) X Y) ∧ s20 = .int .i64 (areas (R.take i)) ∧ Aside (Below w4.heap.size w4 wr))
  case atStart => exact ⟨0, Nat.zero_le _, by omega, rfl, rfl, rfl, B4n.out⟩
  case round =>
    obtain ⟨i, hi, hg, rfl, rfl, rfl, BW⟩ := hrel
    by_cases hlt : i < n + 1
    · have hltz : (i : Int) < ((n + 1 : Nat) : Int) := by omega
      have hltz2 : (i : Int) < (n : Int) + 1 := by omega
      have i0 : (0 : Int) ≤ (i : Int) := by omega
      have hR : i < R.length := by have := L2.out; omega
      obtain ⟨z, p0, p1, p2, p3, p4⟩ := HP.out i hR
      have bx := fun o => BW.out.cell (p := ⟨pb, o, none⟩) hpb
      have c0 := (bx _).trans p0; have c1 := (bx _).trans p1; have c2 := (bx _).trans p2; have c3 := (bx _).trans p3; have c4 := (bx _).trans p4
      obtain ⟨w1', w2', w3', w4', FI⟩ := HI.out.1.get i hR
      have ai := areas_in (r := R[i]) ⟨w1', w2'⟩ ⟨w3', w4'⟩
      have E1 := Lib.hid (hits_succ R X Y i hR)
      have E2 := Lib.hid (areas_succ R i hR)
      obtain ⟨s1, s2, s3, s4⟩ := (HI.out.1.take i).sums X Y
      have s5 : (R.take i).length ≤ 63 := by rw [List.length_take]; omega
      have s6 : hits (R.take i) X Y ≤ 63 := by omega
      have s7 : areas (R.take i) ≤ 2500 * 63 := by omega
      have hIn := Lib.hid (fun w' => Try.in_ok R[i] FI X Y w' r5 (by omega) r6 (by omega))
      clear p0 p1 p2 p3 p4 bx s2 s4 s5 FI
      generalize hits (R.take i) X Y = ht at *
      generalize areas (R.take i) = ar at *
      generalize R[i] = x at *
      clear hR
      obtain ⟨x0, x1, x2, x3⟩ := x
      simp only at c0 c1 c2 c3 c4 w1' w2' w3' w4' ai
      obtain ⟨ai1, ai2⟩ := ai
      have hltw : ¬ x2 < 1 := by omega
      have hlth : ¬ x3 < 1 := by omega
      by_cases hb : Rc.has ⟨x0, x1, x2, x3⟩ X Y = true
      · have E1 := E1.out
        rw [hb] at hIn E1
        have E1 := Lib.hid E1
        clear hb
        go_wp2_with ((go_at_call 23; with_reducible refine (hIn.out _).mono ?_; rintro e w5 ⟨rfl, hb5⟩; obtain ⟨B5, F22, s5⟩ := step_alloc hb5; have d1 := cell_block F22 1; have d2 := cell_block F22 2; have d3 := cell_block F22 3; have d4 := cell_block F22 4; clear hb5))
        go_roundg (n + 1 - (i + 1))
        case measure => omega
        case rel => exact ⟨i + 1, by omega, by omega, by go_num, by rw [E1.out]; rfl, by rw [E2.out], BW.out.trans (B5.mono BW.out.size)⟩
      · have hb : Rc.has ⟨x0, x1, x2, x3⟩ X Y = false := by simpa using hb
        have E1 := E1.out
        rw [hb] at hIn E1
        have E1 := Lib.hid E1
        clear hb
        go_wp2_with ((go_at_call 23; with_reducible refine (hIn.out _).mono ?_; rintro e w5 ⟨rfl, hb5⟩; obtain ⟨B5, F22, s5⟩ := step_alloc hb5; have d1 := cell_block F22 1; have d2 := cell_block F22 2; have d3 := cell_block F22 3; have d4 := cell_block F22 4; clear hb5))
        go_roundg (n + 1 - (i + 1))
        case measure => omega
        case rel => exact ⟨i + 1, by omega, by omega, by go_num, by rw [E1.out]; simp [bit], by rw [E2.out], BW.out.trans (B5.mono BW.out.size)⟩
    · have hltz : ¬ (i : Int) < ((n + 1 : Nat) : Int) := by omega
      have hltz2 : ¬ (i : Int) < (n : Int) + 1 := by omega
      have hR : R.take i = R := List.take_of_length_le (by have := L2.out; omega)
      rw [hR]
      obtain ⟨t1, t2, t3, t4⟩ := HI.out.1.sums X Y
      have t5 := L2.out
      have t6 : hits R X Y ≤ 63 := by omega
      have t7 : areas R ≤ 2500 * 63 := by omega
      have BW0 := Lib.hid BW.out
      have HHx := Lib.hid (HH.out X Y r5 r7 r6 r8)
      clear hR t2 t4 t5 hltz hltz2 BW
      generalize hits R X Y = hR at *
      generalize areas R = aR at *
      go_wp2_with fail
      go_loopg [19, 20, 24, 114] n (fun gg s19 s20 s24 s114 wr => ∃ j : Nat, j ≤ n ∧ n - j ≤ gg ∧ s114 = .int .i64 j ∧ s19 = .int .i64 (hR + hits (bl.take j) X Y) ∧ s20 = .int .i64 (aR + areas (bl.take j)) ∧ Aside (Below w4.heap.size w4 wr))
      case atStart => exact ⟨0, Nat.zero_le _, by omega, rfl, by simp [hits], by simp [areas], BW0.out⟩
      case round =>
        obtain ⟨j, hj, hgj, rfl, rfl, rfl, BQ⟩ := hrel
        by_cases hltj : j < n
        · have hltz : (j : Int) < (n : Int) := by omega
          have i0 : (0 : Int) ≤ (j : Int) := by omega
          have hB : j < bl.length := by have := L1.out; omega
          obtain ⟨ub, uo, uc2, e1, hub, huc⟩ := RectsAt.at HM.out (by omega)
          injection e1 with e1 _ e1'
          subst e1 e1'
          obtain ⟨p1, p2, p3, p4⟩ := huc j hB
          have bx := fun o => BQ.out.cell (p := ⟨ub, o, none⟩) hub
          have c1 := (bx _).trans p1; have c2 := (bx _).trans p2; have c3 := (bx _).trans p3; have c4 := (bx _).trans p4
          obtain ⟨w1', w2', w3', w4', FI⟩ := HI.out.2.get j hB
          have ai := areas_in (r := bl[j]) ⟨w1', w2'⟩ ⟨w3', w4'⟩
          have E1 := Lib.hid (hits_succ bl X Y j hB)
          have E2 := Lib.hid (areas_succ bl j hB)
          obtain ⟨s1, s2, s3, s4⟩ := (HI.out.2.take j).sums X Y
          have s5 : (bl.take j).length ≤ 63 := by rw [List.length_take]; omega
          have s6 : hits (bl.take j) X Y ≤ 63 := by omega
          have s7 : areas (bl.take j) ≤ 2500 * 63 := by omega
          have hIn := Lib.hid (fun w' => Try.in_ok bl[j] FI X Y w' r5 (by omega) r6 (by omega))
          clear p1 p2 p3 p4 bx s2 s4 s5 FI huc
          generalize hits (bl.take j) X Y = ht at *
          generalize areas (bl.take j) = ar at *
          generalize bl[j] = x at *
          clear hB
          obtain ⟨x0, x1, x2, x3⟩ := x
          simp only at c1 c2 c3 c4 w1' w2' w3' w4' ai
          obtain ⟨ai1, ai2⟩ := ai
          by_cases hb : Rc.has ⟨x0, x1, x2, x3⟩ X Y = true
          · have E1 := E1.out
            rw [hb] at hIn E1
            have E1 := Lib.hid E1
            clear hb
            go_wp2_with ((go_at_call 23; with_reducible refine (hIn.out _).mono ?_; rintro e w5 ⟨rfl, hb5⟩; obtain ⟨B5, F22, s5⟩ := step_alloc hb5; have d1 := cell_block F22 0; have d2 := cell_block F22 1; have d3 := cell_block F22 2; have d4 := cell_block F22 3; clear hb5))
            go_roundg (n - (j + 1))
            case measure => omega
            case rel => exact ⟨j + 1, by omega, by omega, by go_num, by rw [E1.out]; simp [bit, Int.add_assoc], by rw [E2.out, Int.add_assoc], BQ.out.trans (B5.mono BQ.out.size)⟩
          · have hb : Rc.has ⟨x0, x1, x2, x3⟩ X Y = false := by simpa using hb
            have E1 := E1.out
            rw [hb] at hIn E1
            have E1 := Lib.hid E1
            clear hb
            go_wp2_with ((go_at_call 23; with_reducible refine (hIn.out _).mono ?_; rintro e w5 ⟨rfl, hb5⟩; obtain ⟨B5, F22, s5⟩ := step_alloc hb5; have d1 := cell_block F22 0; have d2 := cell_block F22 1; have d3 := cell_block F22 2; have d4 := cell_block F22 3; clear hb5))
            go_roundg (n - (j + 1))
            case measure => omega
            case rel => exact ⟨j + 1, by omega, by omega, by go_num, by rw [E1.out]; simp [bit], by rw [E2.out, Int.add_assoc], BQ.out.trans (B5.mono BQ.out.size)⟩
        · have hltz : ¬ (j : Int) < (n : Int) := by omega
          have hB : bl.take j = bl := List.take_of_length_le (by have := L1.out; omega)
          have e1 := HHx.out
          have e2 := HT.out
          rw [hB, e1, e2]
          clear hB e1 e2
          have f11 := (BQ.out.block _ (by omega)).trans G11.out
          have c11 := cell_block f11 0
          have z11 : w1.heap.size < wr.heap.size := by have := BQ.out.size; omega
          have N8 := Lib.hid (N7.out.below BQ.out)
          have BQ0 := Lib.hid (BW4.out.trans (BQ.out.mono BW4.out.size))
          clear f11 BQ
          go_wp2_with fail
          go_at_call 21
          refine (hNo.out _ N8.out).mono ?_
          rintro e w6 ⟨rfl, hb6⟩
          go_wp2_with ((go_at_call 12; refine (hA.out _).mono ?_; rintro e w7 ⟨rfl, hb7⟩))
          go_ret
          have hs6 := hb6.size
          have hq : Below wr.heap.size wr w7 := Below.trans (by (repeat (first | with_reducible assumption | with_reducible exact Below.refl _ _ | with_reducible refine Below.drew ?_ | with_reducible refine below_drewN ?_ _ | (with_reducible refine Below.setCell ?_ ?_ _; rotate_left; (first | omega | (simp <;> omega))) | (with_reducible refine Below.alloc ?_ ?_ _; rotate_left; (first | omega | (simp <;> omega)))))) (hb7.mono (by first | omega | (simp <;> omega)))
          exact ⟨rfl, BQ0.out.trans (hq.mono BQ0.out.size)⟩
end Go.Proofs
namespace Go.Proofs.Ytkcibhokjiciiaa.treeWhole
open Go.ChangeShapes Go.WideShapes Go.ChangeAt Go.RowKit

theorem own : ownKnob Try.prog.godebug = none := by kernel_rfl
theorem tidy : Cm.Tidy Try.prog := Cm.tidy_of Try.prog (by kernel_rfl) (by kernel_rfl) (by kernel_rfl) (by kernel_rfl)
theorem fnIs (H : Type) : ∀ ds : List (DataW H), ds.length = Try.f7.params.size → Rows.treeWholeSpec.fn H ds = { results := [.lit (.bool true)], args := ds }
  | [_, _, _, _, _], _ => rfl
  | [], h => by cases h
  | [_], h => by cases h
  | [_, _], h => by cases h
  | [_, _, _], h => by cases h
  | [_, _, _, _], h => by cases h
  | _ :: _ :: _ :: _ :: _ :: _ :: _, h => by
    have : Try.f7.params.size = 5 := rfl
    simp only [List.length_cons, this] at h
    omega

theorem law (cs : List Value) (hcs : Cm.HasArgs [.slice (.int .i64), .int .i64, .int .i64, .int .i64, .int .i64] cs) (W : World) (args : Array Value) (hc : Cm.Colds (fun b => W.heap[b]?) cs args.toList) :
    Calls Try.prog 7 args W fun e W' => e = .returned (.bool true) ∧ Below W.heap.size W W' := by
  obtain ⟨x0, r0, h0, ⟨x1, r1, h1, ⟨x2, r2, h2, ⟨x3, r3, h3, ⟨x4, r4, h4, hr, rfl⟩, rfl⟩, rfl⟩, rfl⟩, rfl⟩ := hcs
  have hr : r4 = [] := hr
  subst hr
  obtain ⟨al⟩ := args
  cases hc with
  | cons _ y0 _ l0 c0 hl0 =>
    cases hl0 with
    | cons _ y1 _ l1 c1 hl1 =>
      cases hl1 with
      | cons _ y2 _ l2 c2 hl2 =>
        cases hl2 with
        | cons _ y3 _ l3 c3 hl3 =>
          cases hl3 with
          | cons _ y4 _ l4 c4 hl4 =>
            cases hl4
            obtain ⟨xs0, b0, e0⟩ := Cl.ints_in h0 c0
            obtain ⟨a1, w1, rfl⟩ := Cl.int_in h1 c1
            obtain ⟨a2, w2, rfl⟩ := Cl.int_in h2 c2
            obtain ⟨a3, w3, rfl⟩ := Cl.int_in h3 c3
            obtain ⟨a4, w4, rfl⟩ := Cl.int_in h4 c4
            exact Try.whole_ok Cl.awake xs0 y0 a1 a2 a3 a4 W b0 e0

set_option maxRecDepth 100000 in
theorem lifted (os : Os) (started : os.Started) (H : Type) (enc : TypeId × Value → H) :
    ReturnsInHanded {} Try.checked os 7 .any (Rows.treeWholeSpec.pre6 enc Try.prog Try.f7 Rows.treeWholeRow.domain false) (Rows.treeWholeSpec.post enc Try.prog Try.f7 false true false false) := by
  refine returnsInHanded_of_change (C := Try.checked) own started (by kernel_rfl) Try.func7
    (ChangeSpec.witness6 (enc := enc) (C := Try.checked) false ⟨#[], #[.slice none 0 0, .int .i64 0, .int .i64 0, .int .i64 0, .int .i64 0], []⟩ 8 (by kernel_rfl) (by kernel_rfl) (by kernel_rfl) (by kernel_rfl)) ?_
  intro W base args ds gs before hval0 hW hcnd _
  exact Cm.law_post tidy [.slice (.int .i64), .int .i64, .int .i64, .int .i64, .int .i64] rfl (fnIs H) rfl Try.underlying4 (by kernel_rfl) (by kernel_rfl) law W base args ds gs before hval0 hW

theorem fa : (Rows.treeWholeRow.inPlace == Try.pinned.checked.prog.inPlace 7) = true := by kernel_rfl
theorem fb : (Rows.treeWholeRow.unfollowed == Try.pinned.checked.prog.unfollowed 7) = true := by kernel_rfl
theorem fc : (Rows.treeWholeRow.recurses == Try.pinned.checked.prog.recurses 7) = true := by kernel_rfl
theorem fd : (Rows.treeWholeRow.named == Try.pinned.checked.prog.varsNamed 7) = true := by kernel_rfl
set_option maxHeartbeats 4000000 in
theorem facts : joinedFacts Try.pinned.checked.prog 7 Try.f7 Rows.treeWholeSpec Rows.treeWholeRow = true := by
  unfold joinedFacts
  simp only [Bool.and_eq_true]
  repeat' apply And.intro
  all_goals first
    | with_reducible exact fa
    | with_reducible exact fb
    | with_reducible exact fc
    | with_reducible exact fd
    | kernel_rfl

theorem over : Rows.treeWholeRow.holds Try.pinned (OpenSpec.ofChange Rows.treeWholeSpec) :=
  OpenClaim.holds_of_wide 7 Try.f7 rfl rfl rfl rfl rfl rfl rfl ⟨rfl, rfl, rfl, rfl, rfl⟩ rfl rfl rfl rfl rfl (by kernel_rfl) Try.func7 facts
    (of_decide_eq_true (by kernel_rfl)) (by unfold Func.isWrapper; first | (rw [if_pos (by decide +kernel)]; kernel_rfl) | (rw [if_neg (by decide +kernel)]; exact ⟨rfl, rfl⟩))
    (fun os started H enc _ => lifted os started H enc)

/-- ████ THE STATEMENT ████ -/
theorem proved : Rows.TreeWholeSaid :=
  over
end Go.Proofs.Ytkcibhokjiciiaa.treeWhole
