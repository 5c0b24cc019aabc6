/-
  TreeSwaps. TreeSwaps: for every input of the types of its arguments the law returns true; the arguments read behind the call as they read before. No condition.
-/
import Derived.Test.YtkcibhokjiciiaaBm
import Derived.Test.YtkcibhokjiciiaaRows
import Derived.Test.YtkcibhokjiciiaaBk
import Derived.Test.YtkcibhokjiciiaaBl
import Derived.WalkKit
import Derived.Below
import Derived.ProofKit
import Derived.OpenShut
namespace Go.Proofs
open Go.RowKit Go.Lib Go.Sort Tp
attribute [local go_sem ↓] Go.wp_at_zero Go.wp_at_succ

set_option maxRecDepth 100000 in
set_option maxHeartbeats 4000000 in
theorem Try.swaps_ok (hA : Try.Awake) (xs : List Int) (v : Value) (a1 a2 : Int) (w : World) (hx : xs.length ≤ maxLen) (hv : IntsIn w v xs) :
    Calls Try.prog 4 #[v, .int .i64 a1, .int .i64 a2] w fun e w' => e = .returned (.bool true) ∧ Below w.heap.size w w' := by
  have hTree := Lib.hid (fun w' h => Try.tree_ok xs v w' hx h)
  have hA := Lib.hid hA
  have HV := Lib.hid hv
  obtain ⟨LA, lc, rfl, _⟩ := hv
  have h255 := i64_and255
  go_enter Try.func4, Try.ntmps4
  go_wp2_with fail
  go_at_call 8
  refine (hTree.out _ HV.out).mono ?_
  rintro e w1 ⟨T, b, off, c, GR, rfl, hN, hb1⟩
  have GR := Lib.hid GR
  have N1 := Lib.hid hN
  have WT := Lib.hid GR.out.whole
  have BW1 := Lib.hid hb1
  clear hN hb1
  -- panes
  go_wp2_with fail
  go_at_call 17
  refine (Try.rpanes_ok T WT.out _ _ (N1.out.below (by (repeat (first | with_reducible assumption | with_reducible exact Below.refl _ _ | with_reducible refine Below.drew ?_ | with_reducible refine below_drewN ?_ _ | (with_reducible refine Below.setCell ?_ ?_ _; rotate_left; (first | omega | (simp <;> omega))) | (with_reducible refine Below.alloc ?_ ?_ _; rotate_left; (first | omega | (simp <;> omega)))))))).mono ?_
  rintro e w2 ⟨vp, rfl, hvp, hb2⟩
  obtain ⟨B12, F7, s12⟩ := step_alloc hb2
  have N7 := Lib.hid (N1.out.below B12)
  have G7 := Lib.hid F7
  have BW2 := Lib.hid (BW1.out.trans (B12.mono BW1.out.size))
  obtain ⟨_, _, _, _, m5, m6, m7, m8⟩ := GR.out.bounds
  have HP := Lib.hid hvp
  obtain ⟨pb, po, pc, rfl, hpb, hpc⟩ := hvp.at m5
  obtain ⟨k1, k2, k3, k4⟩ := pick_at T.panes a1 m5
  obtain ⟨k5, k6, k7, k8⟩ := pick_at T.panes a2 m5
  obtain ⟨qa, M1', p1⟩ := pick_cell hpc a1 m5
  obtain ⟨qb, M2', p2⟩ := pick_cell hpc a2 m5
  have M1 := Lib.hid M1'
  have M2 := Lib.hid M2'
  clear M1' M2' k3 k7
  clear hb2 N1 BW1 F7 B12 hvp hpc
  generalize T.panes.length = L at *
  have hl0 : ((L : Int) == 0) = false := by rw [beq_eq_false_iff_ne]; omega
  have hl1 : ¬ (L : Int) = 0 := by omega
  have hl2 : ¬ L = 0 := by omega
  go_wp2_with fail
  go_quiet (fail)
  have B2n := Lib.hid (below_drewN (Below.refl w2.heap.size w2) nq)
  clear p1 p2 k1 k2 k4 k5 k6 k8 hl0 hl1 hl2 h255
  -- swap
  have N7 := Lib.hid (N7.out.below B2n.out)
  have c7 := cell_block G7.out 0
  go_wp2_with fail
  go_at_call 18
  refine (Try.tswap_ok T WT.out _ qa qb _ M1.out M2.out N7.out).mono ?_
  rintro e w3 ⟨b3, off3, c3, rfl, hle3, hN3, hb3⟩
  have B23 : Below w2.heap.size w2 w3 := B2n.out.trans hb3
  have s23 := B23.size
  have N7 := Lib.hid (N7.out.below hb3)
  have NU := Lib.hid hN3
  have HP := Lib.hid (Rd.below HP.out B23 (Nat.le_refl _))
  have G7 := Lib.hid ((B23.block _ s12).trans G7.out)
  have BW3 := Lib.hid (BW2.out.trans (B23.mono BW2.out.size))
  have WU := Lib.hid (swap_whole WT.out M1.out M2.out)
  have MU := Lib.hid (ren_mem M1.out M2.out)
  clear hle3 hN3 hb3 B23 BW2 B2n c7
  -- swapped again
  go_wp2_with fail
  go_at_call 18
  refine (Try.tswap_ok (T.ren (sw qa qb)) WU.out _ qa qb _ MU.out.1 MU.out.2 (NU.out.below (by (repeat (first | with_reducible assumption | with_reducible exact Below.refl _ _ | with_reducible refine Below.drew ?_ | with_reducible refine below_drewN ?_ _ | (with_reducible refine Below.setCell ?_ ?_ _; rotate_left; (first | omega | (simp <;> omega))) | (with_reducible refine Below.alloc ?_ ?_ _; rotate_left; (first | omega | (simp <;> omega)))))))).mono ?_
  rw [Tr.swap_back]
  rintro e w4 ⟨b4, off4, c4, rfl, hle4, hN4, hb4⟩
  obtain ⟨B34, F9, s34⟩ := step_alloc hb4
  have N7 := Lib.hid (N7.out.below B34)
  have NU := Lib.hid (NU.out.below B34)
  have NV := Lib.hid hN4
  have HP := Lib.hid (Rd.below HP.out B34 (Nat.le_refl _))
  have G7 := Lib.hid ((B34.block _ (by omega)).trans G7.out)
  have G9 := Lib.hid F9
  have BW4 := Lib.hid (BW3.out.trans (B34.mono BW3.out.size))
  have c7 := cell_block G7.out 0
  have z7 : w1.heap.size < w4.heap.size := by omega
  clear hle4 hN4 hb4 B34 F9 BW3 MU
  -- a pane that is not there
  go_wp2_with fail
  go_at_call 18
  refine (Try.tswap_no T WT.out _ qa 98 _ M1.out (GR.out.apart (by omega)) (N7.out.below (by (repeat (first | with_reducible assumption | with_reducible exact Below.refl _ _ | with_reducible refine Below.drew ?_ | with_reducible refine below_drewN ?_ _ | (with_reducible refine Below.setCell ?_ ?_ _; rotate_left; (first | omega | (simp <;> omega))) | (with_reducible refine Below.alloc ?_ ?_ _; rotate_left; (first | omega | (simp <;> omega)))))))).mono ?_
  rintro e w5 ⟨rfl, hb5⟩
  obtain ⟨B45, F11, s45⟩ := step_alloc hb5
  have N7 := Lib.hid (N7.out.below B45)
  have NU := Lib.hid (NU.out.below B45)
  have NV := Lib.hid (NV.out.below B45)
  have HP := Lib.hid (Rd.below HP.out B45 (Nat.le_refl _))
  have G7 := Lib.hid ((B45.block _ (by omega)).trans G7.out)
  have G9 := Lib.hid ((B45.block _ (by omega)).trans G9.out)
  have G11 := Lib.hid F11
  have BW5 := Lib.hid (BW4.out.trans (B45.mono BW4.out.size))
  clear c7
  have c9 := cell_block G9.out 0
  have z9 : w3.heap.size < w5.heap.size := by omega
  clear hb5 B45 F11 BW4 z7
  -- places
  go_wp2_with fail
  go_at_call 14
  refine (Try.tplaces_ok (T.ren (sw qa qb)) WU.out _ 30 20 _ ((Tr.ren_fits _ _ _ _).2 GR.out.fits) (by omega) (by omega) (NU.out.below (by (repeat (first | with_reducible assumption | with_reducible exact Below.refl _ _ | with_reducible refine Below.drew ?_ | with_reducible refine below_drewN ?_ _ | (with_reducible refine Below.setCell ?_ ?_ _; rotate_left; (first | omega | (simp <;> omega))) | (with_reducible refine Below.alloc ?_ ?_ _; rotate_left; (first | omega | (simp <;> omega)))))))).mono ?_
  rintro e w6 ⟨vx, ux, rfl, hvx, hux, hb6⟩
  obtain ⟨B56, _, s56⟩ := step_alloc hb6
  rw [Tr.ren_borders] at hux
  obtain ⟨xb, xo, xc, rfl, hxb, hxc⟩ := spots_ren hvx
  have HX := Lib.hid hxc
  have HUX := Lib.hid hux
  have N7 := Lib.hid (N7.out.below B56)
  have NV := Lib.hid (NV.out.below B56)
  have HP := Lib.hid (Rd.below HP.out B56 (Nat.le_refl _))
  have G7 := Lib.hid ((B56.block _ (by omega)).trans G7.out)
  have G11 := Lib.hid ((B56.block _ (by omega)).trans G11.out)
  have BW6 := Lib.hid (BW5.out.trans (B56.mono BW5.out.size))
  clear c9
  have c7 := cell_block G7.out 0
  clear hb6 B56 BW5 hvx hux hxc z9 G9 NU
  go_wp2_with fail
  go_at_call 11
  refine (Try.rplaces2_ok T WT.out _ 30 20 _ GR.out.fits (by omega) (by omega) N7.out).mono ?_
  rintro e w7 ⟨vy, uy, rfl, hvy, huy, B67⟩
  have s67 := B67.size
  have l0 : 0 < (T.spots (whole 30 20)).length ∧ (T.spots (whole 30 20)).length ≤ 63 := by rw [Tr.spots_length]; have := T.panes_length; have := T.size_pos; have := WT.out.size; omega
  have l1 : (T.borders (whole 30 20)).length ≤ 63 := by have := Tr.borders_length T (whole 30 20); have := T.panes_length; have := T.size_pos; have := WT.out.size; omega
  obtain ⟨yb, yo, yc, rfl, hyb, hyc⟩ := hvy.at l0.1
  obtain ⟨U1, uc1, rfl, _⟩ := Rd.val HUX.out
  obtain ⟨U2, uc2, rfl, _⟩ := Rd.val huy
  have HY := Lib.hid hyc
  have HUY := Lib.hid huy
  have HUX := Lib.hid (Rd.below HUX.out B67 (Nat.le_refl _))
  have N7 := Lib.hid (N7.out.below B67)
  have NV := Lib.hid (NV.out.below B67)
  have G7 := Lib.hid ((B67.block _ (by omega)).trans G7.out)
  have G11 := Lib.hid ((B67.block _ (by omega)).trans G11.out)
  have BW7 := Lib.hid (BW6.out.trans (B67.mono BW6.out.size))
  have B67 := Lib.hid B67
  clear c7
  have c7 := cell_block G7.out 0
  have c11 := cell_block G11.out 0
  have hST := Lib.hid (Try.sametree_ok (T.nodes 0) _ _ w7 (by rw [Tr.nodes_length]; have := WT.out.size; omega) NV.out N7.out)
  have hRC := Lib.hid (fun w' (h : Below w7.heap.size w7 w') => Try.rects_ok (T.borders (whole 30 20)) _ _ w' (by omega) (Rd.below HUX.out h (Nat.le_refl _)) (Rd.below HUY.out h (Nat.le_refl _)))
  clear hvy hyc huy BW6 GR WU
  generalize T.spots (whole 30 20) = l at *
  generalize T.borders (whole 30 20) = bl at *
  go_wp2_with (first
    | ((go_at_call 15; with_reducible refine (hST.out).mono ?_; rintro e w8 ⟨rfl, hb8⟩; have s78 := hb8.size))
    | ((go_at_call 19; with_reducible refine (hRC.out _ hb8).mono ?_; rintro e w9 ⟨rfl, hb9⟩)))
  have B79 : Below w7.heap.size w7 w9 := hb8.trans (hb9.mono hb8.size)
  have B69 : Below w6.heap.size w6 w9 := B67.out.trans (B79.mono s67)
  have HB9 := Lib.hid (BW7.out.trans (B79.mono BW7.out.size))
  have HX9 := Lib.hid B69
  have HY9 := Lib.hid B79
  clear c7 c11 hb8 hb9 B79 B69 hST hRC BW7 NV N7 G7 G11 HUX HUY
  obtain ⟨l0, l2⟩ := l0
  go_loopg [21, 22, 113] l.length (fun gg s21 s22 s113 wr => ∃ i : Nat, i ≤ l.length ∧ l.length - i ≤ gg ∧ s113 = .int .i64 i ∧ Aside (Below w9.heap.size w9 wr))
  case atStart => exact ⟨0, Nat.zero_le _, by omega, rfl, Below.refl _ _⟩
  case round =>
    obtain ⟨i, hi, hg, rfl, BW⟩ := hrel
    by_cases hlt : i < l.length
    · have hltz : (i : Int) < (l.length : Int) := by omega
      have i0 : (0 : Int) ≤ (i : Int) := by omega
      have bx := fun o => BW.out.cell (p := ⟨xb, o, none⟩) (Nat.lt_of_lt_of_le hxb (HX9.out.size))
      have by' := fun o => BW.out.cell (p := ⟨yb, o, none⟩) (Nat.lt_of_lt_of_le hyb (HY9.out.size))
      have bx2 := fun o => HX9.out.cell (p := ⟨xb, o, none⟩) hxb
      have by2 := fun o => HY9.out.cell (p := ⟨yb, o, none⟩) hyb
      obtain ⟨p0, p1, p2, p3, p4⟩ := HX.out i hlt
      obtain ⟨q0, q1, q2, q3, q4⟩ := HY.out i hlt
      have c0 := (bx _).trans ((bx2 _).trans p0); have c1 := (bx _).trans ((bx2 _).trans p1); have c2 := (bx _).trans ((bx2 _).trans p2); have c3 := (bx _).trans ((bx2 _).trans p3); have c4 := (bx _).trans ((bx2 _).trans p4)
      have d0 := (by' _).trans ((by2 _).trans q0); have d1 := (by' _).trans ((by2 _).trans q1); have d2 := (by' _).trans ((by2 _).trans q2); have d3 := (by' _).trans ((by2 _).trans q3); have d4 := (by' _).trans ((by2 _).trans q4)
      clear p0 p1 p2 p3 p4 q0 q1 q2 q3 q4 bx by' bx2 by2
      generalize l[i] = x at c0 c1 c2 c3 c4 d0 d1 d2 d3 d4
      obtain ⟨xp, x0, x1, x2, x3⟩ := x
      simp only at c0 c1 c2 c3 c4 d0 d1 d2 d3 d4
      by_cases e1 : xp = qa
      · subst e1
        have es : sw xp qb xp = qb := by simp [sw]
        rw [es] at c0
        clear es
        go_wp2_with fail
        go_quiet (fail)
        go_wp2
        go_roundg (l.length - (i + 1))
        case measure => omega
        case rel => exact ⟨i + 1, by omega, by omega, by go_num, ⟨BW.out.os, BW.out.tape, BW.out.output, BW.out.size, BW.out.block⟩⟩
      · by_cases e2 : xp = qb
        · subst e2
          have es : sw qa xp xp = qa := by simp [sw, e1]
          rw [es] at c0
          have f1 : (xp == qa) = false := by simpa using e1
          clear es
          go_wp2_with fail
          go_quiet (fail)
          go_wp2
          go_roundg (l.length - (i + 1))
          case measure => omega
          case rel => exact ⟨i + 1, by omega, by omega, by go_num, ⟨BW.out.os, BW.out.tape, BW.out.output, BW.out.size, BW.out.block⟩⟩
        · have es : sw qa qb xp = xp := by simp [sw, e1, e2]
          rw [es] at c0
          have f1 : (xp == qa) = false := by simpa using e1
          have f2 : (xp == qb) = false := by simpa using e2
          clear es
          go_wp2_with fail
          go_quiet (fail)
          go_wp2
          go_roundg (l.length - (i + 1))
          case measure => omega
          case rel => exact ⟨i + 1, by omega, by omega, by go_num, ⟨BW.out.os, BW.out.tape, BW.out.output, BW.out.size, BW.out.block⟩⟩
    · have hltz : ¬ (i : Int) < (l.length : Int) := by omega
      have hSN := Lib.hid (fun w' => Try.sameints_no L pc ⟨pb, po, none⟩ w' m5)
      go_wp2_with (first
        | ((go_at_call 20; with_reducible refine (hSN.out _).mono ?_; rintro e w10 ⟨rfl, rfl⟩))
        | ((go_at_call 12; refine (hA.out _).mono ?_; rintro e w11 ⟨rfl, hb11⟩)))
      go_ret
      exact ⟨rfl, HB9.out.trans ((BW.out.trans (hb11.mono BW.out.size)).mono HB9.out.size)⟩
end Go.Proofs
namespace Go.Proofs.Ytkcibhokjiciiaa.treeSwaps
open Go.ChangeShapes Go.WideShapes Go.ChangeAt Go.RowKit

theorem own : ownKnob Try.prog.godebug = none := by kernel_rfl
theorem tidy : Cm.Tidy Try.prog := Cm.tidy_of Try.prog (by kernel_rfl) (by kernel_rfl) (by kernel_rfl) (by kernel_rfl)
theorem fnIs (H : Type) : ∀ ds : List (DataW H), ds.length = Try.f4.params.size → Rows.treeSwapsSpec.fn H ds = { results := [.lit (.bool true)], args := ds }
  | [_, _, _], _ => rfl
  | [], h => by cases h
  | [_], h => by cases h
  | [_, _], h => by cases h
  | _ :: _ :: _ :: _ :: _, h => by
    have : Try.f4.params.size = 3 := rfl
    simp only [List.length_cons, this] at h
    omega

theorem law (cs : List Value) (hcs : Cm.HasArgs [.slice (.int .i64), .int .i64, .int .i64] cs) (W : World) (args : Array Value) (hc : Cm.Colds (fun b => W.heap[b]?) cs args.toList) :
    Calls Try.prog 4 args W fun e W' => e = .returned (.bool true) ∧ Below W.heap.size W W' := by
  obtain ⟨x0, r0, h0, ⟨x1, r1, h1, ⟨x2, r2, h2, hr, rfl⟩, rfl⟩, rfl⟩ := hcs
  have hr : r2 = [] := hr
  subst hr
  obtain ⟨al⟩ := args
  cases hc with
  | cons _ y0 _ l0 c0 hl0 =>
    cases hl0 with
    | cons _ y1 _ l1 c1 hl1 =>
      cases hl1 with
      | cons _ y2 _ l2 c2 hl2 =>
        cases hl2
        obtain ⟨xs0, b0, e0⟩ := Cl.ints_in h0 c0
        obtain ⟨a1, w1, rfl⟩ := Cl.int_in h1 c1
        obtain ⟨a2, w2, rfl⟩ := Cl.int_in h2 c2
        exact Try.swaps_ok Cl.awake xs0 y0 a1 a2 W b0 e0

set_option maxRecDepth 100000 in
theorem lifted (os : Os) (started : os.Started) (H : Type) (enc : TypeId × Value → H) :
    ReturnsInHanded {} Try.checked os 4 .any (Rows.treeSwapsSpec.pre6 enc Try.prog Try.f4 Rows.treeSwapsRow.domain false) (Rows.treeSwapsSpec.post enc Try.prog Try.f4 false true false false) := by
  refine returnsInHanded_of_change (C := Try.checked) own started (by kernel_rfl) Try.func4
    (ChangeSpec.witness6 (enc := enc) (C := Try.checked) false ⟨#[], #[.slice none 0 0, .int .i64 0, .int .i64 0], []⟩ 8 (by kernel_rfl) (by kernel_rfl) (by kernel_rfl) (by kernel_rfl)) ?_
  intro W base args ds gs before hval0 hW hcnd _
  exact Cm.law_post tidy [.slice (.int .i64), .int .i64, .int .i64] rfl (fnIs H) rfl Try.underlying4 (by kernel_rfl) (by kernel_rfl) law W base args ds gs before hval0 hW

theorem fa : (Rows.treeSwapsRow.inPlace == Try.pinned.checked.prog.inPlace 4) = true := by kernel_rfl
theorem fb : (Rows.treeSwapsRow.unfollowed == Try.pinned.checked.prog.unfollowed 4) = true := by kernel_rfl
theorem fc : (Rows.treeSwapsRow.recurses == Try.pinned.checked.prog.recurses 4) = true := by kernel_rfl
theorem fd : (Rows.treeSwapsRow.named == Try.pinned.checked.prog.varsNamed 4) = true := by kernel_rfl
set_option maxHeartbeats 4000000 in
theorem facts : joinedFacts Try.pinned.checked.prog 4 Try.f4 Rows.treeSwapsSpec Rows.treeSwapsRow = true := by
  unfold joinedFacts
  simp only [Bool.and_eq_true]
  repeat' apply And.intro
  all_goals first
    | with_reducible exact fa
    | with_reducible exact fb
    | with_reducible exact fc
    | with_reducible exact fd
    | kernel_rfl

theorem over : Rows.treeSwapsRow.holds Try.pinned (OpenSpec.ofChange Rows.treeSwapsSpec) :=
  OpenClaim.holds_of_wide 4 Try.f4 rfl rfl rfl rfl rfl rfl rfl ⟨rfl, rfl, rfl, rfl, rfl⟩ rfl rfl rfl rfl rfl (by kernel_rfl) Try.func4 facts
    (of_decide_eq_true (by kernel_rfl)) (by unfold Func.isWrapper; first | (rw [if_pos (by decide +kernel)]; kernel_rfl) | (rw [if_neg (by decide +kernel)]; exact ⟨rfl, rfl⟩))
    (fun os started H enc _ => lifted os started H enc)

/-- ████ THE STATEMENT ████ -/
theorem proved : Rows.TreeSwapsSaid :=
  over
end Go.Proofs.Ytkcibhokjiciiaa.treeSwaps
