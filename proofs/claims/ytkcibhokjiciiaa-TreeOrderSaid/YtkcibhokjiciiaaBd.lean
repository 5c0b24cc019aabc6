/-
  The document's answer for rectangles: Cut.
-/
import Derived.Test.YtkcibhokjiciiaaBw
import Derived.Test.YtkcibhokjiciiaaBc
import Derived.Tactics
import Derived.Tactics2
import Derived.Deep.RegionHeld3
import Derived.Deep.DeepCutAuto
namespace Tp
open Go Go.RowKit
theorem three_new (w : World) (A B C : Obj) : (((w.alloc A).alloc B).alloc C).heap[w.heap.size]? = some A ∧ (((w.alloc A).alloc B).alloc C).heap[w.heap.size + 1]? = some B ∧ (((w.alloc A).alloc B).alloc C).heap[w.heap.size + 1 + 1]? = some C ∧ Below w.heap.size w (((w.alloc A).alloc B).alloc C) := by
  obtain ⟨h1, h2, h3, h4⟩ := two_new w A B
  refine ⟨?_, ?_, ?_, h3.alloc (by omega) _⟩
  · rw [Below.heap_alloc _ _ _ (by omega)]; exact h2
  · rw [Below.heap_alloc _ _ _ (by omega)]; exact h1
  · have := heap_alloc_new ((w.alloc A).alloc B) C
    rw [h4] at this; exact this
end Tp
namespace Go.Proofs
open Go.RowKit Go.Lib Go.Sort Tp
attribute [local go_sem ↓] Go.wp_at_zero Go.wp_at_succ

set_option maxRecDepth 100000 in
set_option maxHeartbeats 4000000 in
theorem Try.rcut1 (x y rw rh f : Int) (h0 : 0 ≤ x) (h1 : 0 ≤ y) (h2 : 0 ≤ rw) (h3 : 0 ≤ rh) (h4 : x ≤ 1000) (h5 : y ≤ 1000) (h6 : rw ≤ 1000) (h7 : rh ≤ 1000) (hf : 1 ≤ f) (hf2 : f ≤ rw - 2) (w : World) :
    Calls Try.prog 57 #[.agg #[.int .i64 x, .int .i64 y, .int .i64 rw, .int .i64 rh], .int .i64 1, .int .i64 f] w fun e w' =>
      e = .returned (.tuple #[.agg #[.int .i64 (x), .int .i64 (y), .int .i64 (f), .int .i64 (rh)], .agg #[.int .i64 (x + f), .int .i64 (y), .int .i64 (1), .int .i64 (rh)], .agg #[.int .i64 (x + f + 1), .int .i64 (y), .int .i64 (rw - 1 - f), .int .i64 (rh)], .bool true]) ∧ Below w.heap.size w w' := by
  have e1 : decide (f < 1) = false := by simp; omega
  have e2 : decide (f ≤ rw - 2) = true := by simp; omega
  have hw1 : IntKind.i64.wrap (x + f) = x + f := IntWalk.i64_in _ (by omega)
  have hw2 : IntKind.i64.wrap (x + f + 1) = x + f + 1 := IntWalk.i64_in _ (by omega)
  have hw3 : IntKind.i64.wrap (rw - 1) = rw - 1 := IntWalk.i64_in _ (by omega)
  have hw4 : IntKind.i64.wrap (rw - 1 - f) = rw - 1 - f := IntWalk.i64_in _ (by omega)
  have hw5 : IntKind.i64.wrap (rw - 2) = rw - 2 := IntWalk.i64_in _ (by omega)
  go_enter Try.func57, Try.ntmps57
  go_upto_region 3 with (go_at_call 35; refine (Try.rnone_ok _ _ _ _ ?_ ?_ ?_ ?_ ?_ ?_ ?_ ?_ _).mono ?_; assumption; assumption; assumption; assumption; assumption; assumption; assumption; assumption; rintro e w1 ⟨rfl, rfl⟩)
  obtain ⟨wq, hwq⟩ : ∃ wq, wq = ((((w.alloc (.cells #[.int .i64 x, .int .i64 y, .int .i64 rw, .int .i64 rh] 37)).alloc (.cells #[.int .i64 0, .int .i64 0, .int .i64 0, .int .i64 0] 37)).alloc (.cells #[.int .i64 0, .int .i64 0, .int .i64 0, .int .i64 0] 37)).alloc (.cells #[.int .i64 0, .int .i64 0, .int .i64 0, .int .i64 0] 37)).alloc (.cells #[.int .i64 x, .int .i64 y, .int .i64 rw, .int .i64 rh] 37) := ⟨_, rfl⟩
  have HQ : Below w.heap.size w wq := by rw [hwq]; repeat (first | with_reducible assumption | with_reducible exact Below.refl _ _ | with_reducible refine Below.drew ?_ | (with_reducible refine Below.setCell ?_ ?_ _; rotate_left; (first | omega | (simp <;> omega))) | (with_reducible refine Below.alloc ?_ ?_ _; rotate_left; (first | omega | (simp <;> omega))))
  have H1 : Below (w.heap.size + 1) (w.alloc (.cells #[.int .i64 x, .int .i64 y, .int .i64 rw, .int .i64 rh] 37)) wq := by rw [hwq]; repeat (first | with_reducible assumption | with_reducible exact Below.refl _ _ | with_reducible refine Below.drew ?_ | (with_reducible refine Below.setCell ?_ ?_ _; rotate_left; (first | omega | (simp <;> omega))) | (with_reducible refine Below.alloc ?_ ?_ _; rotate_left; (first | omega | (simp <;> omega))))
  have H2 : Below (w.heap.size + 1 + 1) ((w.alloc (.cells #[.int .i64 x, .int .i64 y, .int .i64 rw, .int .i64 rh] 37)).alloc (.cells #[.int .i64 0, .int .i64 0, .int .i64 0, .int .i64 0] 37)) wq := by rw [hwq]; repeat (first | with_reducible assumption | with_reducible exact Below.refl _ _ | with_reducible refine Below.drew ?_ | (with_reducible refine Below.setCell ?_ ?_ _; rotate_left; (first | omega | (simp <;> omega))) | (with_reducible refine Below.alloc ?_ ?_ _; rotate_left; (first | omega | (simp <;> omega))))
  have H3 : Below (w.heap.size + 1 + 1 + 1) (((w.alloc (.cells #[.int .i64 x, .int .i64 y, .int .i64 rw, .int .i64 rh] 37)).alloc (.cells #[.int .i64 0, .int .i64 0, .int .i64 0, .int .i64 0] 37)).alloc (.cells #[.int .i64 0, .int .i64 0, .int .i64 0, .int .i64 0] 37)) wq := by rw [hwq]; repeat (first | with_reducible assumption | with_reducible exact Below.refl _ _ | with_reducible refine Below.drew ?_ | (with_reducible refine Below.setCell ?_ ?_ _; rotate_left; (first | omega | (simp <;> omega))) | (with_reducible refine Below.alloc ?_ ?_ _; rotate_left; (first | omega | (simp <;> omega))))
  have H4 : Below (w.heap.size + 4) ((((w.alloc (.cells #[.int .i64 x, .int .i64 y, .int .i64 rw, .int .i64 rh] 37)).alloc (.cells #[.int .i64 0, .int .i64 0, .int .i64 0, .int .i64 0] 37)).alloc (.cells #[.int .i64 0, .int .i64 0, .int .i64 0, .int .i64 0] 37)).alloc (.cells #[.int .i64 0, .int .i64 0, .int .i64 0, .int .i64 0] 37)) wq := by rw [hwq]; repeat (first | with_reducible assumption | with_reducible exact Below.refl _ _ | with_reducible refine Below.drew ?_ | (with_reducible refine Below.setCell ?_ ?_ _; rotate_left; (first | omega | (simp <;> omega))) | (with_reducible refine Below.alloc ?_ ?_ _; rotate_left; (first | omega | (simp <;> omega))))
  have r0 := (H1.block w.heap.size (by omega)).trans (heap_alloc_new w _)
  have r1 := (H2.block (w.heap.size + 1) (by omega)).trans (two_new w _ _).1
  have r2 : wq.heap[w.heap.size + 1 + 1]? = some (.cells #[.int .i64 0, .int .i64 0, .int .i64 0, .int .i64 0] 37) := (H3.block (w.heap.size + 1 + 1) (by omega)).trans (by have := heap_alloc_new ((w.alloc (.cells #[.int .i64 x, .int .i64 y, .int .i64 rw, .int .i64 rh] 37)).alloc (.cells #[.int .i64 0, .int .i64 0, .int .i64 0, .int .i64 0] 37)) (.cells #[.int .i64 0, .int .i64 0, .int .i64 0, .int .i64 0] 37); simpa using this)
  have r3 : wq.heap[w.heap.size + 1 + 1 + 1]? = some (.cells #[.int .i64 0, .int .i64 0, .int .i64 0, .int .i64 0] 37) := (H4.block (w.heap.size + 1 + 1 + 1) (by omega)).trans (by have := heap_alloc_new (((w.alloc (.cells #[.int .i64 x, .int .i64 y, .int .i64 rw, .int .i64 rh] 37)).alloc (.cells #[.int .i64 0, .int .i64 0, .int .i64 0, .int .i64 0] 37)).alloc (.cells #[.int .i64 0, .int .i64 0, .int .i64 0, .int .i64 0] 37)) (.cells #[.int .i64 0, .int .i64 0, .int .i64 0, .int .i64 0] 37); simpa using this)
  have hsq : wq.heap.size = w.heap.size + 5 := by rw [hwq]; simp
  rw [← hwq]
  have z0 := cell_block r0 0
  have z1 := cell_block r0 1
  have z2 := cell_block r0 2
  have z3 := cell_block r0 3
  have R0 := Lib.hid r0; have R1 := Lib.hid r1; have R2 := Lib.hid r2; have R3 := Lib.hid r3; have HQ := Lib.hid HQ
  have K4 := Lib.hid (keep4 (B := wq.heap.size) z0 (by show w.heap.size < _; omega) z1 (by show w.heap.size < _; omega) z2 (by show w.heap.size < _; omega) z3 (by show w.heap.size < _; omega))
  have hsl : w.heap.size + 5 ≤ wq.heap.size := by omega
  clear hsq hwq H1 H2 H3 H4 r0 r1 r2 r3
  go_cut [10, 11, 12] (fun s10 s11 s12 wx => ∃ ga gm gb : Nat, s10 = .pointer (some ⟨ga, 0, none⟩) ∧ s11 = .pointer (some ⟨gm, 0, none⟩) ∧ s12 = .pointer (some ⟨gb, 0, none⟩) ∧
    wx.heap[ga]? = some (.cells #[.int .i64 x, .int .i64 y, .int .i64 rw, .int .i64 rh] 37) ∧ wx.heap[gm]? = some (.cells #[.int .i64 x, .int .i64 y, .int .i64 rw, .int .i64 rh] 37) ∧ wx.heap[gb]? = some (.cells #[.int .i64 x, .int .i64 y, .int .i64 rw, .int .i64 rh] 37) ∧ ga ≠ gm ∧ ga ≠ gb ∧ gm ≠ gb ∧ wq.heap.size ≤ ga ∧ wq.heap.size ≤ gm ∧ wq.heap.size ≤ gb ∧ Below wq.heap.size wq wx)
  case first =>
    go_region_held3 (fun w' => Below wq.heap.size wq w' ∧ w'.cell? ⟨w.heap.size, 0, none⟩ = some (.int .i64 x) ∧ w'.cell? ⟨w.heap.size, 1, none⟩ = some (.int .i64 y) ∧ w'.cell? ⟨w.heap.size, 2, none⟩ = some (.int .i64 rw) ∧ w'.cell? ⟨w.heap.size, 3, none⟩ = some (.int .i64 rh)) ((refine K4.out _ ?_; repeat (first | with_reducible assumption | with_reducible exact Below.refl _ _ | with_reducible refine Below.drew ?_ | (with_reducible refine Below.setCell ?_ ?_ _; rotate_left; (first | omega | (simp <;> omega))) | (with_reducible refine Below.alloc ?_ ?_ _; rotate_left; (first | omega | (simp <;> omega)))))) (fail)
    all_goals (go_wp2_with fail)
    all_goals go_meet
    all_goals (obtain ⟨n0, n1, n2, n3⟩ := three_new wq (.cells #[.int .i64 x, .int .i64 y, .int .i64 rw, .int .i64 rh] 37) (.cells #[.int .i64 x, .int .i64 y, .int .i64 rw, .int .i64 rh] 37) (.cells #[.int .i64 x, .int .i64 y, .int .i64 rw, .int .i64 rh] 37))
    all_goals (refine ⟨_, _, _, rfl, rfl, rfl, ?_, ?_, ?_, ?_, ?_, ?_, ?_, ?_, ?_, ?_⟩)
    all_goals (first | exact n0 | exact n1 | exact n2 | exact n3.drew | omega)
  case rest =>
    obtain ⟨ga, gm, gb, rfl, rfl, rfl, ha, hm, hb, n1, n2, n3, l1, l2, l3, hB⟩ := hcut
    have B0 := Lib.hid ((hB.block w.heap.size (by omega)).trans R0.out)
    have B1 := Lib.hid ((hB.block (w.heap.size + 1) (by omega)).trans R1.out)
    have B2 := Lib.hid ((hB.block (w.heap.size + 1 + 1) (by omega)).trans R2.out)
    have B3 := Lib.hid ((hB.block (w.heap.size + 1 + 1 + 1) (by omega)).trans R3.out)
    have y0 := cell_block B0.out 0; have y1 := cell_block B0.out 1; have y2 := cell_block B0.out 2; have y3 := cell_block B0.out 3
    have a2 := cell_block ha 2; have m2 := cell_block hm 2; have b2 := cell_block hb 2
    have fa2 := free_block ha 2; have fm2 := free_block hm 2; have fb2 := free_block hb 2
    have a0 := cell_block ha 0; have m0 := cell_block hm 0; have b0 := cell_block hb 0
    have fa0 := free_block ha 0; have fm0 := free_block hm 0; have fb0 := free_block hb 0
    have g1 : ga ≠ w.heap.size := by omega
    have g2 : gm ≠ w.heap.size := by omega
    have g3 : gb ≠ w.heap.size := by omega
    have HA := Lib.hid ha; have HM := Lib.hid hm; have HBb := Lib.hid hb; have HBc := Lib.hid hB
    clear ha hm hb hB z0 z1 z2 z3
    go_wp2_with fail
    go_region_held3 (fun w' => w'.cell? ⟨w.heap.size, 0, none⟩ = some (.int .i64 x) ∧ w'.cell? ⟨w.heap.size, 1, none⟩ = some (.int .i64 y) ∧ w'.cell? ⟨w.heap.size, 2, none⟩ = some (.int .i64 rw) ∧ w'.cell? ⟨w.heap.size, 3, none⟩ = some (.int .i64 rh)) (go_keep) (fail)
    go_wp2_with fail
    go_region_held3 (fun w' => w'.cell? ⟨w.heap.size, 0, none⟩ = some (.int .i64 x) ∧ w'.cell? ⟨w.heap.size, 1, none⟩ = some (.int .i64 y) ∧ w'.cell? ⟨w.heap.size, 2, none⟩ = some (.int .i64 rw) ∧ w'.cell? ⟨w.heap.size, 3, none⟩ = some (.int .i64 rh)) (go_keep) (fail)
    have GA : (((((wc.setCell ⟨ga, 2, none⟩ (.int .i64 f)).setCell ⟨gm, 2, none⟩ (.int .i64 1)).setCell ⟨gb, 2, none⟩ (.int .i64 (rw - 1 - f))).setCell ⟨gm, 0, none⟩ (.int .i64 (x + f))).setCell ⟨gb, 0, none⟩ (.int .i64 (x + f + 1))).drew.drew.heap[ga]? = some (.cells #[.int .i64 (x), .int .i64 (y), .int .i64 (f), .int .i64 (rh)] 37) :=
      (Below.heap_setCell _ _ _ _ n2).trans ((Below.heap_setCell _ _ _ _ n1).trans ((Below.heap_setCell _ _ _ _ n2).trans ((Below.heap_setCell _ _ _ _ n1).trans (heap_set HA.out (j := 2) (.int .i64 f)))))
    have GM : (((((wc.setCell ⟨ga, 2, none⟩ (.int .i64 f)).setCell ⟨gm, 2, none⟩ (.int .i64 1)).setCell ⟨gb, 2, none⟩ (.int .i64 (rw - 1 - f))).setCell ⟨gm, 0, none⟩ (.int .i64 (x + f))).setCell ⟨gb, 0, none⟩ (.int .i64 (x + f + 1))).drew.drew.heap[gm]? = some (.cells #[.int .i64 (x + f), .int .i64 (y), .int .i64 (1), .int .i64 (rh)] 37) :=
      (Below.heap_setCell _ _ _ _ n3).trans (heap_set ((Below.heap_setCell _ _ _ _ n3).trans (heap_set ((Below.heap_setCell _ _ _ _ (Ne.symm n1)).trans HM.out) (j := 2) (.int .i64 1))) (j := 0) (.int .i64 (x + f)))
    have GB : (((((wc.setCell ⟨ga, 2, none⟩ (.int .i64 f)).setCell ⟨gm, 2, none⟩ (.int .i64 1)).setCell ⟨gb, 2, none⟩ (.int .i64 (rw - 1 - f))).setCell ⟨gm, 0, none⟩ (.int .i64 (x + f))).setCell ⟨gb, 0, none⟩ (.int .i64 (x + f + 1))).drew.drew.heap[gb]? = some (.cells #[.int .i64 (x + f + 1), .int .i64 (y), .int .i64 (rw - 1 - f), .int .i64 (rh)] 37) :=
      heap_set ((Below.heap_setCell _ _ _ _ (Ne.symm n3)).trans (heap_set ((Below.heap_setCell _ _ _ _ (Ne.symm n3)).trans ((Below.heap_setCell _ _ _ _ (Ne.symm n2)).trans HBb.out)) (j := 2) (.int .i64 (rw - 1 - f)))) (j := 0) (.int .i64 (x + f + 1))
    have HZ : Below wq.heap.size wq (((((wc.setCell ⟨ga, 2, none⟩ (.int .i64 f)).setCell ⟨gm, 2, none⟩ (.int .i64 1)).setCell ⟨gb, 2, none⟩ (.int .i64 (rw - 1 - f))).setCell ⟨gm, 0, none⟩ (.int .i64 (x + f))).setCell ⟨gb, 0, none⟩ (.int .i64 (x + f + 1))).drew.drew :=
      ((((((HBc.out.setCell (p := ⟨ga, 2, none⟩) l1 _).setCell (p := ⟨gm, 2, none⟩) l2 _).setCell (p := ⟨gb, 2, none⟩) l3 _).setCell (p := ⟨gm, 0, none⟩) l2 _).setCell (p := ⟨gb, 0, none⟩) l3 _).drew).drew
    clear a2 a0 m2 m0 b2 b0 fa2 fa0 fm2 fm0 fb2 fb0 y0 y1 y2 y3
    generalize (((((wc.setCell ⟨ga, 2, none⟩ (.int .i64 f)).setCell ⟨gm, 2, none⟩ (.int .i64 1)).setCell ⟨gb, 2, none⟩ (.int .i64 (rw - 1 - f))).setCell ⟨gm, 0, none⟩ (.int .i64 (x + f))).setCell ⟨gb, 0, none⟩ (.int .i64 (x + f + 1))).drew.drew = wz at *
    have C1 := (HZ.block (w.heap.size + 1) (by omega)).trans R1.out
    have C2 := (HZ.block (w.heap.size + 1 + 1) (by omega)).trans R2.out
    have C3 := (HZ.block (w.heap.size + 1 + 1 + 1) (by omega)).trans R3.out
    have pa0 := cell_block GA 0
    have pa1 := cell_block GA 1
    have pa2 := cell_block GA 2
    have pa3 := cell_block GA 3
    have pm0 := cell_block GM 0
    have pm1 := cell_block GM 1
    have pm2 := cell_block GM 2
    have pm3 := cell_block GM 3
    have pb0 := cell_block GB 0
    have pb1 := cell_block GB 1
    have pb2 := cell_block GB 2
    have pb3 := cell_block GB 3
    have s0 := cell_block C1 0
    have s1 := cell_block C1 1
    have s2 := cell_block C1 2
    have s3 := cell_block C1 3
    have t0 := cell_block C2 0
    have t1 := cell_block C2 1
    have t2 := cell_block C2 2
    have t3 := cell_block C2 3
    have u0 := cell_block C3 0
    have u1 := cell_block C3 1
    have u2 := cell_block C3 2
    have u3 := cell_block C3 3
    have fs0 := free_block C1 0
    have fs1 := free_block C1 1
    have fs2 := free_block C1 2
    have fs3 := free_block C1 3
    have ft0 := free_block C2 0
    have ft1 := free_block C2 1
    have ft2 := free_block C2 2
    have ft3 := free_block C2 3
    have fu0 := free_block C3 0
    have fu1 := free_block C3 1
    have fu2 := free_block C3 2
    have fu3 := free_block C3 3
    have o1 : ga ≠ w.heap.size + 1 := by omega
    have o2 : ga ≠ w.heap.size + 1 + 1 := by omega
    have o3 : ga ≠ w.heap.size + 1 + 1 + 1 := by omega
    have o4 : gm ≠ w.heap.size + 1 := by omega
    have o5 : gm ≠ w.heap.size + 1 + 1 := by omega
    have o6 : gm ≠ w.heap.size + 1 + 1 + 1 := by omega
    have o7 : gb ≠ w.heap.size + 1 := by omega
    have o8 : gb ≠ w.heap.size + 1 + 1 := by omega
    have o9 : gb ≠ w.heap.size + 1 + 1 + 1 := by omega
    have GA := Lib.hid GA; have GM := Lib.hid GM; have GB := Lib.hid GB; have HZ := Lib.hid HZ
    go_wp2_with fail
    have j1 : ga ∉ [w.heap.size + 1, w.heap.size + 1 + 1, w.heap.size + 1 + 1 + 1] := by simp only [List.mem_cons, List.not_mem_nil, or_false, not_or]; exact ⟨o1, o2, o3⟩
    have j2 : gm ∉ [w.heap.size + 1, w.heap.size + 1 + 1, w.heap.size + 1 + 1 + 1] := by simp only [List.mem_cons, List.not_mem_nil, or_false, not_or]; exact ⟨o4, o5, o6⟩
    have j3 : gb ∉ [w.heap.size + 1, w.heap.size + 1 + 1, w.heap.size + 1 + 1 + 1] := by simp only [List.mem_cons, List.not_mem_nil, or_false, not_or]; exact ⟨o7, o8, o9⟩
    have K12 := Lib.hid (fun w' (h : Tch [w.heap.size + 1, w.heap.size + 1 + 1, w.heap.size + 1 + 1 + 1] wz w') => And.intro h (And.intro ((h.cell (p := ⟨ga, 0, none⟩) j1).trans pa0) (And.intro ((h.cell (p := ⟨ga, 1, none⟩) j1).trans pa1) (And.intro ((h.cell (p := ⟨ga, 2, none⟩) j1).trans pa2) (And.intro ((h.cell (p := ⟨ga, 3, none⟩) j1).trans pa3) (And.intro ((h.cell (p := ⟨gm, 0, none⟩) j2).trans pm0) (And.intro ((h.cell (p := ⟨gm, 1, none⟩) j2).trans pm1) (And.intro ((h.cell (p := ⟨gm, 2, none⟩) j2).trans pm2) (And.intro ((h.cell (p := ⟨gm, 3, none⟩) j2).trans pm3) (And.intro ((h.cell (p := ⟨gb, 0, none⟩) j3).trans pb0) (And.intro ((h.cell (p := ⟨gb, 1, none⟩) j3).trans pb1) (And.intro ((h.cell (p := ⟨gb, 2, none⟩) j3).trans pb2) ((h.cell (p := ⟨gb, 3, none⟩) j3).trans pb3)))))))))))))
    clear pa0 pa1 pa2 pa3 pm0 pm1 pm2 pm3 pb0 pb1 pb2 pb3 j1 j2 j3
    go_region_held3 (fun w' => Tch [w.heap.size + 1, w.heap.size + 1 + 1, w.heap.size + 1 + 1 + 1] wz w' ∧ w'.cell? ⟨ga, 0, none⟩ = some (.int .i64 (x)) ∧ w'.cell? ⟨ga, 1, none⟩ = some (.int .i64 (y)) ∧ w'.cell? ⟨ga, 2, none⟩ = some (.int .i64 (f)) ∧ w'.cell? ⟨ga, 3, none⟩ = some (.int .i64 (rh)) ∧ w'.cell? ⟨gm, 0, none⟩ = some (.int .i64 (x + f)) ∧ w'.cell? ⟨gm, 1, none⟩ = some (.int .i64 (y)) ∧ w'.cell? ⟨gm, 2, none⟩ = some (.int .i64 (1)) ∧ w'.cell? ⟨gm, 3, none⟩ = some (.int .i64 (rh)) ∧ w'.cell? ⟨gb, 0, none⟩ = some (.int .i64 (x + f + 1)) ∧ w'.cell? ⟨gb, 1, none⟩ = some (.int .i64 (y)) ∧ w'.cell? ⟨gb, 2, none⟩ = some (.int .i64 (rw - 1 - f)) ∧ w'.cell? ⟨gb, 3, none⟩ = some (.int .i64 (rh))) ((refine K12.out _ ?_; repeat (first | with_reducible exact Tch.refl _ _ | with_reducible refine Tch.drew ?_ | (with_reducible refine Tch.setCell ?_ ?_ _; rotate_left; simp)))) (fail)
    go_wp2
    refine bodyPost_ret (v := .tuple #[.agg #[.int .i64 (x), .int .i64 (y), .int .i64 (f), .int .i64 (rh)], .agg #[.int .i64 (x + f), .int .i64 (y), .int .i64 (1), .int .i64 (rh)], .agg #[.int .i64 (x + f + 1), .int .i64 (y), .int .i64 (rw - 1 - f), .int .i64 (rh)], .bool true]) (by simp [results, Try.results57, go_sem, *]) rfl ⟨rfl, ?_⟩
    refine HQ.out.trans ?_
    refine Below.mono (B := w.heap.size) ?_ (Nat.le_refl _)
    have hz := HZ.out.mono (B' := w.heap.size) (by omega)
    repeat (first | with_reducible exact hz | with_reducible refine Below.drew ?_ | (with_reducible refine Below.setCell ?_ ?_ _; rotate_left; (first | omega | (simp <;> omega))))
set_option maxRecDepth 100000 in
set_option maxHeartbeats 4000000 in
theorem Try.rcut2 (x y rw rh f : Int) (h0 : 0 ≤ x) (h1 : 0 ≤ y) (h2 : 0 ≤ rw) (h3 : 0 ≤ rh) (h4 : x ≤ 1000) (h5 : y ≤ 1000) (h6 : rw ≤ 1000) (h7 : rh ≤ 1000) (hf : 1 ≤ f) (hf2 : f ≤ rh - 2) (w : World) :
    Calls Try.prog 57 #[.agg #[.int .i64 x, .int .i64 y, .int .i64 rw, .int .i64 rh], .int .i64 2, .int .i64 f] w fun e w' =>
      e = .returned (.tuple #[.agg #[.int .i64 (x), .int .i64 (y), .int .i64 (rw), .int .i64 (f)], .agg #[.int .i64 (x), .int .i64 (y + f), .int .i64 (rw), .int .i64 (1)], .agg #[.int .i64 (x), .int .i64 (y + f + 1), .int .i64 (rw), .int .i64 (rh - 1 - f)], .bool true]) ∧ Below w.heap.size w w' := by
  have e1 : decide (f < 1) = false := by simp; omega
  have e2 : decide (f ≤ rh - 2) = true := by simp; omega
  have hw1 : IntKind.i64.wrap (y + f) = y + f := IntWalk.i64_in _ (by omega)
  have hw2 : IntKind.i64.wrap (y + f + 1) = y + f + 1 := IntWalk.i64_in _ (by omega)
  have hw3 : IntKind.i64.wrap (rh - 1) = rh - 1 := IntWalk.i64_in _ (by omega)
  have hw4 : IntKind.i64.wrap (rh - 1 - f) = rh - 1 - f := IntWalk.i64_in _ (by omega)
  have hw5 : IntKind.i64.wrap (rh - 2) = rh - 2 := IntWalk.i64_in _ (by omega)
  go_enter Try.func57, Try.ntmps57
  go_upto_region 3 with (go_at_call 35; refine (Try.rnone_ok _ _ _ _ ?_ ?_ ?_ ?_ ?_ ?_ ?_ ?_ _).mono ?_; assumption; assumption; assumption; assumption; assumption; assumption; assumption; assumption; rintro e w1 ⟨rfl, rfl⟩)
  obtain ⟨wq, hwq⟩ : ∃ wq, wq = ((((w.alloc (.cells #[.int .i64 x, .int .i64 y, .int .i64 rw, .int .i64 rh] 37)).alloc (.cells #[.int .i64 0, .int .i64 0, .int .i64 0, .int .i64 0] 37)).alloc (.cells #[.int .i64 0, .int .i64 0, .int .i64 0, .int .i64 0] 37)).alloc (.cells #[.int .i64 0, .int .i64 0, .int .i64 0, .int .i64 0] 37)).alloc (.cells #[.int .i64 x, .int .i64 y, .int .i64 rw, .int .i64 rh] 37) := ⟨_, rfl⟩
  have HQ : Below w.heap.size w wq := by rw [hwq]; repeat (first | with_reducible assumption | with_reducible exact Below.refl _ _ | with_reducible refine Below.drew ?_ | (with_reducible refine Below.setCell ?_ ?_ _; rotate_left; (first | omega | (simp <;> omega))) | (with_reducible refine Below.alloc ?_ ?_ _; rotate_left; (first | omega | (simp <;> omega))))
  have H1 : Below (w.heap.size + 1) (w.alloc (.cells #[.int .i64 x, .int .i64 y, .int .i64 rw, .int .i64 rh] 37)) wq := by rw [hwq]; repeat (first | with_reducible assumption | with_reducible exact Below.refl _ _ | with_reducible refine Below.drew ?_ | (with_reducible refine Below.setCell ?_ ?_ _; rotate_left; (first | omega | (simp <;> omega))) | (with_reducible refine Below.alloc ?_ ?_ _; rotate_left; (first | omega | (simp <;> omega))))
  have H2 : Below (w.heap.size + 1 + 1) ((w.alloc (.cells #[.int .i64 x, .int .i64 y, .int .i64 rw, .int .i64 rh] 37)).alloc (.cells #[.int .i64 0, .int .i64 0, .int .i64 0, .int .i64 0] 37)) wq := by rw [hwq]; repeat (first | with_reducible assumption | with_reducible exact Below.refl _ _ | with_reducible refine Below.drew ?_ | (with_reducible refine Below.setCell ?_ ?_ _; rotate_left; (first | omega | (simp <;> omega))) | (with_reducible refine Below.alloc ?_ ?_ _; rotate_left; (first | omega | (simp <;> omega))))
  have H3 : Below (w.heap.size + 1 + 1 + 1) (((w.alloc (.cells #[.int .i64 x, .int .i64 y, .int .i64 rw, .int .i64 rh] 37)).alloc (.cells #[.int .i64 0, .int .i64 0, .int .i64 0, .int .i64 0] 37)).alloc (.cells #[.int .i64 0, .int .i64 0, .int .i64 0, .int .i64 0] 37)) wq := by rw [hwq]; repeat (first | with_reducible assumption | with_reducible exact Below.refl _ _ | with_reducible refine Below.drew ?_ | (with_reducible refine Below.setCell ?_ ?_ _; rotate_left; (first | omega | (simp <;> omega))) | (with_reducible refine Below.alloc ?_ ?_ _; rotate_left; (first | omega | (simp <;> omega))))
  have H4 : Below (w.heap.size + 4) ((((w.alloc (.cells #[.int .i64 x, .int .i64 y, .int .i64 rw, .int .i64 rh] 37)).alloc (.cells #[.int .i64 0, .int .i64 0, .int .i64 0, .int .i64 0] 37)).alloc (.cells #[.int .i64 0, .int .i64 0, .int .i64 0, .int .i64 0] 37)).alloc (.cells #[.int .i64 0, .int .i64 0, .int .i64 0, .int .i64 0] 37)) wq := by rw [hwq]; repeat (first | with_reducible assumption | with_reducible exact Below.refl _ _ | with_reducible refine Below.drew ?_ | (with_reducible refine Below.setCell ?_ ?_ _; rotate_left; (first | omega | (simp <;> omega))) | (with_reducible refine Below.alloc ?_ ?_ _; rotate_left; (first | omega | (simp <;> omega))))
  have r0 := (H1.block w.heap.size (by omega)).trans (heap_alloc_new w _)
  have r1 := (H2.block (w.heap.size + 1) (by omega)).trans (two_new w _ _).1
  have r2 : wq.heap[w.heap.size + 1 + 1]? = some (.cells #[.int .i64 0, .int .i64 0, .int .i64 0, .int .i64 0] 37) := (H3.block (w.heap.size + 1 + 1) (by omega)).trans (by have := heap_alloc_new ((w.alloc (.cells #[.int .i64 x, .int .i64 y, .int .i64 rw, .int .i64 rh] 37)).alloc (.cells #[.int .i64 0, .int .i64 0, .int .i64 0, .int .i64 0] 37)) (.cells #[.int .i64 0, .int .i64 0, .int .i64 0, .int .i64 0] 37); simpa using this)
  have r3 : wq.heap[w.heap.size + 1 + 1 + 1]? = some (.cells #[.int .i64 0, .int .i64 0, .int .i64 0, .int .i64 0] 37) := (H4.block (w.heap.size + 1 + 1 + 1) (by omega)).trans (by have := heap_alloc_new (((w.alloc (.cells #[.int .i64 x, .int .i64 y, .int .i64 rw, .int .i64 rh] 37)).alloc (.cells #[.int .i64 0, .int .i64 0, .int .i64 0, .int .i64 0] 37)).alloc (.cells #[.int .i64 0, .int .i64 0, .int .i64 0, .int .i64 0] 37)) (.cells #[.int .i64 0, .int .i64 0, .int .i64 0, .int .i64 0] 37); simpa using this)
  have hsq : wq.heap.size = w.heap.size + 5 := by rw [hwq]; simp
  rw [← hwq]
  have z0 := cell_block r0 0
  have z1 := cell_block r0 1
  have z2 := cell_block r0 2
  have z3 := cell_block r0 3
  have R0 := Lib.hid r0; have R1 := Lib.hid r1; have R2 := Lib.hid r2; have R3 := Lib.hid r3; have HQ := Lib.hid HQ
  have K4 := Lib.hid (keep4 (B := wq.heap.size) z0 (by show w.heap.size < _; omega) z1 (by show w.heap.size < _; omega) z2 (by show w.heap.size < _; omega) z3 (by show w.heap.size < _; omega))
  have hsl : w.heap.size + 5 ≤ wq.heap.size := by omega
  clear hsq hwq H1 H2 H3 H4 r0 r1 r2 r3
  go_cut [10, 11, 12] (fun s10 s11 s12 wx => ∃ ga gm gb : Nat, s10 = .pointer (some ⟨ga, 0, none⟩) ∧ s11 = .pointer (some ⟨gm, 0, none⟩) ∧ s12 = .pointer (some ⟨gb, 0, none⟩) ∧
    wx.heap[ga]? = some (.cells #[.int .i64 x, .int .i64 y, .int .i64 rw, .int .i64 rh] 37) ∧ wx.heap[gm]? = some (.cells #[.int .i64 x, .int .i64 y, .int .i64 rw, .int .i64 rh] 37) ∧ wx.heap[gb]? = some (.cells #[.int .i64 x, .int .i64 y, .int .i64 rw, .int .i64 rh] 37) ∧ ga ≠ gm ∧ ga ≠ gb ∧ gm ≠ gb ∧ wq.heap.size ≤ ga ∧ wq.heap.size ≤ gm ∧ wq.heap.size ≤ gb ∧ Below wq.heap.size wq wx)
  case first =>
    go_region_held3 (fun w' => Below wq.heap.size wq w' ∧ w'.cell? ⟨w.heap.size, 0, none⟩ = some (.int .i64 x) ∧ w'.cell? ⟨w.heap.size, 1, none⟩ = some (.int .i64 y) ∧ w'.cell? ⟨w.heap.size, 2, none⟩ = some (.int .i64 rw) ∧ w'.cell? ⟨w.heap.size, 3, none⟩ = some (.int .i64 rh)) ((refine K4.out _ ?_; repeat (first | with_reducible assumption | with_reducible exact Below.refl _ _ | with_reducible refine Below.drew ?_ | (with_reducible refine Below.setCell ?_ ?_ _; rotate_left; (first | omega | (simp <;> omega))) | (with_reducible refine Below.alloc ?_ ?_ _; rotate_left; (first | omega | (simp <;> omega)))))) (fail)
    all_goals (go_wp2_with fail)
    all_goals go_meet
    all_goals (obtain ⟨n0, n1, n2, n3⟩ := three_new wq (.cells #[.int .i64 x, .int .i64 y, .int .i64 rw, .int .i64 rh] 37) (.cells #[.int .i64 x, .int .i64 y, .int .i64 rw, .int .i64 rh] 37) (.cells #[.int .i64 x, .int .i64 y, .int .i64 rw, .int .i64 rh] 37))
    all_goals (refine ⟨_, _, _, rfl, rfl, rfl, ?_, ?_, ?_, ?_, ?_, ?_, ?_, ?_, ?_, ?_⟩)
    all_goals (first | exact n0 | exact n1 | exact n2 | exact n3.drew | omega)
  case rest =>
    obtain ⟨ga, gm, gb, rfl, rfl, rfl, ha, hm, hb, n1, n2, n3, l1, l2, l3, hB⟩ := hcut
    have B0 := Lib.hid ((hB.block w.heap.size (by omega)).trans R0.out)
    have B1 := Lib.hid ((hB.block (w.heap.size + 1) (by omega)).trans R1.out)
    have B2 := Lib.hid ((hB.block (w.heap.size + 1 + 1) (by omega)).trans R2.out)
    have B3 := Lib.hid ((hB.block (w.heap.size + 1 + 1 + 1) (by omega)).trans R3.out)
    have y0 := cell_block B0.out 0; have y1 := cell_block B0.out 1; have y2 := cell_block B0.out 2; have y3 := cell_block B0.out 3
    have a3 := cell_block ha 3; have m3 := cell_block hm 3; have b3 := cell_block hb 3
    have fa3 := free_block ha 3; have fm3 := free_block hm 3; have fb3 := free_block hb 3
    have a1 := cell_block ha 1; have m1 := cell_block hm 1; have b1 := cell_block hb 1
    have fa1 := free_block ha 1; have fm1 := free_block hm 1; have fb1 := free_block hb 1
    have g1 : ga ≠ w.heap.size := by omega
    have g2 : gm ≠ w.heap.size := by omega
    have g3 : gb ≠ w.heap.size := by omega
    have HA := Lib.hid ha; have HM := Lib.hid hm; have HBb := Lib.hid hb; have HBc := Lib.hid hB
    clear ha hm hb hB z0 z1 z2 z3
    go_wp2_with fail
    go_region_held3 (fun w' => w'.cell? ⟨w.heap.size, 0, none⟩ = some (.int .i64 x) ∧ w'.cell? ⟨w.heap.size, 1, none⟩ = some (.int .i64 y) ∧ w'.cell? ⟨w.heap.size, 2, none⟩ = some (.int .i64 rw) ∧ w'.cell? ⟨w.heap.size, 3, none⟩ = some (.int .i64 rh)) (go_keep) (fail)
    go_wp2_with fail
    go_region_held3 (fun w' => w'.cell? ⟨w.heap.size, 0, none⟩ = some (.int .i64 x) ∧ w'.cell? ⟨w.heap.size, 1, none⟩ = some (.int .i64 y) ∧ w'.cell? ⟨w.heap.size, 2, none⟩ = some (.int .i64 rw) ∧ w'.cell? ⟨w.heap.size, 3, none⟩ = some (.int .i64 rh)) (go_keep) (fail)
    have GA : (((((wc.setCell ⟨ga, 3, none⟩ (.int .i64 f)).setCell ⟨gm, 3, none⟩ (.int .i64 1)).setCell ⟨gb, 3, none⟩ (.int .i64 (rh - 1 - f))).setCell ⟨gm, 1, none⟩ (.int .i64 (y + f))).setCell ⟨gb, 1, none⟩ (.int .i64 (y + f + 1))).drew.drew.heap[ga]? = some (.cells #[.int .i64 (x), .int .i64 (y), .int .i64 (rw), .int .i64 (f)] 37) :=
      (Below.heap_setCell _ _ _ _ n2).trans ((Below.heap_setCell _ _ _ _ n1).trans ((Below.heap_setCell _ _ _ _ n2).trans ((Below.heap_setCell _ _ _ _ n1).trans (heap_set HA.out (j := 3) (.int .i64 f)))))
    have GM : (((((wc.setCell ⟨ga, 3, none⟩ (.int .i64 f)).setCell ⟨gm, 3, none⟩ (.int .i64 1)).setCell ⟨gb, 3, none⟩ (.int .i64 (rh - 1 - f))).setCell ⟨gm, 1, none⟩ (.int .i64 (y + f))).setCell ⟨gb, 1, none⟩ (.int .i64 (y + f + 1))).drew.drew.heap[gm]? = some (.cells #[.int .i64 (x), .int .i64 (y + f), .int .i64 (rw), .int .i64 (1)] 37) :=
      (Below.heap_setCell _ _ _ _ n3).trans (heap_set ((Below.heap_setCell _ _ _ _ n3).trans (heap_set ((Below.heap_setCell _ _ _ _ (Ne.symm n1)).trans HM.out) (j := 3) (.int .i64 1))) (j := 1) (.int .i64 (y + f)))
    have GB : (((((wc.setCell ⟨ga, 3, none⟩ (.int .i64 f)).setCell ⟨gm, 3, none⟩ (.int .i64 1)).setCell ⟨gb, 3, none⟩ (.int .i64 (rh - 1 - f))).setCell ⟨gm, 1, none⟩ (.int .i64 (y + f))).setCell ⟨gb, 1, none⟩ (.int .i64 (y + f + 1))).drew.drew.heap[gb]? = some (.cells #[.int .i64 (x), .int .i64 (y + f + 1), .int .i64 (rw), .int .i64 (rh - 1 - f)] 37) :=
      heap_set ((Below.heap_setCell _ _ _ _ (Ne.symm n3)).trans (heap_set ((Below.heap_setCell _ _ _ _ (Ne.symm n3)).trans ((Below.heap_setCell _ _ _ _ (Ne.symm n2)).trans HBb.out)) (j := 3) (.int .i64 (rh - 1 - f)))) (j := 1) (.int .i64 (y + f + 1))
    have HZ : Below wq.heap.size wq (((((wc.setCell ⟨ga, 3, none⟩ (.int .i64 f)).setCell ⟨gm, 3, none⟩ (.int .i64 1)).setCell ⟨gb, 3, none⟩ (.int .i64 (rh - 1 - f))).setCell ⟨gm, 1, none⟩ (.int .i64 (y + f))).setCell ⟨gb, 1, none⟩ (.int .i64 (y + f + 1))).drew.drew :=
      ((((((HBc.out.setCell (p := ⟨ga, 3, none⟩) l1 _).setCell (p := ⟨gm, 3, none⟩) l2 _).setCell (p := ⟨gb, 3, none⟩) l3 _).setCell (p := ⟨gm, 1, none⟩) l2 _).setCell (p := ⟨gb, 1, none⟩) l3 _).drew).drew
    clear a3 a1 m3 m1 b3 b1 fa3 fa1 fm3 fm1 fb3 fb1 y0 y1 y2 y3
    generalize (((((wc.setCell ⟨ga, 3, none⟩ (.int .i64 f)).setCell ⟨gm, 3, none⟩ (.int .i64 1)).setCell ⟨gb, 3, none⟩ (.int .i64 (rh - 1 - f))).setCell ⟨gm, 1, none⟩ (.int .i64 (y + f))).setCell ⟨gb, 1, none⟩ (.int .i64 (y + f + 1))).drew.drew = wz at *
    have C1 := (HZ.block (w.heap.size + 1) (by omega)).trans R1.out
    have C2 := (HZ.block (w.heap.size + 1 + 1) (by omega)).trans R2.out
    have C3 := (HZ.block (w.heap.size + 1 + 1 + 1) (by omega)).trans R3.out
    have pa0 := cell_block GA 0
    have pa1 := cell_block GA 1
    have pa2 := cell_block GA 2
    have pa3 := cell_block GA 3
    have pm0 := cell_block GM 0
    have pm1 := cell_block GM 1
    have pm2 := cell_block GM 2
    have pm3 := cell_block GM 3
    have pb0 := cell_block GB 0
    have pb1 := cell_block GB 1
    have pb2 := cell_block GB 2
    have pb3 := cell_block GB 3
    have s0 := cell_block C1 0
    have s1 := cell_block C1 1
    have s2 := cell_block C1 2
    have s3 := cell_block C1 3
    have t0 := cell_block C2 0
    have t1 := cell_block C2 1
    have t2 := cell_block C2 2
    have t3 := cell_block C2 3
    have u0 := cell_block C3 0
    have u1 := cell_block C3 1
    have u2 := cell_block C3 2
    have u3 := cell_block C3 3
    have fs0 := free_block C1 0
    have fs1 := free_block C1 1
    have fs2 := free_block C1 2
    have fs3 := free_block C1 3
    have ft0 := free_block C2 0
    have ft1 := free_block C2 1
    have ft2 := free_block C2 2
    have ft3 := free_block C2 3
    have fu0 := free_block C3 0
    have fu1 := free_block C3 1
    have fu2 := free_block C3 2
    have fu3 := free_block C3 3
    have o1 : ga ≠ w.heap.size + 1 := by omega
    have o2 : ga ≠ w.heap.size + 1 + 1 := by omega
    have o3 : ga ≠ w.heap.size + 1 + 1 + 1 := by omega
    have o4 : gm ≠ w.heap.size + 1 := by omega
    have o5 : gm ≠ w.heap.size + 1 + 1 := by omega
    have o6 : gm ≠ w.heap.size + 1 + 1 + 1 := by omega
    have o7 : gb ≠ w.heap.size + 1 := by omega
    have o8 : gb ≠ w.heap.size + 1 + 1 := by omega
    have o9 : gb ≠ w.heap.size + 1 + 1 + 1 := by omega
    have GA := Lib.hid GA; have GM := Lib.hid GM; have GB := Lib.hid GB; have HZ := Lib.hid HZ
    go_wp2_with fail
    have j1 : ga ∉ [w.heap.size + 1, w.heap.size + 1 + 1, w.heap.size + 1 + 1 + 1] := by simp only [List.mem_cons, List.not_mem_nil, or_false, not_or]; exact ⟨o1, o2, o3⟩
    have j2 : gm ∉ [w.heap.size + 1, w.heap.size + 1 + 1, w.heap.size + 1 + 1 + 1] := by simp only [List.mem_cons, List.not_mem_nil, or_false, not_or]; exact ⟨o4, o5, o6⟩
    have j3 : gb ∉ [w.heap.size + 1, w.heap.size + 1 + 1, w.heap.size + 1 + 1 + 1] := by simp only [List.mem_cons, List.not_mem_nil, or_false, not_or]; exact ⟨o7, o8, o9⟩
    have K12 := Lib.hid (fun w' (h : Tch [w.heap.size + 1, w.heap.size + 1 + 1, w.heap.size + 1 + 1 + 1] wz w') => And.intro h (And.intro ((h.cell (p := ⟨ga, 0, none⟩) j1).trans pa0) (And.intro ((h.cell (p := ⟨ga, 1, none⟩) j1).trans pa1) (And.intro ((h.cell (p := ⟨ga, 2, none⟩) j1).trans pa2) (And.intro ((h.cell (p := ⟨ga, 3, none⟩) j1).trans pa3) (And.intro ((h.cell (p := ⟨gm, 0, none⟩) j2).trans pm0) (And.intro ((h.cell (p := ⟨gm, 1, none⟩) j2).trans pm1) (And.intro ((h.cell (p := ⟨gm, 2, none⟩) j2).trans pm2) (And.intro ((h.cell (p := ⟨gm, 3, none⟩) j2).trans pm3) (And.intro ((h.cell (p := ⟨gb, 0, none⟩) j3).trans pb0) (And.intro ((h.cell (p := ⟨gb, 1, none⟩) j3).trans pb1) (And.intro ((h.cell (p := ⟨gb, 2, none⟩) j3).trans pb2) ((h.cell (p := ⟨gb, 3, none⟩) j3).trans pb3)))))))))))))
    clear pa0 pa1 pa2 pa3 pm0 pm1 pm2 pm3 pb0 pb1 pb2 pb3 j1 j2 j3
    go_region_held3 (fun w' => Tch [w.heap.size + 1, w.heap.size + 1 + 1, w.heap.size + 1 + 1 + 1] wz w' ∧ w'.cell? ⟨ga, 0, none⟩ = some (.int .i64 (x)) ∧ w'.cell? ⟨ga, 1, none⟩ = some (.int .i64 (y)) ∧ w'.cell? ⟨ga, 2, none⟩ = some (.int .i64 (rw)) ∧ w'.cell? ⟨ga, 3, none⟩ = some (.int .i64 (f)) ∧ w'.cell? ⟨gm, 0, none⟩ = some (.int .i64 (x)) ∧ w'.cell? ⟨gm, 1, none⟩ = some (.int .i64 (y + f)) ∧ w'.cell? ⟨gm, 2, none⟩ = some (.int .i64 (rw)) ∧ w'.cell? ⟨gm, 3, none⟩ = some (.int .i64 (1)) ∧ w'.cell? ⟨gb, 0, none⟩ = some (.int .i64 (x)) ∧ w'.cell? ⟨gb, 1, none⟩ = some (.int .i64 (y + f + 1)) ∧ w'.cell? ⟨gb, 2, none⟩ = some (.int .i64 (rw)) ∧ w'.cell? ⟨gb, 3, none⟩ = some (.int .i64 (rh - 1 - f))) ((refine K12.out _ ?_; repeat (first | with_reducible exact Tch.refl _ _ | with_reducible refine Tch.drew ?_ | (with_reducible refine Tch.setCell ?_ ?_ _; rotate_left; simp)))) (fail)
    go_wp2
    refine bodyPost_ret (v := .tuple #[.agg #[.int .i64 (x), .int .i64 (y), .int .i64 (rw), .int .i64 (f)], .agg #[.int .i64 (x), .int .i64 (y + f), .int .i64 (rw), .int .i64 (1)], .agg #[.int .i64 (x), .int .i64 (y + f + 1), .int .i64 (rw), .int .i64 (rh - 1 - f)], .bool true]) (by simp [results, Try.results57, go_sem, *]) rfl ⟨rfl, ?_⟩
    refine HQ.out.trans ?_
    refine Below.mono (B := w.heap.size) ?_ (Nat.le_refl _)
    have hz := HZ.out.mono (B' := w.heap.size) (by omega)
    repeat (first | with_reducible exact hz | with_reducible refine Below.drew ?_ | (with_reducible refine Below.setCell ?_ ?_ _; rotate_left; (first | omega | (simp <;> omega))))
def RCutPost (a m b : Rc) (w : World) (e : Ending) (w' : World) : Prop :=
  e = .returned (.tuple #[.agg #[.int .i64 a.x, .int .i64 a.y, .int .i64 a.w, .int .i64 a.h], .agg #[.int .i64 m.x, .int .i64 m.y, .int .i64 m.w, .int .i64 m.h], .agg #[.int .i64 b.x, .int .i64 b.y, .int .i64 b.w, .int .i64 b.h], .bool true]) ∧ Below w.heap.size w w'
theorem Try.rcut_any (r : Rc) (h0 : 0 ≤ r.x) (h1 : 0 ≤ r.y) (h2 : 0 ≤ r.w) (h3 : 0 ≤ r.h) (h4 : r.x ≤ 1000) (h5 : r.y ≤ 1000) (h6 : r.w ≤ 1000) (h7 : r.h ≤ 1000) (d f : Int) (hd : d = 1 ∨ d = 2) (hf : 1 ≤ f) (hf2 : if d = 1 then f ≤ r.w - 2 else f ≤ r.h - 2) (w : World) :
    Calls Try.prog 57 #[.agg #[.int .i64 r.x, .int .i64 r.y, .int .i64 r.w, .int .i64 r.h], .int .i64 d, .int .i64 f] w (RCutPost (cutA r d f) (cutM r d f) (cutB r d f) w) := by
  obtain ⟨x, y, rw, rh⟩ := r
  simp only at h0 h1 h2 h3 h4 h5 h6 h7
  rcases hd with rfl | rfl
  · simp only [if_true] at hf2
    have := Try.rcut1 x y rw rh f h0 h1 h2 h3 h4 h5 h6 h7 hf hf2 w
    rw [show rw - 1 - f = rw - f - 1 by omega] at this
    exact this
  · simp at hf2
    have := Try.rcut2 x y rw rh f h0 h1 h2 h3 h4 h5 h6 h7 hf hf2 w
    rw [show rh - 1 - f = rh - f - 1 by omega] at this
    exact this
end Go.Proofs
