/-
  TreeKeeps.
-/
import Derived.Test.YtkcibhokjiciiaaBz
import Derived.Tactics
import Derived.Tactics2
import Derived.Deep.RegionHeld3
namespace Go.Proofs
open Go.RowKit Go.Lib Go.Sort Tp
attribute [local go_sem ↓] Go.wp_at_zero Go.wp_at_succ

/-- What awake answers. -/
def Try.Awake : Prop := ∀ w : World, Calls Try.prog 12 #[] w fun e w' => e = .returned (.bool true) ∧ Below w.heap.size w w'

/-- Fitting a tree that fits. -/
theorem Try.fit_same (T : Tr) (hT : Whole T) (v : Value) (x y : Int) (w : World) (hf : T.fits x y) (h3 : x ≤ 1000) (h4 : y ≤ 1000) (hv : NodesAt w v (T.nodes 0)) :
    Calls Try.prog 21 #[.agg #[v], .int .i64 x, .int .i64 y] w (TreePost T w.heap.size w) := by
  have h := Try.tfit_ok T hT v x y w (Tr.fits_least hf).1 (Tr.fits_least hf).2 h3 h4 hv
  rwa [Tr.fit_same hf] at h

set_option maxRecDepth 100000 in
set_option maxHeartbeats 4000000 in
theorem Try.keeps_ok (hA : Try.Awake) (xs : List Int) (v : Value) (a1 a2 : Int) (w : World) (hx : xs.length ≤ maxLen) (hv : IntsIn w v xs) :
    Calls Try.prog 6 #[v, .int .i64 a1, .int .i64 a2] w fun e w' => e = .returned (.bool true) ∧ Below w.heap.size w w' := by
  have hTree := Lib.hid (fun w' h => Try.tree_ok xs v w' hx h)
  have hA := Lib.hid hA
  have HV := Lib.hid hv
  obtain ⟨LA, lc, rfl, _⟩ := hv
  have h255 := i64_and255
  go_enter Try.func6, Try.ntmps6
  go_wp2_with fail
  go_at_call 8
  refine (hTree.out _ HV.out).mono ?_
  rintro e w1 ⟨T, b, off, c, GR, rfl, hN, hb1⟩
  have GR := Lib.hid GR
  have N1 := Lib.hid hN
  have WT := Lib.hid GR.out.whole
  have BW1 := Lib.hid hb1
  clear hN hb1
  -- fit
  go_wp2_with fail
  go_at_call 21
  refine (Try.fit_same T WT.out _ 30 20 _ GR.out.fits (by omega) (by omega) (N1.out.below (by (repeat (first | with_reducible assumption | with_reducible exact Below.refl _ _ | with_reducible refine Below.drew ?_ | with_reducible refine below_drewN ?_ _ | (with_reducible refine Below.setCell ?_ ?_ _; rotate_left; (first | omega | (simp <;> omega))) | (with_reducible refine Below.alloc ?_ ?_ _; rotate_left; (first | omega | (simp <;> omega)))))))).mono ?_
  rintro e w2 ⟨b2, off2, c2, rfl, hle2, hN2, hb2⟩
  obtain ⟨B12, F7, s12⟩ := step_alloc hb2
  have N7 := Lib.hid (N1.out.below B12)
  have NU := Lib.hid hN2
  have G7 := Lib.hid F7
  have BW2 := Lib.hid (BW1.out.trans (B12.mono BW1.out.size))
  have c7 := cell_block F7 0
  clear hN2 hb2 N1 BW1 hle2 F7 B12
  -- least
  go_wp2_with fail
  go_at_call 22
  refine (Try.tleast_ok T WT.out _ _ (N7.out.below (by (repeat (first | with_reducible assumption | with_reducible exact Below.refl _ _ | with_reducible refine Below.drew ?_ | with_reducible refine below_drewN ?_ _ | (with_reducible refine Below.setCell ?_ ?_ _; rotate_left; (first | omega | (simp <;> omega))) | (with_reducible refine Below.alloc ?_ ?_ _; rotate_left; (first | omega | (simp <;> omega)))))))).mono ?_
  rintro e w3 ⟨rfl, hb3⟩
  obtain ⟨B23, F8, s23⟩ := step_alloc hb3
  have N7 := Lib.hid (N7.out.below B23)
  have NU := Lib.hid (NU.out.below B23)
  have G7 := Lib.hid ((B23.block _ s12).trans G7.out)
  have G8 := Lib.hid F8
  have BW3 := Lib.hid (BW2.out.trans (B23.mono BW2.out.size))
  clear c7 hb3 BW2 F8 B23
  obtain ⟨m1, m2, m3, m4, m5, m6, m7, m8⟩ := GR.out.bounds
  clear m5 m6 m7 m8
  have FW := Lib.hid (fun (W H : Int) (h1 : T.lw ≤ W) (h2 : W ≤ 30) (h3 : T.lh ≤ H) (h4 : H ≤ 20) => (show Whole (T.fit W H) ∧ (T.fit W H).lw = T.lw ∧ (T.fit W H).lh = T.lh from
    ⟨Tr.fit_whole WT.out h1 h3 (by omega) (by omega), Tr.fit_least T W H⟩))
  have hFit := Lib.hid (fun (W H : Int) w' (hv : NodesAt w' _ (T.nodes 0)) (h1 : T.lw ≤ W) (h2 : W ≤ 30) (h3 : T.lh ≤ H) (h4 : H ≤ 20) => Try.tfit_ok T WT.out (.slice (some ⟨b, off, none⟩) T.size c) W H w' h1 h3 (by omega) (by omega) hv)
  generalize T.lw = lw at *
  generalize T.lh = lh at *
  have r1 : 0 ≤ a1 % 256 := by omega
  have r2 : 0 ≤ a2 % 256 := by omega
  have r3 : (a1 % 256).tmod (31 - lw) = a1 % 256 % (31 - lw) := Int.tmod_eq_emod_of_nonneg r1
  have r4 : (a2 % 256).tmod (21 - lh) = a2 % 256 % (21 - lh) := Int.tmod_eq_emod_of_nonneg r2
  have r5 : 0 ≤ a1 % 256 % (31 - lw) := Int.emod_nonneg _ (by omega)
  have r6 : 0 ≤ a2 % 256 % (21 - lh) := Int.emod_nonneg _ (by omega)
  have r7 : a1 % 256 % (31 - lw) < 31 - lw := Int.emod_lt_of_pos _ (by omega)
  have r8 : a2 % 256 % (21 - lh) < 21 - lh := Int.emod_lt_of_pos _ (by omega)
  have r9 : ((31 - lw) == 0) = false := by rw [beq_eq_false_iff_ne]; omega
  have r10 : ((21 - lh) == 0) = false := by rw [beq_eq_false_iff_ne]; omega
  have r11 : ¬ 31 - lw = 0 := by omega
  have r12 : ¬ 21 - lh = 0 := by omega
  go_wp2_with fail
  go_quiet (fail)
  have B3n := Lib.hid (below_drewN (Below.refl w3.heap.size w3) nq)
  have q1 : lw ≤ lw + a1 % 256 % (31 - lw) := by omega
  have q2 : lw + a1 % 256 % (31 - lw) ≤ 30 := by omega
  have q3 : lh ≤ lh + a2 % 256 % (21 - lh) := by omega
  have q4 : lh + a2 % 256 % (21 - lh) ≤ 20 := by omega
  clear r1 r2 r3 r4 r5 r6 r7 r8 r9 r10 r11 r12 h255
  generalize lw + a1 % 256 % (31 - lw) = W at *
  generalize lh + a2 % 256 % (21 - lh) = H at *
  have fw := FW.out W H q1 q2 q3 q4
  have WV := Lib.hid fw.1
  have LV := Lib.hid fw.2
  have c7 := cell_block G7.out 0
  clear fw
  -- fit to less
  go_wp2_with fail
  go_at_call 21
  refine (hFit.out W H _ (N7.out.below B3n.out) q1 q2 q3 q4).mono ?_
  rintro e w4 ⟨b4, off4, c4, rfl, hle4, hN4, hb4⟩
  have B34 : Below w3.heap.size w3 w4 := B3n.out.trans hb4
  have N7 := Lib.hid (N7.out.below B34)
  have NU := Lib.hid (NU.out.below B34)
  have NV := Lib.hid hN4
  have s34 := B34.size
  have G7 := Lib.hid ((B34.block _ (by omega)).trans G7.out)
  have G8 := Lib.hid ((B34.block _ s23).trans G8.out)
  have BW4 := Lib.hid (BW3.out.trans (B34.mono BW3.out.size))
  clear c7 hN4 hb4 B34 hle4 BW3 B3n
  -- fit to as much again
  go_wp2_with fail
  go_at_call 21
  refine (Try.tfit_ok (T.fit W H) WV.out _ 30 20 _ (by rw [LV.out.1]; omega) (by rw [LV.out.2]; omega) (by omega) (by omega) (NV.out.below (by (repeat (first | with_reducible assumption | with_reducible exact Below.refl _ _ | with_reducible refine Below.drew ?_ | with_reducible refine below_drewN ?_ _ | (with_reducible refine Below.setCell ?_ ?_ _; rotate_left; (first | omega | (simp <;> omega))) | (with_reducible refine Below.alloc ?_ ?_ _; rotate_left; (first | omega | (simp <;> omega)))))))).mono ?_
  rintro e w5 ⟨b5, off5, c5, rfl, hle5, hN5, hb5⟩
  obtain ⟨B45, F12, s45⟩ := step_alloc hb5
  have N7 := Lib.hid (N7.out.below B45)
  have NU := Lib.hid (NU.out.below B45)
  have NV := Lib.hid (NV.out.below B45)
  have G7 := Lib.hid ((B45.block _ (by omega)).trans G7.out)
  have G8 := Lib.hid ((B45.block _ (by omega)).trans G8.out)
  have G12 := Lib.hid F12
  have BW5 := Lib.hid (BW4.out.trans (B45.mono BW4.out.size))
  have e5 : ((T.fit W H).fit 30 20).size = T.size := by rw [Tr.fit_size, Tr.fit_size]
  have e4 : (T.fit W H).size = T.size := Tr.fit_size _ _ _
  have e6 : (T.fit W H).panes = T.panes := Tr.fit_panes _ _ _
  have hPP := Lib.hid (fun (x : Value) w' (h : NodesAt w' x (T.nodes 0) ∨ NodesAt w' x ((T.fit W H).nodes 0)) => (show Calls Try.prog 9 #[.agg #[x]] w' (IntsPost T.panes w') from by
    rcases h with h | h
    · exact Try.tpanes_ok T WT.out x w' h
    · have := Try.tpanes_ok (T.fit W H) WV.out x w' h
      rwa [e6] at this))
  have hOK := Lib.hid (fun w' h => Try.tok_ok (T.fit W H) WV.out (.slice (some ⟨b4, off4, none⟩) (T.fit W H).size c4) w' h)
  have hST := Lib.hid (fun w' u v h1 h2 => Try.sametree_ok (T.nodes 0) u v w' (by rw [Tr.nodes_length]; have := WT.out.size; omega) h1 h2)
  have hSI := Lib.hid (fun w' u v h1 h2 => Try.sameints_ok T.panes u v w' (by have := T.panes_length; have := T.size_pos; omega) (by have := T.panes_length; have := WT.out.size; omega) h1 h2)
  rw [e5]
  rw [e4] at NV hOK G12 ⊢
  clear hN5 hb5 B45 F12 hle5 BW4 e4 e5 e6 FW hFit hTree
  go_wp2_with fail
  have F14 := heap_alloc_new w5 (.cells #[.slice (some ⟨b5, off5, none⟩) T.size c5] 26)
  have B56 : Below w5.heap.size w5 (w5.alloc (.cells #[.slice (some ⟨b5, off5, none⟩) T.size c5] 26)) := by (repeat (first | with_reducible assumption | with_reducible exact Below.refl _ _ | with_reducible refine Below.drew ?_ | with_reducible refine below_drewN ?_ _ | (with_reducible refine Below.setCell ?_ ?_ _; rotate_left; (first | omega | (simp <;> omega))) | (with_reducible refine Below.alloc ?_ ?_ _; rotate_left; (first | omega | (simp <;> omega)))))
  generalize w5.alloc (.cells #[.slice (some ⟨b5, off5, none⟩) T.size c5] 26) = w6 at *
  have s56 := B56.size
  have f7 := (B56.block _ (by omega)).trans G7.out
  have f8 := (B56.block _ (by omega)).trans G8.out
  have f12 := (B56.block _ (by omega)).trans G12.out
  have l14 := (Array.getElem?_eq_some_iff.1 F14).1
  have K := Lib.hid (keep4 (cell_block f7 0) (by show w1.heap.size < w6.heap.size; omega) (cell_block f8 0) (by show w2.heap.size < w6.heap.size; omega) (cell_block f12 0) (by show w4.heap.size < w6.heap.size; omega) (cell_block F14 0) (by show w5.heap.size < w6.heap.size; exact l14))
  have N7 := Lib.hid (N7.out.below B56)
  have NU := Lib.hid (NU.out.below B56)
  have NV := Lib.hid (NV.out.below B56)
  have BW6 := Lib.hid (BW5.out.trans (B56.mono BW5.out.size))
  clear F14 B56 f7 f8 f12 G7 G8 G12 GR WT WV LV HV BW5 q1 q2 q3 q4
  go_region_held3 (fun w' => Below w6.heap.size w6 w' ∧ w'.cell? ⟨w1.heap.size, 0, none⟩ = some (.slice (some ⟨b, off, none⟩) T.size c) ∧ w'.cell? ⟨w2.heap.size, 0, none⟩ = some (.slice (some ⟨b2, off2, none⟩) T.size c2) ∧ w'.cell? ⟨w4.heap.size, 0, none⟩ = some (.slice (some ⟨b4, off4, none⟩) T.size c4) ∧ w'.cell? ⟨w5.heap.size, 0, none⟩ = some (.slice (some ⟨b5, off5, none⟩) T.size c5))
    ((refine K.out _ ?_; (repeat (first | with_reducible assumption | with_reducible exact Below.refl _ _ | with_reducible refine Below.drew ?_ | with_reducible refine below_drewN ?_ _ | (with_reducible refine Below.setCell ?_ ?_ _; rotate_left; (first | omega | (simp <;> omega))) | (with_reducible refine Below.alloc ?_ ?_ _; rotate_left; (first | omega | (simp <;> omega)))))))
    (first
      | ((go_at_call 15; refine (hST.out _ _ _ (NU.out.below (by (repeat (first | with_reducible assumption | with_reducible exact Below.refl _ _ | with_reducible refine Below.drew ?_ | with_reducible refine below_drewN ?_ _ | (with_reducible refine Below.setCell ?_ ?_ _; rotate_left; (first | omega | (simp <;> omega))) | (with_reducible refine Below.alloc ?_ ?_ _; rotate_left; (first | omega | (simp <;> omega))))))) (N7.out.below (by (repeat (first | with_reducible assumption | with_reducible exact Below.refl _ _ | with_reducible refine Below.drew ?_ | with_reducible refine below_drewN ?_ _ | (with_reducible refine Below.setCell ?_ ?_ _; rotate_left; (first | omega | (simp <;> omega))) | (with_reducible refine Below.alloc ?_ ?_ _; rotate_left; (first | omega | (simp <;> omega)))))))).mono ?_; rintro e w7 ⟨rfl, hb7⟩
          have hB7 : Below w6.heap.size w6 w7 := Below.trans (by (repeat (first | with_reducible assumption | with_reducible exact Below.refl _ _ | with_reducible refine Below.drew ?_ | with_reducible refine below_drewN ?_ _ | (with_reducible refine Below.setCell ?_ ?_ _; rotate_left; (first | omega | (simp <;> omega))) | (with_reducible refine Below.alloc ?_ ?_ _; rotate_left; (first | omega | (simp <;> omega)))))) (hb7.mono (by first | omega | (simp <;> omega)))
          have hs7 := hB7.size))
      | ((go_at_call 16; refine (hOK.out _ (NV.out.below (by (repeat (first | with_reducible assumption | with_reducible exact Below.refl _ _ | with_reducible refine Below.drew ?_ | with_reducible refine below_drewN ?_ _ | (with_reducible refine Below.setCell ?_ ?_ _; rotate_left; (first | omega | (simp <;> omega))) | (with_reducible refine Below.alloc ?_ ?_ _; rotate_left; (first | omega | (simp <;> omega)))))))).mono ?_; rintro e w8 ⟨rfl, hb8⟩
          have hB8 : Below w6.heap.size w6 w8 := Below.trans (by (repeat (first | with_reducible assumption | with_reducible exact Below.refl _ _ | with_reducible refine Below.drew ?_ | with_reducible refine below_drewN ?_ _ | (with_reducible refine Below.setCell ?_ ?_ _; rotate_left; (first | omega | (simp <;> omega))) | (with_reducible refine Below.alloc ?_ ?_ _; rotate_left; (first | omega | (simp <;> omega)))))) (hb8.mono (by first | omega | (simp <;> omega)))
          have hs8 := hB8.size))
      | ((have tV := hv9; clear tV; go_at_call 9; refine (hPP.out _ _ (by first | exact Or.inl (NodesAt.below N7.out (by (repeat (first | with_reducible assumption | with_reducible exact Below.refl _ _ | with_reducible refine Below.drew ?_ | with_reducible refine below_drewN ?_ _ | (with_reducible refine Below.setCell ?_ ?_ _; rotate_left; (first | omega | (simp <;> omega))) | (with_reducible refine Below.alloc ?_ ?_ _; rotate_left; (first | omega | (simp <;> omega))))))) | exact Or.inr (NodesAt.below NV.out (by (repeat (first | with_reducible assumption | with_reducible exact Below.refl _ _ | with_reducible refine Below.drew ?_ | with_reducible refine below_drewN ?_ _ | (with_reducible refine Below.setCell ?_ ?_ _; rotate_left; (first | omega | (simp <;> omega))) | (with_reducible refine Below.alloc ?_ ?_ _; rotate_left; (first | omega | (simp <;> omega))))))))).mono ?_; rintro e w10 ⟨v10, rfl, hv10, hb10⟩
          have hB10 : Below w6.heap.size w6 w10 := Below.trans (by (repeat (first | with_reducible assumption | with_reducible exact Below.refl _ _ | with_reducible refine Below.drew ?_ | with_reducible refine below_drewN ?_ _ | (with_reducible refine Below.setCell ?_ ?_ _; rotate_left; (first | omega | (simp <;> omega))) | (with_reducible refine Below.alloc ?_ ?_ _; rotate_left; (first | omega | (simp <;> omega)))))) (hb10.mono (by first | omega | (simp <;> omega)))
          have hs10 := hB10.size
          have hb10' : Below w9.heap.size w9 w10 := Below.trans (by (repeat (first | with_reducible assumption | with_reducible exact Below.refl _ _ | with_reducible refine Below.drew ?_ | with_reducible refine below_drewN ?_ _ | (with_reducible refine Below.setCell ?_ ?_ _; rotate_left; (first | omega | (simp <;> omega))) | (with_reducible refine Below.alloc ?_ ?_ _; rotate_left; (first | omega | (simp <;> omega)))))) (hb10.mono (by first | omega | (simp <;> omega)))
          have hv10 := Lib.hid hv10))
      | ((go_at_call 9; refine (hPP.out _ _ (by first | exact Or.inl (NodesAt.below N7.out (by (repeat (first | with_reducible assumption | with_reducible exact Below.refl _ _ | with_reducible refine Below.drew ?_ | with_reducible refine below_drewN ?_ _ | (with_reducible refine Below.setCell ?_ ?_ _; rotate_left; (first | omega | (simp <;> omega))) | (with_reducible refine Below.alloc ?_ ?_ _; rotate_left; (first | omega | (simp <;> omega))))))) | exact Or.inr (NodesAt.below NV.out (by (repeat (first | with_reducible assumption | with_reducible exact Below.refl _ _ | with_reducible refine Below.drew ?_ | with_reducible refine below_drewN ?_ _ | (with_reducible refine Below.setCell ?_ ?_ _; rotate_left; (first | omega | (simp <;> omega))) | (with_reducible refine Below.alloc ?_ ?_ _; rotate_left; (first | omega | (simp <;> omega))))))))).mono ?_; rintro e w9 ⟨v9, rfl, hv9, hb9⟩
          have hB9 : Below w6.heap.size w6 w9 := Below.trans (by (repeat (first | with_reducible assumption | with_reducible exact Below.refl _ _ | with_reducible refine Below.drew ?_ | with_reducible refine below_drewN ?_ _ | (with_reducible refine Below.setCell ?_ ?_ _; rotate_left; (first | omega | (simp <;> omega))) | (with_reducible refine Below.alloc ?_ ?_ _; rotate_left; (first | omega | (simp <;> omega)))))) (hb9.mono (by first | omega | (simp <;> omega)))
          have hs9 := hB9.size
          have hv9 := Lib.hid hv9))
      | ((go_at_call 20; refine (hSI.out _ _ _ (by first | exact hv10.out | exact Rd.below (B := w9.heap.size) hv9.out (by (repeat (first | with_reducible assumption | with_reducible exact Below.refl _ _ | with_reducible refine Below.drew ?_ | with_reducible refine below_drewN ?_ _ | (with_reducible refine Below.setCell ?_ ?_ _; rotate_left; (first | omega | (simp <;> omega))) | (with_reducible refine Below.alloc ?_ ?_ _; rotate_left; (first | omega | (simp <;> omega)))))) (Nat.le_refl _)) (by first | exact hv10.out | exact Rd.below (B := w9.heap.size) hv9.out (by (repeat (first | with_reducible assumption | with_reducible exact Below.refl _ _ | with_reducible refine Below.drew ?_ | with_reducible refine below_drewN ?_ _ | (with_reducible refine Below.setCell ?_ ?_ _; rotate_left; (first | omega | (simp <;> omega))) | (with_reducible refine Below.alloc ?_ ?_ _; rotate_left; (first | omega | (simp <;> omega)))))) (Nat.le_refl _))).mono ?_; rintro e w11 ⟨rfl, hb11⟩
          have hB11 : Below w6.heap.size w6 w11 := Below.trans (by (repeat (first | with_reducible assumption | with_reducible exact Below.refl _ _ | with_reducible refine Below.drew ?_ | with_reducible refine below_drewN ?_ _ | (with_reducible refine Below.setCell ?_ ?_ _; rotate_left; (first | omega | (simp <;> omega))) | (with_reducible refine Below.alloc ?_ ?_ _; rotate_left; (first | omega | (simp <;> omega)))))) (hb11.mono (by first | omega | (simp <;> omega)))
          have hs11 := hB11.size))
      | ((go_at_call 12; refine (hA.out _).mono ?_; rintro e w12 ⟨rfl, hb12⟩
          have hB12 : Below w6.heap.size w6 w12 := Below.trans (by (repeat (first | with_reducible assumption | with_reducible exact Below.refl _ _ | with_reducible refine Below.drew ?_ | with_reducible refine below_drewN ?_ _ | (with_reducible refine Below.setCell ?_ ?_ _; rotate_left; (first | omega | (simp <;> omega))) | (with_reducible refine Below.alloc ?_ ?_ _; rotate_left; (first | omega | (simp <;> omega)))))) (hb12.mono (by first | omega | (simp <;> omega)))
          have hs12 := hB12.size)))
  all_goals go_wp2
  all_goals go_ret
  all_goals exact ⟨rfl, BW6.out.trans (Below.mono (by (repeat (first | with_reducible assumption | with_reducible exact Below.refl _ _ | with_reducible refine Below.drew ?_ | with_reducible refine below_drewN ?_ _ | (with_reducible refine Below.setCell ?_ ?_ _; rotate_left; (first | omega | (simp <;> omega))) | (with_reducible refine Below.alloc ?_ ?_ _; rotate_left; (first | omega | (simp <;> omega)))))) BW6.out.size)⟩
end Go.Proofs
