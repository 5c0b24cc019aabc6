/-
  slices.Concat of three rows: rectangles. slices.Concat of three rows: nodes.
-/
import Derived.Test.YtkcibhokjiciiaaBr
import Derived.Test.YtkcibhokjiciiaaBn
import Derived.Deep.LoopGhost
namespace Go.Proofs
open Go.RowKit Go.Lib Tp
attribute [local go_sem ↓] Go.wp_at_zero Go.wp_at_succ

theorem Try.infoRect : (Try.prog.info? 37).map (fun i => (i.zero, i.size, i.bytes)) = some (some (.agg #[.int .i64 0, .int .i64 0, .int .i64 0, .int .i64 0]), 4, 32) := by kernel_rfl

def GrowRectPost (w : World) (e : Ending) (w' : World) : Prop :=
  ∃ v, e = .returned v ∧ w'.ownsRow w.heap.size 37 4 v 0 [] ∧ Below w.heap.size w w'

set_option maxRecDepth 100000 in
theorem Try.growRect (n : Nat) (h0 : 0 < n) (hn : n ≤ 1000) (w : World) :
    Calls Try.prog 67 #[.slice none 0 0, .int .i64 (n : Int)] w (GrowRectPost w) := by
  obtain ⟨i0, hi0, hz0, hz1, hz2⟩ := info_parts Try.infoRect
  have e1 : decide ((n : Int) < 0) = false := by simp
  have e2 : decide (0 < (n : Int)) = true := by simp; omega
  have e3 : ¬ (n : Int) < 0 := by omega
  have e4 : 0 < n := h0
  go_enter Try.func67, Try.ntmps67
  go_wp2_with (at_builtin; refine Lib.wpList_append_run _ rfl _ _ _ _ rfl _ _ rfl rfl _ _ (Lib.run_append_nil_zeros _ 33 3 _ 37 i0 _ .i64 .i64 Try.underlying33 Try.underlying3 hi0 hz0 n h0 (by omega) (by omega) (by rw [hz2]; omega)) ?_)
  go_ret
  refine ⟨_, rfl, ?_, ((Below.refl _ w).alloc (Nat.le_refl _) _).drew⟩
  have hg := grownCap_ge w n 0 37
  have hm := grownCap_le_maxLen w n 0 37 (by simp only [maxLen]; omega)
  refine World.ownsRow_made (size := 4) w _ (grownCap w n 0 37) (Nat.le_refl _) hm ?_
  rw [Array.size_append, size_zeroCells, size_zeroCells]
  show n * 4 + (grownCap w n 0 37 - n) * 4 = _
  omega

set_option maxRecDepth 100000 in
set_option maxHeartbeats 1000000 in
theorem Try.catRect (B c : Nat) (rs : List Rw) (w : World) (hB : B < w.heap.size) (hl : rs.length ≤ 100)
    (h : ∀ j, j < rs.length → w.cell? ⟨B, j, none⟩ = some (.slice rs[j]!.a rs[j]!.n rs[j]!.c) ∧ Rd w 4 (.slice rs[j]!.a rs[j]!.n rs[j]!.c) rs[j]!.n rs[j]!.xs ∧ ∀ u ∈ rs[j]!.xs, u.oneCell' = true)
    (h0 : 0 < Rw.tot rs) (hn : Rw.tot rs ≤ 1000) :
    Calls Try.prog 61 #[.slice (some ⟨B, 0, none⟩) rs.length c] w (CatPost 37 4 (Rw.tot rs) (Rw.all rs) w) := by
  obtain ⟨i0, hi0, hz0, hz1, hz2⟩ := info_parts Try.infoRect
  have HN := Lib.hid hn
  have H0 := Lib.hid h0
  have HH := Lib.hid h
  clear hn h0 h
  go_enter Try.func61, Try.ntmps61
  go_wp2_with fail
  go_loopg [3, 5, 11] rs.length (fun gg s3 s5 s11 wr => ∃ kk : Nat, kk ≤ rs.length ∧ rs.length - kk ≤ gg ∧ s11 = .int .i64 kk ∧ Aside (s3 = .int .i64 (Rw.tot (rs.take kk) : Nat)) ∧ wr = w)
  case atStart => exact ⟨0, Nat.zero_le _, by omega, rfl, rfl, rfl⟩
  case round =>
    obtain ⟨kk, hkk, hg, rfl, hs, rfl⟩ := hrel
    have hs := hs.out
    subst hs
    by_cases hlt : kk < rs.length
    · have hltz : (kk : Int) < (rs.length : Int) := by omega
      obtain ⟨c0, hr, _⟩ := HH.out kk hlt
      have hb1 : Rw.tot (rs.take kk) ≤ 1000 := Nat.le_trans (Rw.tot_take_le rs kk) HN.out
      have hb2 : rs[kk]!.n ≤ 1000 := Nat.le_trans (Rw.tot_get_le rs kk hlt) HN.out
      have T := Lib.hid (Rw.tot_succ rs kk hlt)
      generalize rs[kk]! = r at c0 hr hb2 T
      generalize hq : Rw.tot (rs.take kk) = q at hb1 T
      clear hq hr
      have e1 : decide (((q + r.n : Nat) : Int) < 0) = false := by simp; omega
      have e2 : decide ((q : Int) + (r.n : Int) < 0) = false := by simp; omega
      go_wp2
      go_roundg (rs.length - (kk + 1))
      case measure => omega
      case rel => exact ⟨kk + 1, by omega, by omega, by go_num, (show Aside _ from by rw [T.out]; go_num), rfl⟩
    · have hltz : ¬ (kk : Int) < (rs.length : Int) := by omega
      have hk : kk = rs.length := by omega
      subst hk
      rw [List.take_length]
      have hb1 := HN.out
      have hb0 := H0.out
      have hgrow := Lib.hid (Try.growRect (Rw.tot rs) hb0 hb1 wr)
      generalize hq : Rw.tot rs = q at hb0 hb1 hgrow
      have Q := Lib.hid hq
      clear hq hg hkk
      go_wp2_with (go_at_call 67; refine (hgrow.out).mono ?_; rintro e w1 ⟨v0, rfl, hown0, hb0'⟩)
      obtain ⟨wA, rfl⟩ : ∃ wA : World, wA = wr := ⟨_, rfl⟩
      go_loopg [6, 8, 27] rs.length (fun gg s6 s8 s27 wr => ∃ (kk : Nat), kk ≤ rs.length ∧ rs.length - kk ≤ gg ∧ s27 = .int .i64 kk ∧ wr.ownsRow wA.heap.size 37 4 s6 (Rw.tot (rs.take kk)) (Rw.all (rs.take kk)) ∧ Aside (Below wA.heap.size wA wr))
      case atStart => exact ⟨0, Nat.zero_le _, by omega, rfl, hown0, hb0'⟩
      case round =>
        obtain ⟨kk, hkk, hg, rfl, hown, hW⟩ := hrel
        by_cases hlt : kk < rs.length
        · have hltz : (kk : Int) < (rs.length : Int) := by omega
          obtain ⟨c0, hr, ho⟩ := HH.out kk hlt
          have c1 : wr.cell? ⟨B, kk, none⟩ = _ := (hW.out.cell (p := ⟨B, kk, none⟩) hB).trans c0
          have hr1 := hr.below hW.out (Nat.le_refl _)
          have T := Lib.hid (Rw.tot_succ rs kk hlt)
          have A := Lib.hid (Rw.all_succ rs kk hlt)
          have hsum : Rw.tot (rs.take kk) + rs[kk]!.n ≤ 1000 := by rw [← T.out, ← Q.out] at *; exact Nat.le_trans (Rw.tot_take_le rs _) HN.out
          obtain ⟨v', w', hrun, hown', hgrow, _⟩ := app_run (P := Try.prog) wr wA.heap.size 33 33 37 i0 _ 4 32 Try.underlying33 hi0 hz0 hz1 hz2 rfl (by decide) u6 _ _ hown _ _ _ hr1 ho (by unfold maxLen; omega) (by omega) hW.out.size
          have hrun := Lib.hid hrun
          have hlo := hown.lt
          have G := Lib.hid (hW.out.grown hgrow hW.out.size (fun k e => (hlo k e).1))
          have O := Lib.hid hown'
          clear c0 hr hr1 ho hown hown' hgrow hlo hsum
          generalize rs[kk]! = r at c1 hrun T A O
          go_wp2_with (at_builtin; refine Lib.wpList_append_run _ rfl _ _ _ _ rfl _ _ (by rfl) (by rfl) _ _ hrun.out ?_)
          go_roundg (rs.length - (kk + 1))
          case measure => omega
          case rel => exact ⟨kk + 1, by omega, by omega, by go_num, by rw [T.out, A.out]; exact O.out, G.out⟩
        · have hltz : ¬ (kk : Int) < (rs.length : Int) := by omega
          have hk : kk = rs.length := by omega
          subst hk
          rw [List.take_length] at hown
          have O := Lib.hid hown
          clear hown
          go_wp2
          go_ret
          exact ⟨_, rfl, O.out, hW.out⟩

theorem Try.catRect3 (B c : Nat) (r0 r1 r2 : Rw) (w : World) (hB : B < w.heap.size)
    (h0 : w.cell? ⟨B, 0, none⟩ = some (.slice r0.a r0.n r0.c)) (h1 : w.cell? ⟨B, 1, none⟩ = some (.slice r1.a r1.n r1.c)) (h2 : w.cell? ⟨B, 2, none⟩ = some (.slice r2.a r2.n r2.c))
    (d0 : Rd w 4 (.slice r0.a r0.n r0.c) r0.n r0.xs) (d1 : Rd w 4 (.slice r1.a r1.n r1.c) r1.n r1.xs) (d2 : Rd w 4 (.slice r2.a r2.n r2.c) r2.n r2.xs)
    (o0 : ∀ u ∈ r0.xs, u.oneCell' = true) (o1 : ∀ u ∈ r1.xs, u.oneCell' = true) (o2 : ∀ u ∈ r2.xs, u.oneCell' = true) (hp : 0 < r0.n) (hn : r0.n + r1.n + r2.n ≤ 1000) :
    Calls Try.prog 61 #[.slice (some ⟨B, 0, none⟩) 3 c] w (CatPost 37 4 (r0.n + r1.n + r2.n) (r0.xs ++ r1.xs ++ r2.xs) w) := by
  have := Try.catRect B c [r0, r1, r2] w hB (by simp) (fun j hj => by
    match j, hj with
    | 0, _ => exact ⟨h0, d0, o0⟩
    | 1, _ => exact ⟨h1, d1, o1⟩
    | 2, _ => exact ⟨h2, d2, o2⟩) (by simp only [Rw.tot]; omega) (by simp only [Rw.tot]; omega)
  simpa only [Rw.tot, Rw.all, Nat.add_zero, List.append_nil, Nat.add_assoc, List.append_assoc, List.length_cons, List.length_nil] using this
end Go.Proofs
namespace Go.Proofs
open Go.RowKit Go.Lib Tp
attribute [local go_sem ↓] Go.wp_at_zero Go.wp_at_succ

theorem Try.infoNode : (Try.prog.info? 73).map (fun i => (i.zero, i.size, i.bytes)) = some (some (.agg #[.int .i64 0, .int .i64 0, .int .i64 0, .int .i64 0, .int .i64 0]), 5, 40) := by kernel_rfl

def GrowNodePost (w : World) (e : Ending) (w' : World) : Prop :=
  ∃ v, e = .returned v ∧ w'.ownsRow w.heap.size 73 5 v 0 [] ∧ Below w.heap.size w w'

set_option maxRecDepth 100000 in
theorem Try.growNode (n : Nat) (h0 : 0 < n) (hn : n ≤ 1000) (w : World) :
    Calls Try.prog 79 #[.slice none 0 0, .int .i64 (n : Int)] w (GrowNodePost w) := by
  obtain ⟨i0, hi0, hz0, hz1, hz2⟩ := info_parts Try.infoNode
  have e1 : decide ((n : Int) < 0) = false := by simp
  have e2 : decide (0 < (n : Int)) = true := by simp; omega
  have e3 : ¬ (n : Int) < 0 := by omega
  have e4 : 0 < n := h0
  go_enter Try.func79, Try.ntmps79
  go_wp2_with (at_builtin; refine Lib.wpList_append_run _ rfl _ _ _ _ rfl _ _ rfl rfl _ _ (Lib.run_append_nil_zeros _ 24 3 _ 73 i0 _ .i64 .i64 Try.underlying24 Try.underlying3 hi0 hz0 n h0 (by omega) (by omega) (by rw [hz2]; omega)) ?_)
  go_ret
  refine ⟨_, rfl, ?_, ((Below.refl _ w).alloc (Nat.le_refl _) _).drew⟩
  have hg := grownCap_ge w n 0 73
  have hm := grownCap_le_maxLen w n 0 73 (by simp only [maxLen]; omega)
  refine World.ownsRow_made (size := 5) w _ (grownCap w n 0 73) (Nat.le_refl _) hm ?_
  rw [Array.size_append, size_zeroCells, size_zeroCells]
  show n * 5 + (grownCap w n 0 73 - n) * 5 = _
  omega

set_option maxRecDepth 100000 in
set_option maxHeartbeats 1000000 in
theorem Try.catNode (B c : Nat) (rs : List Rw) (w : World) (hB : B < w.heap.size) (hl : rs.length ≤ 100)
    (h : ∀ j, j < rs.length → w.cell? ⟨B, j, none⟩ = some (.slice rs[j]!.a rs[j]!.n rs[j]!.c) ∧ Rd w 5 (.slice rs[j]!.a rs[j]!.n rs[j]!.c) rs[j]!.n rs[j]!.xs ∧ ∀ u ∈ rs[j]!.xs, u.oneCell' = true)
    (h0 : 0 < Rw.tot rs) (hn : Rw.tot rs ≤ 1000) :
    Calls Try.prog 66 #[.slice (some ⟨B, 0, none⟩) rs.length c] w (CatPost 73 5 (Rw.tot rs) (Rw.all rs) w) := by
  obtain ⟨i0, hi0, hz0, hz1, hz2⟩ := info_parts Try.infoNode
  have HN := Lib.hid hn
  have H0 := Lib.hid h0
  have HH := Lib.hid h
  clear hn h0 h
  go_enter Try.func66, Try.ntmps66
  go_wp2_with fail
  go_loopg [3, 5, 11] rs.length (fun gg s3 s5 s11 wr => ∃ kk : Nat, kk ≤ rs.length ∧ rs.length - kk ≤ gg ∧ s11 = .int .i64 kk ∧ Aside (s3 = .int .i64 (Rw.tot (rs.take kk) : Nat)) ∧ wr = w)
  case atStart => exact ⟨0, Nat.zero_le _, by omega, rfl, rfl, rfl⟩
  case round =>
    obtain ⟨kk, hkk, hg, rfl, hs, rfl⟩ := hrel
    have hs := hs.out
    subst hs
    by_cases hlt : kk < rs.length
    · have hltz : (kk : Int) < (rs.length : Int) := by omega
      obtain ⟨c0, hr, _⟩ := HH.out kk hlt
      have hb1 : Rw.tot (rs.take kk) ≤ 1000 := Nat.le_trans (Rw.tot_take_le rs kk) HN.out
      have hb2 : rs[kk]!.n ≤ 1000 := Nat.le_trans (Rw.tot_get_le rs kk hlt) HN.out
      have T := Lib.hid (Rw.tot_succ rs kk hlt)
      generalize rs[kk]! = r at c0 hr hb2 T
      generalize hq : Rw.tot (rs.take kk) = q at hb1 T
      clear hq hr
      have e1 : decide (((q + r.n : Nat) : Int) < 0) = false := by simp; omega
      have e2 : decide ((q : Int) + (r.n : Int) < 0) = false := by simp; omega
      go_wp2
      go_roundg (rs.length - (kk + 1))
      case measure => omega
      case rel => exact ⟨kk + 1, by omega, by omega, by go_num, (show Aside _ from by rw [T.out]; go_num), rfl⟩
    · have hltz : ¬ (kk : Int) < (rs.length : Int) := by omega
      have hk : kk = rs.length := by omega
      subst hk
      rw [List.take_length]
      have hb1 := HN.out
      have hb0 := H0.out
      have hgrow := Lib.hid (Try.growNode (Rw.tot rs) hb0 hb1 wr)
      generalize hq : Rw.tot rs = q at hb0 hb1 hgrow
      have Q := Lib.hid hq
      clear hq hg hkk
      go_wp2_with (go_at_call 79; refine (hgrow.out).mono ?_; rintro e w1 ⟨v0, rfl, hown0, hb0'⟩)
      obtain ⟨wA, rfl⟩ : ∃ wA : World, wA = wr := ⟨_, rfl⟩
      go_loopg [6, 8, 27] rs.length (fun gg s6 s8 s27 wr => ∃ (kk : Nat), kk ≤ rs.length ∧ rs.length - kk ≤ gg ∧ s27 = .int .i64 kk ∧ wr.ownsRow wA.heap.size 73 5 s6 (Rw.tot (rs.take kk)) (Rw.all (rs.take kk)) ∧ Aside (Below wA.heap.size wA wr))
      case atStart => exact ⟨0, Nat.zero_le _, by omega, rfl, hown0, hb0'⟩
      case round =>
        obtain ⟨kk, hkk, hg, rfl, hown, hW⟩ := hrel
        by_cases hlt : kk < rs.length
        · have hltz : (kk : Int) < (rs.length : Int) := by omega
          obtain ⟨c0, hr, ho⟩ := HH.out kk hlt
          have c1 : wr.cell? ⟨B, kk, none⟩ = _ := (hW.out.cell (p := ⟨B, kk, none⟩) hB).trans c0
          have hr1 := hr.below hW.out (Nat.le_refl _)
          have T := Lib.hid (Rw.tot_succ rs kk hlt)
          have A := Lib.hid (Rw.all_succ rs kk hlt)
          have hsum : Rw.tot (rs.take kk) + rs[kk]!.n ≤ 1000 := by rw [← T.out, ← Q.out] at *; exact Nat.le_trans (Rw.tot_take_le rs _) HN.out
          obtain ⟨v', w', hrun, hown', hgrow, _⟩ := app_run (P := Try.prog) wr wA.heap.size 24 24 73 i0 _ 5 40 Try.underlying24 hi0 hz0 hz1 hz2 rfl (by decide) u6 _ _ hown _ _ _ hr1 ho (by unfold maxLen; omega) (by omega) hW.out.size
          have hrun := Lib.hid hrun
          have hlo := hown.lt
          have G := Lib.hid (hW.out.grown hgrow hW.out.size (fun k e => (hlo k e).1))
          have O := Lib.hid hown'
          clear c0 hr hr1 ho hown hown' hgrow hlo hsum
          generalize rs[kk]! = r at c1 hrun T A O
          go_wp2_with (at_builtin; refine Lib.wpList_append_run _ rfl _ _ _ _ rfl _ _ (by rfl) (by rfl) _ _ hrun.out ?_)
          go_roundg (rs.length - (kk + 1))
          case measure => omega
          case rel => exact ⟨kk + 1, by omega, by omega, by go_num, by rw [T.out, A.out]; exact O.out, G.out⟩
        · have hltz : ¬ (kk : Int) < (rs.length : Int) := by omega
          have hk : kk = rs.length := by omega
          subst hk
          rw [List.take_length] at hown
          have O := Lib.hid hown
          clear hown
          go_wp2
          go_ret
          exact ⟨_, rfl, O.out, hW.out⟩

theorem Try.catNode3 (B c : Nat) (r0 r1 r2 : Rw) (w : World) (hB : B < w.heap.size)
    (h0 : w.cell? ⟨B, 0, none⟩ = some (.slice r0.a r0.n r0.c)) (h1 : w.cell? ⟨B, 1, none⟩ = some (.slice r1.a r1.n r1.c)) (h2 : w.cell? ⟨B, 2, none⟩ = some (.slice r2.a r2.n r2.c))
    (d0 : Rd w 5 (.slice r0.a r0.n r0.c) r0.n r0.xs) (d1 : Rd w 5 (.slice r1.a r1.n r1.c) r1.n r1.xs) (d2 : Rd w 5 (.slice r2.a r2.n r2.c) r2.n r2.xs)
    (o0 : ∀ u ∈ r0.xs, u.oneCell' = true) (o1 : ∀ u ∈ r1.xs, u.oneCell' = true) (o2 : ∀ u ∈ r2.xs, u.oneCell' = true) (hp : 0 < r0.n) (hn : r0.n + r1.n + r2.n ≤ 1000) :
    Calls Try.prog 66 #[.slice (some ⟨B, 0, none⟩) 3 c] w (CatPost 73 5 (r0.n + r1.n + r2.n) (r0.xs ++ r1.xs ++ r2.xs) w) := by
  have := Try.catNode B c [r0, r1, r2] w hB (by simp) (fun j hj => by
    match j, hj with
    | 0, _ => exact ⟨h0, d0, o0⟩
    | 1, _ => exact ⟨h1, d1, o1⟩
    | 2, _ => exact ⟨h2, d2, o2⟩) (by simp only [Rw.tot]; omega) (by simp only [Rw.tot]; omega)
  simpa only [Rw.tot, Rw.all, Nat.add_zero, List.append_nil, Nat.add_assoc, List.append_assoc, List.length_cons, List.length_nil] using this
end Go.Proofs
