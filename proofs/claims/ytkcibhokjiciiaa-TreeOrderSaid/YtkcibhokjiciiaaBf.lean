/-
  The document's answer for trees: where a pane's leaf stands, and a tree's end. The document's answer for trees: Ok, Panes. The document's answer for trees: Panes. Two rows that are the same.
-/
import Derived.Test.YtkcibhokjiciiaaBw
import Derived.Deep.QuietTactic
import Derived.BigQuiet
namespace Go.Proofs
open Go.RowKit Go.Lib Go.Sort Tp
attribute [local go_sem ↓] Go.wp_at_zero Go.wp_at_succ

set_option maxRecDepth 100000 in
theorem Try.rat_some (l : List Nd) (v : Value) (p : Int) (k : Nat) (w : World) (hp : 1 ≤ p) (hl : l.length ≤ 63) (hk : k < l.length) (hlt : ∀ j, j < k → l[j]!.p ≠ p) (hpk : l[k]!.p = p) (hv : NodesAt w v l) :
    Calls Try.prog 43 #[.agg #[v], .int .i64 p] w fun e w' => e = .returned (.int .i64 (k : Int)) ∧ w.alloc (.cells #[v] 26) = w' := by
  obtain ⟨b, off, c, rfl, hb, hN⟩ := hv
  have HN := Lib.hid hN; have HL := Lib.hid hlt; have HP := Lib.hid hpk
  have e1 : decide (0 < p) = true := by simp; omega
  clear hN hlt hpk
  go_enter Try.func43, Try.ntmps43
  go_wp2_with fail
  go_loop [5] (fun s5 => ∃ kk : Nat, kk ≤ k ∧ s5 = .int .i64 kk) (fun s5 => k + 1 - (intOf s5).toNat)
  case atStart => exact ⟨0, Nat.zero_le _, rfl⟩
  case round =>
    obtain ⟨kk, hkk, rfl⟩ := hrel
    have hltz : (kk : Int) < (l.length : Int) := by omega
    have hltn : kk < l.length := by omega
    obtain ⟨c0, c1, c2, c3, c4⟩ := HN.out kk hltn
    simp only [Nat.zero_add] at c0
    clear c1 c2 c3 c4
    by_cases hq : kk = k
    · subst hq
      rw [HP.out] at c0
      go_wp2
      go_ret
      exact ⟨rfl, rfl⟩
    · have hne := HL.out kk (by omega)
      generalize l[kk]!.p = q at c0 hne
      have e2 : (q == p) = false := by simpa using hne
      have e3 : decide (q = p) = false := by simpa using hne
      go_wp2
      go_round
      case rel => exact ⟨kk + 1, by omega, by go_num⟩
      case measure => simp [intOf]; omega

set_option maxRecDepth 100000 in
theorem Try.rat_none (l : List Nd) (v : Value) (p : Int) (w : World) (hp : 1 ≤ p) (hl : l.length ≤ 63) (hlt : ∀ j, j < l.length → l[j]!.p ≠ p) (hv : NodesAt w v l) :
    Calls Try.prog 43 #[.agg #[v], .int .i64 p] w fun e w' => e = .returned (.int .i64 (-1)) ∧ w.alloc (.cells #[v] 26) = w' := by
  obtain ⟨b, off, c, rfl, hb, hN⟩ := hv
  have HN := Lib.hid hN; have HL := Lib.hid hlt
  have e1 : decide (0 < p) = true := by simp; omega
  clear hN hlt
  go_enter Try.func43, Try.ntmps43
  go_wp2_with fail
  go_loop [5] (fun s5 => ∃ kk : Nat, kk ≤ l.length ∧ s5 = .int .i64 kk) (fun s5 => l.length - (intOf s5).toNat)
  case atStart => exact ⟨0, Nat.zero_le _, rfl⟩
  case round =>
    obtain ⟨kk, hkk, rfl⟩ := hrel
    by_cases hltn : kk < l.length
    · have hltz : (kk : Int) < (l.length : Int) := by omega
      obtain ⟨c0, c1, c2, c3, c4⟩ := HN.out kk hltn
      simp only [Nat.zero_add] at c0
      clear c1 c2 c3 c4
      have hne := HL.out kk hltn
      generalize l[kk]!.p = q at c0 hne
      have e2 : (q == p) = false := by simpa using hne
      have e3 : decide (q = p) = false := by simpa using hne
      go_wp2
      go_round
      case rel => exact ⟨kk + 1, by omega, by go_num⟩
      case measure => simp [intOf]; omega
    · have hltz : ¬ (kk : Int) < (l.length : Int) := by omega
      go_wp2
      go_ret
      exact ⟨rfl, rfl⟩

set_option maxRecDepth 100000 in
set_option maxHeartbeats 1000000 in
/-- Where a part ends. -/
theorem Try.rpt_ok (n c b off : Nat) (hn : n ≤ 63) : ∀ (T : Tr) (k : Nat) (q : Int) (w : World), q = (k : Int) → T.good → k + T.size ≤ n → b < w.heap.size → NodesFrom w (T.nodes k) b off k →
    Calls Try.prog 56 #[.slice (some ⟨b, off, none⟩) n c, .int .i64 q] w fun e w' => e = .returned (.int .i64 ((k + T.size : Nat) : Int)) ∧ Below w.heap.size w w'
  | .leaf p, k, q, w, hq, hg, hk, hb, hN => by
    subst hq
    obtain ⟨c0, c1, c2, c3, c4⟩ := hN 0 (by simp [Tr.nodes])
    simp only [Tr.nodes, List.getElem!_cons_zero, Nat.add_zero] at c0 c1 c2 c3 c4
    simp only [Tr.size] at hk
    have hlt : (k : Int) < (n : Int) := by omega
    have hp := hg.1
    have e1 : decide (0 < p) = true := by simp; omega
    go_enter Try.func56, Try.ntmps56
    go_wp2
    go_ret
    exact ⟨by simp [Tr.size], (Below.refl _ w).alloc (Nat.le_refl _) _⟩
  | .node d f A B, k, q, w, hq, hg, hk, hb, hN => by
    subst hq
    obtain ⟨hd, hf1, hf2, hgA, hgB⟩ := hg
    obtain ⟨c0, c1, c2, c3, c4⟩ := hN 0 (by simp [Tr.nodes])
    have hN1 : NodesFrom w (A.nodes (k + 1) ++ B.nodes (k + 1 + A.size)) b off (k + 1) := NodesFrom.right (l := [⟨0, d, f, (k + 1 : Nat), (k + 1 + A.size : Nat)⟩]) hN
    have hNA := hN1.left
    have hNB := hN1.right
    rw [Tr.nodes_length] at hNB
    simp only [Tr.nodes, List.getElem!_cons_zero, Nat.add_zero] at c0 c1 c2 c3 c4
    simp only [Tr.size] at hk
    have hlt : (k : Int) < (n : Int) := by omega
    have e1 : decide (f < 1) = false := by simp; omega
    have e2 : decide (1000 < f) = false := by simp; omega
    have ihA := Lib.hid (fun w' (hW : Below w.heap.size w w') => Try.rpt_ok n c b off hn A (k + 1) ((k : Int) + 1) w' (by simp) hgA (by omega) (Nat.lt_of_lt_of_le hb hW.size) (hNA.below hb hW))
    have ihB := Lib.hid (fun w' (hW : Below w.heap.size w w') => Try.rpt_ok n c b off hn B (k + 1 + A.size) ((k : Int) + 1 + (A.size : Int)) w' (by simp) hgB (by omega) (Nat.lt_of_lt_of_le hb hW.size) (hNB.below hb hW))
    clear hN hN1 hNA hNB hgA hgB
    have pa : 0 < A.size := A.size_pos
    rcases hd with rfl | rfl
    all_goals
      go_enter Try.func56, Try.ntmps56
      go_wp2_with fail
      go_at_call 56
      refine (ihA.out _ ((Below.refl _ w).alloc (Nat.le_refl _) _)).mono ?_
      rintro e w2 ⟨rfl, hb2⟩
      obtain ⟨hc2, hz2⟩ := bcell hb2
      have HB2 : Below w.heap.size w w2 := ((Below.refl _ w).alloc (Nat.le_refl _) _).trans (hb2.mono (by simp))
      have hs2 : w.heap.size < w2.heap.size := by have := hb2.size; simp at this; omega
      go_wp2_with fail
      go_at_call 56
      refine (ihB.out _ HB2).mono ?_
      rintro e w3 ⟨rfl, hb3⟩
      go_wp2
      go_ret
      exact ⟨by simp [Tr.size]; omega, HB2.trans (hb3.mono (by omega))⟩
end Go.Proofs
namespace Tp
theorem apart_named : ∀ {l : List Nd}, (l.flatMap Tr.named).Nodup → ∀ i k, i < l.length → k < i → 0 < l[i]!.p → l[i]!.p ≠ l[k]!.p
  | [], _, i, k, h, _, _ => absurd h (Nat.not_lt_zero _)
  | x :: m, hn, 0, k, _, hk, _ => absurd hk (Nat.not_lt_zero _)
  | x :: m, hn, i + 1, k, hi, hk, hp => by
    rw [List.flatMap_cons, List.nodup_append] at hn
    have hi' : i < m.length := by simpa using hi
    have e : (x :: m)[i + 1]! = m[i]! := by rw [getElem!_pos (x :: m) (i + 1) hi, getElem!_pos m i hi']; rfl
    rw [e] at hp ⊢
    cases k with
    | zero =>
      have e0 : (x :: m)[0]! = x := rfl
      rw [e0]
      intro h
      have hx : x.p ∈ Tr.named x := by unfold Tr.named; rw [if_pos (by rw [← h]; exact hp)]; exact List.mem_singleton.2 rfl
      have hm : m[i]!.p ∈ m.flatMap Tr.named := List.mem_flatMap.2 ⟨m[i]!, (by rw [getElem!_pos m i hi']; exact List.getElem_mem hi'), by unfold Tr.named; rw [if_pos hp]; exact List.mem_singleton.2 rfl⟩
      exact hn.2.2 _ hx _ hm h.symm
    | succ k =>
      have hk' : k < m.length := by omega
      have e1 : (x :: m)[k + 1]! = m[k]! := by rw [getElem!_pos (x :: m) (k + 1) (by simpa using hk'), getElem!_pos m k hk']; rfl
      rw [e1]
      exact apart_named hn.2.1 i k hi' (by omega) hp
end Tp
namespace Go.Proofs
open Go.RowKit Go.Lib Go.Sort Tp
attribute [local go_sem ↓] Go.wp_at_zero Go.wp_at_succ

set_option maxRecDepth 100000 in
set_option maxHeartbeats 1000000 in
theorem Try.rok2_ok (T : Tr) (hT : Whole T) (v : Value) (w : World) (hv : NodesAt w v (T.nodes 0)) :
    Calls Try.prog 34 #[.agg #[v]] w fun e w' => e = .returned (.bool true) ∧ Below w.heap.size w w' := by
  have hap := Lib.hid (apart_named (l := T.nodes 0) (by rw [Tr.nodes_panes 0 hT.good]; exact hT.nodup))
  obtain ⟨b, off, c, rfl, hb, hN⟩ := hv
  have hlen := T.nodes_length 0
  have hs := hT.size
  have h1 := T.size_pos
  have HN := Lib.hid hN
  have hpart := Lib.hid (fun w' (hW : Below w.heap.size w w') => Try.rpt_ok T.size c b off hs T 0 0 w' rfl hT.good (by omega) (Nat.lt_of_lt_of_le hb hW.size) (hN.below hb hW))
  rw [hlen]
  clear hN hT
  have e1 : decide ((T.size : Int) < 1) = false := by simp; omega
  have e2 : decide (63 < (T.size : Int)) = false := by simp; omega
  have e3 : decide (T.size < 1) = false := by simp; omega
  have e4 : decide (63 < T.size) = false := by simp; omega
  go_enter Try.func34, Try.ntmps34
  go_wp2_with (go_at_call 56; refine (hpart.out _ ((Below.refl _ w).alloc (Nat.le_refl _) _)).mono ?_; rintro e w1 ⟨rfl, hb1⟩; have HB1 : Below w.heap.size w w1 := ((Below.refl _ w).alloc (Nat.le_refl _) _).trans (hb1.mono (by simp)))
  have HB1 := Lib.hid HB1
  go_loopg [4, 5] T.size (fun gg s4 s5 wr => ∃ i : Nat, i ≤ T.size ∧ T.size - i ≤ gg ∧ s4 = .int .i64 i ∧ Aside (Below w.heap.size w wr))
  case atStart => exact ⟨0, Nat.zero_le _, by omega, rfl, HB1.out⟩
  case round =>
    obtain ⟨i, hi, hg, rfl, BW⟩ := hrel
    obtain ⟨wo, rfl⟩ : ∃ wo : World, wo = wr := ⟨_, rfl⟩
    by_cases hlt : i < T.size
    · have hltz : (i : Int) < (T.size : Int) := by omega
      go_wp2_with fail
      go_loopg [5] i (fun gg s5 wr => ∃ k : Nat, k ≤ i ∧ i - k ≤ gg ∧ s5 = .int .i64 k ∧ Aside (Below w.heap.size w wr))
      case atStart => exact ⟨0, Nat.zero_le _, by omega, rfl, BW⟩
      case round =>
        obtain ⟨k, hk, hg2, rfl, BW2⟩ := hrel
        by_cases hlt2 : k < i
        · have hltz2 : (k : Int) < (i : Int) := by omega
          have ci := (BW2.out.cell (p := ⟨b, off + (0 + i) * 5, none⟩) hb).trans (HN.out i (by rw [hlen]; exact hlt)).1
          have ck := (BW2.out.cell (p := ⟨b, off + (0 + k) * 5, none⟩) hb).trans (HN.out k (by rw [hlen]; omega)).1
          rw [Nat.zero_add] at ci ck
          have hne := Lib.hid (hap.out i k (by rw [hlen]; exact hlt) hlt2)
          generalize (T.nodes 0)[i]!.p = pi at ci hne
          generalize (T.nodes 0)[k]!.p = pk at ck hne
          have i0 : (0 : Int) ≤ (i : Int) := by omega
          have i1 : (0 : Int) ≤ (k : Int) := by omega
          have i2 : (k : Int) < (T.size : Int) := by omega
          by_cases hp : 0 < pi
          · have hq : (pi == pk) = false := by simpa using hne.out hp
            have hq2 : decide (pi = pk) = false := by simpa using hne.out hp
            go_wp2_with fail
            go_quiet (fail)
            go_wp2
            go_roundg (i - (k + 1))
            case measure => omega
            case rel => exact ⟨k + 1, by omega, by omega, by go_num, ⟨BW2.out.os, BW2.out.tape, BW2.out.output, BW2.out.size, BW2.out.block⟩⟩
          · have hp0 : decide (0 < pi) = false := by simpa using hp
            go_wp2_with fail
            go_quiet (fail)
            go_wp2
            go_roundg (i - (k + 1))
            case measure => omega
            case rel => exact ⟨k + 1, by omega, by omega, by go_num, ⟨BW2.out.os, BW2.out.tape, BW2.out.output, BW2.out.size, BW2.out.block⟩⟩
        · have hltz2 : ¬ (k : Int) < (i : Int) := by omega
          go_wp2
          go_roundg (T.size - (i + 1))
          case measure => omega
          case rel => exact ⟨i + 1, by omega, by omega, by go_num, BW2⟩
    · have hltz : ¬ (i : Int) < (T.size : Int) := by omega
      go_wp2
      go_ret
      exact ⟨rfl, BW.out⟩
end Go.Proofs
namespace Tp
theorem named_succ (l : List Nd) (k : Nat) (h : k < l.length) : (l.take (k + 1)).flatMap Tr.named = (l.take k).flatMap Tr.named ++ Tr.named l[k]! := by
  rw [List.take_succ_eq_append_getElem h, List.flatMap_append, getElem!_pos l k h]; simp
theorem named_length (l : List Nd) : (l.flatMap Tr.named).length ≤ l.length := by
  induction l with
  | nil => simp
  | cons x m ih =>
    rw [List.flatMap_cons, List.length_append, List.length_cons]
    have : (Tr.named x).length ≤ 1 := by unfold Tr.named; split <;> simp
    omega
end Tp
namespace Go.Proofs
open Go.RowKit Go.Lib Go.Sort Tp
attribute [local go_sem ↓] Go.wp_at_zero Go.wp_at_succ

set_option maxRecDepth 100000 in
set_option maxHeartbeats 1000000 in
theorem Try.rpanes_ok (T : Tr) (hT : Whole T) (v : Value) (w : World) (hv : NodesAt w v (T.nodes 0)) :
    Calls Try.prog 17 #[.agg #[v]] w (IntsPost T.panes w) := by
  have hOk := Lib.hid (fun w' (hW : Below w.heap.size w w') => Try.rok2_ok T hT v w' (hv.below hW))
  have hP := Lib.hid (Tr.nodes_panes 0 hT.good)
  obtain ⟨i0, hi0, hz0, hz1, hz2⟩ := info_parts Try.infoInt
  obtain ⟨b, off, c, rfl, hb, hN⟩ := hv
  have hlen := T.nodes_length 0
  have hs := hT.size
  have HN := Lib.hid hN
  rw [hlen] at hOk ⊢
  clear hN hT
  generalize hl : T.nodes 0 = l at *
  clear hl
  go_enter Try.func17, Try.ntmps17
  go_wp2_with fail
  go_loopg [3, 4] l.length (fun gg s3 s4 wr => ∃ kk : Nat, kk ≤ l.length ∧ l.length - kk ≤ gg ∧ s4 = .int .i64 kk ∧ wr.ownsRow (w.heap.size + 1) 3 1 s3 ((l.take kk).flatMap Tr.named).length (((l.take kk).flatMap Tr.named).map (Value.int .i64)) ∧ Aside (Below (w.heap.size + 1) (w.alloc (.cells #[.slice (some ⟨b, off, none⟩) T.size c] 26)) wr))
  case atStart => exact ⟨0, Nat.zero_le _, by omega, rfl, ⟨rfl, .inl ⟨rfl, rfl⟩⟩, Below.refl _ _⟩
  case round =>
    obtain ⟨kk, hkk, hg, rfl, hown, BW⟩ := hrel
    have hbox : wr.cell? ⟨w.heap.size, 0, none⟩ = some (.slice (some ⟨b, off, none⟩) T.size c) := (BW.out.cell (p := ⟨w.heap.size, 0, none⟩) (Nat.lt_succ_self _)).trans (cell_block (heap_alloc_new w _) 0)
    have hws : w.heap.size + 1 ≤ wr.heap.size := by have := BW.out.size; simp at this; omega
    have HO := Lib.hid hown
    clear hown
    by_cases hlt : kk < l.length
    · have hltz : (kk : Int) < (T.size : Int) := by omega
      have ck0 := (HN.out kk hlt).1
      rw [Nat.zero_add] at ck0
      have hsucc := Lib.hid (named_succ l kk hlt)
      have hcnt : ((l.take kk).flatMap Tr.named).length ≤ 63 := Nat.le_trans (named_length _) (by rw [List.length_take]; omega)
      have hWr : Below w.heap.size w wr := ((Below.refl _ w).alloc (Nat.le_refl _) _).trans (BW.out.mono (Nat.le_succ _))
      have ck := (hWr.cell (p := ⟨b, off + kk * 5, none⟩) hb).trans ck0
      go_wp2_with fail
      go_at_call 34
      refine (hOk.out _ hWr).mono ?_
      rintro e w1 ⟨rfl, hb1⟩
      have BW1 : Below (w.heap.size + 1) (w.alloc (.cells #[.slice (some ⟨b, off, none⟩) T.size c] 26)) w1 := BW.out.trans (hb1.mono hws)
      have hbox1 : w1.cell? ⟨w.heap.size, 0, none⟩ = some (.slice (some ⟨b, off, none⟩) T.size c) := (BW1.cell (p := ⟨w.heap.size, 0, none⟩) (Nat.lt_succ_self _)).trans (cell_block (heap_alloc_new w _) 0)
      have ck1 := (hb1.cell (p := ⟨b, off + kk * 5, none⟩) (Nat.lt_of_lt_of_le hb hWr.size)).trans ck
      have HO1 := Lib.hid (own_below HO.out hb1)
      have hs1 := hb1.size
      have BW1 := Lib.hid BW1
      generalize l[kk]! = x at ck0 ck ck1 hsucc
      clear ck ck0
      by_cases hp : 0 < x.p
      · have hnm := Lib.hid (show Tr.named x = [x.p] by unfold Tr.named; rw [if_pos hp])
        have hown1 := own_below HO1.out ((Below.refl _ w1).alloc (Nat.le_refl _) (.cells #[.int .i64 x.p] 3))
        obtain ⟨v', w', hrun, hown', hgrow, _⟩ := app_run (P := Try.prog) (w1.alloc (.cells #[.int .i64 x.p] 3)) (w.heap.size + 1) 22 22 3 i0 _ 1 8 Try.underlying22 hi0 hz0 hz1 hz2 rfl (by decide) u3 _ _ hown1 (.slice (some ⟨w1.heap.size, 0, none⟩) 1 1) 1 [.int .i64 x.p]
          (Rd.of_block (cs := #[.int .i64 x.p]) (heap_alloc_new w1 _) rfl) (by simp [Value.oneCell']) (by simp only [maxLen]; omega) (by omega) (by simp; omega)
        have hrun := Lib.hid hrun
        have hlo := hown1.lt
        have G := Lib.hid (((BW1.out.alloc (by omega) _)).grown hgrow (by simp; omega) (fun k e => (hlo k e).1))
        have O := Lib.hid hown'
        clear hown1 hown' hgrow hlo
        go_wp2_with (at_builtin; refine Lib.wpList_append_run _ rfl _ _ _ _ rfl _ _ (by rfl) (by rfl) _ _ hrun.out ?_)
        go_roundg (l.length - (kk + 1))
        case measure => omega
        case rel =>
          refine ⟨kk + 1, by omega, by omega, by go_num, ?_, G.out⟩
          rw [hsucc.out, hnm.out, List.length_append, List.map_append]
          exact O.out
      · have hnm := Lib.hid (show Tr.named x = [] by unfold Tr.named; rw [if_neg hp])
        go_wp2
        go_roundg (l.length - (kk + 1))
        case measure => omega
        case rel =>
          refine ⟨kk + 1, by omega, by omega, by go_num, ?_, BW1.out⟩
          rw [hsucc.out, hnm.out, List.append_nil]
          exact HO1.out
    · have hltz : ¬ (kk : Int) < (T.size : Int) := by omega
      have hk : kk = l.length := by omega
      have hWr : Below w.heap.size w wr := ((Below.refl _ w).alloc (Nat.le_refl _) _).trans (BW.out.mono (Nat.le_succ _))
      go_wp2
      go_ret
      refine ⟨_, rfl, ?_, hWr⟩
      have := Rd.own HO.out
      rw [hk, List.take_length, hP.out] at this
      exact this
end Go.Proofs
namespace Go.Proofs
open Go.RowKit Go.Lib Go.Sort Tp
attribute [local go_sem ↓] Go.wp_at_zero Go.wp_at_succ

set_option maxRecDepth 100000 in
set_option maxHeartbeats 1000000 in
theorem Try.sameints_ok (l : List Int) (u v : Value) (w : World) (h0 : 0 < l.length) (hl : l.length ≤ 1000) (hu : IntsAt w u l) (hv : IntsAt w v l) :
    Calls Try.prog 20 #[u, v] w fun e w' => e = .returned (.bool true) ∧ Below w.heap.size w w' := by
  obtain ⟨b1, o1, k1, rfl, hb1, hc1⟩ := hu.at h0
  obtain ⟨b2, o2, k2, rfl, hb2, hc2⟩ := hv.at h0
  have H1 := Lib.hid hc1; have H2 := Lib.hid hc2
  clear hc1 hc2 hu hv
  go_enter Try.func20, Try.ntmps20
  go_wp2_with fail
  go_loopg [5] l.length (fun gg s5 wr => ∃ i : Nat, i ≤ l.length ∧ l.length - i ≤ gg ∧ s5 = .int .i64 i ∧ Aside (Below w.heap.size w wr))
  case atStart => exact ⟨0, Nat.zero_le _, by omega, rfl, Below.refl _ _⟩
  case round =>
    obtain ⟨i, hi, hg, rfl, BW⟩ := hrel
    by_cases hlt : i < l.length
    · have hltz : (i : Int) < (l.length : Int) := by omega
      have i0 : (0 : Int) ≤ (i : Int) := by omega
      have c1 := (BW.out.cell (p := ⟨b1, o1 + i, none⟩) hb1).trans (H1.out i hlt)
      have c2 := (BW.out.cell (p := ⟨b2, o2 + i, none⟩) hb2).trans (H2.out i hlt)
      generalize l[i] = x at c1 c2
      go_wp2_with fail
      go_quiet (fail)
      go_wp2
      go_roundg (l.length - (i + 1))
      case measure => omega
      case rel => exact ⟨i + 1, by omega, by omega, by go_num, ⟨BW.out.os, BW.out.tape, BW.out.output, BW.out.size, BW.out.block⟩⟩
    · have hltz : ¬ (i : Int) < (l.length : Int) := by omega
      go_wp2
      go_ret
      exact ⟨rfl, BW.out⟩

theorem Try.sameints_no (n c : Nat) (a : Addr) (w : World) (h0 : 0 < n) :
    Calls Try.prog 20 #[.slice none 0 0, .slice (some a) n c] w fun e w' => e = .returned (.bool false) ∧ w = w' := by
  have e1 : ((0 : Int) == (n : Int)) = false := by simp; omega
  have e2 : ¬ (0 : Int) = (n : Int) := by omega
  have e3 : ¬ (n = 0) := by omega
  have e4 : ¬ (0 = n) := by omega
  go_enter Try.func20, Try.ntmps20
  go_wp2
  go_ret
  exact ⟨rfl, rfl⟩

set_option maxRecDepth 100000 in
set_option maxHeartbeats 1000000 in
theorem Try.rects_ok (l : List Rc) (u v : Value) (w : World) (hl : l.length ≤ 1000) (hu : RectsAt w u l) (hv : RectsAt w v l) :
    Calls Try.prog 19 #[u, v] w fun e w' => e = .returned (.bool true) ∧ Below w.heap.size w w' := by
  obtain ⟨A1, k1, rfl, ha1⟩ := Rd.val hu
  obtain ⟨A2, k2, rfl, ha2⟩ := Rd.val hv
  have HU := Lib.hid hu; have HV := Lib.hid hv
  clear hu hv ha1 ha2
  go_enter Try.func19, Try.ntmps19
  go_wp2_with fail
  go_loopg [5, 13] l.length (fun gg s5 s13 wr => ∃ i : Nat, i ≤ l.length ∧ l.length - i ≤ gg ∧ s13 = .int .i64 i ∧ Aside (Below w.heap.size w wr))
  case atStart => exact ⟨0, Nat.zero_le _, by omega, rfl, Below.refl _ _⟩
  case round =>
    obtain ⟨i, hi, hg, rfl, BW⟩ := hrel
    by_cases hlt : i < l.length
    · have hltz : (i : Int) < (l.length : Int) := by omega
      have i0 : (0 : Int) ≤ (i : Int) := by omega
      obtain ⟨b1, o1, j1, e1, hb1, hc1⟩ := RectsAt.at HU.out (by omega)
      obtain ⟨b2, o2, j2, e2, hb2, hc2⟩ := RectsAt.at HV.out (by omega)
      injection e1 with e1 _ e1'; injection e2 with e2 _ e2'
      subst e1 e2 e1' e2'
      obtain ⟨p0, p1, p2, p3⟩ := hc1 i hlt
      obtain ⟨q0, q1, q2, q3⟩ := hc2 i hlt
      have c0 := (BW.out.cell (p := ⟨b1, o1 + i * 4, none⟩) hb1).trans p0
      have c1 := (BW.out.cell (p := ⟨b1, o1 + i * 4 + 1, none⟩) hb1).trans p1
      have c2 := (BW.out.cell (p := ⟨b1, o1 + i * 4 + 2, none⟩) hb1).trans p2
      have c3 := (BW.out.cell (p := ⟨b1, o1 + i * 4 + 3, none⟩) hb1).trans p3
      have d0 := (BW.out.cell (p := ⟨b2, o2 + i * 4, none⟩) hb2).trans q0
      have d1 := (BW.out.cell (p := ⟨b2, o2 + i * 4 + 1, none⟩) hb2).trans q1
      have d2 := (BW.out.cell (p := ⟨b2, o2 + i * 4 + 2, none⟩) hb2).trans q2
      have d3 := (BW.out.cell (p := ⟨b2, o2 + i * 4 + 3, none⟩) hb2).trans q3
      clear hc1 hc2 p0 p1 p2 p3 q0 q1 q2 q3
      generalize l[i] = x at c0 c1 c2 c3 d0 d1 d2 d3
      obtain ⟨x0, x1, x2, x3⟩ := x
      simp only at c0 c1 c2 c3 d0 d1 d2 d3
      go_wp2_with fail
      go_quiet (fail)
      go_wp2
      go_roundg (l.length - (i + 1))
      case measure => omega
      case rel => exact ⟨i + 1, by omega, by omega, by go_num, ⟨BW.out.os, BW.out.tape, BW.out.output, BW.out.size, BW.out.block⟩⟩
    · have hltz : ¬ (i : Int) < (l.length : Int) := by omega
      go_wp2
      go_ret
      exact ⟨rfl, BW.out⟩

set_option maxRecDepth 100000 in
set_option maxHeartbeats 1000000 in
theorem Try.sametree_ok (l : List Nd) (u v : Value) (w : World) (hl : l.length ≤ 1000) (hu : NodesAt w u l) (hv : NodesAt w v l) :
    Calls Try.prog 15 #[.agg #[u], .agg #[v]] w fun e w' => e = .returned (.bool true) ∧ Below w.heap.size w w' := by
  obtain ⟨b1, o1, k1, rfl, hb1, hc1⟩ := hu
  obtain ⟨b2, o2, k2, rfl, hb2, hc2⟩ := hv
  have H1 := Lib.hid hc1; have H2 := Lib.hid hc2
  clear hc1 hc2
  go_enter Try.func15, Try.ntmps15
  go_wp2_with fail
  obtain ⟨t1, t2, t3, t4⟩ := two_new w (.cells #[.slice (some ⟨b1, o1, none⟩) l.length k1] 26) (.cells #[.slice (some ⟨b2, o2, none⟩) l.length k2] 26)
  generalize hW0 : (w.alloc (.cells #[.slice (some ⟨b1, o1, none⟩) l.length k1] 26)).alloc (.cells #[.slice (some ⟨b2, o2, none⟩) l.length k2] 26) = w0 at *
  have t3' := Lib.hid t3
  clear hW0
  go_loopg [5] l.length (fun gg s5 wr => ∃ i : Nat, i ≤ l.length ∧ l.length - i ≤ gg ∧ s5 = .int .i64 i ∧ Aside (Below w0.heap.size w0 wr))
  case atStart => exact ⟨0, Nat.zero_le _, by omega, rfl, Below.refl _ _⟩
  case round =>
    obtain ⟨i, hi, hg, rfl, BW⟩ := hrel
    have s1 : wr.cell? ⟨w.heap.size, 0, none⟩ = some (.slice (some ⟨b1, o1, none⟩) l.length k1) := (BW.out.cell (p := ⟨w.heap.size, 0, none⟩) (by show w.heap.size < _; omega)).trans (cell_block t2 0)
    have s2 : wr.cell? ⟨w.heap.size + 1, 0, none⟩ = some (.slice (some ⟨b2, o2, none⟩) l.length k2) := (BW.out.cell (p := ⟨w.heap.size + 1, 0, none⟩) (by show w.heap.size + 1 < _; omega)).trans (cell_block t1 0)
    by_cases hlt : i < l.length
    · have hltz : (i : Int) < (l.length : Int) := by omega
      have i0 : (0 : Int) ≤ (i : Int) := by omega
      have HB : Below w.heap.size w wr := t3'.out.trans (BW.out.mono (by omega))
      obtain ⟨p0, p1, p2, p3, p4⟩ := H1.out i hlt
      obtain ⟨q0, q1, q2, q3, q4⟩ := H2.out i hlt
      rw [Nat.zero_add] at p0 p1 p2 p3 p4 q0 q1 q2 q3 q4
      have c0 := (HB.cell (p := ⟨b1, o1 + i * 5, none⟩) hb1).trans p0
      have c1 := (HB.cell (p := ⟨b1, o1 + i * 5 + 1, none⟩) hb1).trans p1
      have c2 := (HB.cell (p := ⟨b1, o1 + i * 5 + 2, none⟩) hb1).trans p2
      have c3 := (HB.cell (p := ⟨b1, o1 + i * 5 + 3, none⟩) hb1).trans p3
      have c4 := (HB.cell (p := ⟨b1, o1 + i * 5 + 4, none⟩) hb1).trans p4
      have d0 := (HB.cell (p := ⟨b2, o2 + i * 5, none⟩) hb2).trans q0
      have d1 := (HB.cell (p := ⟨b2, o2 + i * 5 + 1, none⟩) hb2).trans q1
      have d2 := (HB.cell (p := ⟨b2, o2 + i * 5 + 2, none⟩) hb2).trans q2
      have d3 := (HB.cell (p := ⟨b2, o2 + i * 5 + 3, none⟩) hb2).trans q3
      have d4 := (HB.cell (p := ⟨b2, o2 + i * 5 + 4, none⟩) hb2).trans q4
      clear p0 p1 p2 p3 p4 q0 q1 q2 q3 q4 HB
      generalize l[i]! = x at c0 c1 c2 c3 c4 d0 d1 d2 d3 d4
      obtain ⟨x0, x1, x2, x3, x4⟩ := x
      simp only at c0 c1 c2 c3 c4 d0 d1 d2 d3 d4
      go_wp2_with fail
      go_quiet (fail)
      go_wp2
      go_roundg (l.length - (i + 1))
      case measure => omega
      case rel => exact ⟨i + 1, by omega, by omega, by go_num, ⟨BW.out.os, BW.out.tape, BW.out.output, BW.out.size, BW.out.block⟩⟩
    · have hltz : ¬ (i : Int) < (l.length : Int) := by omega
      go_wp2
      go_ret
      exact ⟨rfl, t3'.out.trans (BW.out.mono (by omega))⟩
end Go.Proofs
