/-
  A tree of numbers.
-/
import Derived.Test.YtkcibhokjiciiaaBh
import Derived.Test.YtkcibhokjiciiaaBy
import Derived.Deep.DeepCutAuto
namespace Tp
open Go.Proofs
/-- What a tree of numbers is, after so many numbers. -/
structure GrT (T : Tr) (n : Nat) : Prop where
  whole : Whole T
  fits : T.fits 30 20
  panes : ∀ p ∈ T.panes, 1 ≤ p ∧ p ≤ (n : Int) + 1
  size : T.size ≤ 2 * n + 1
theorem GrT.one : GrT (.leaf 1) 0 :=
  ⟨⟨by simp [Tr.good], by simp [Tr.panes], by simp [Tr.size]⟩, by simp [Tr.fits], by simp [Tr.panes], by simp [Tr.size]⟩
theorem GrT.more {T : Tr} {n m : Nat} (h : GrT T n) (hm : n ≤ m) : GrT T m :=
  ⟨h.whole, h.fits, fun p hp => by have := h.panes p hp; omega, by have := h.size; omega⟩
theorem lng_spots {T : Tr} {x y p d : Int} (hn : T.panes.Nodup) {s : Sp} (hs : s ∈ T.spots (whole x y)) (hp : s.pane = p) : lng (T.spots (whole x y)) p d = if d = 1 then s.r.w else s.r.h := by
  obtain ⟨j, hj, rfl⟩ := List.mem_iff_getElem.1 hs
  rw [← Tr.spots_panes T (whole x y)] at hn
  refine lng_at hj (fun i hi hij h => ?_) hp
  have := List.pairwise_iff_getElem.1 hn i j (by simpa using hi) (by simpa using hj) hij
  simp only [List.getElem_map] at this
  exact this (h.trans hp.symm)
theorem put_whole {T : Tr} {x y p fresh d f : Int} (hT : Whole T) (hf : T.fits x y) (hx : x ≤ 1000) (hy : y ≤ 1000) (hp : p ∈ T.panes) (hfr : fresh ∉ T.panes) (hf1 : 1 ≤ fresh ∧ fresh ≤ 1000000) (hd : d = 1 ∨ d = 2) (h1 : 1 ≤ f) (h2 : f ≤ lng (T.spots (whole x y)) p d - 2) (hs : T.size + 2 ≤ 63) :
    Whole (T.put p fresh d f) ∧ (T.put p fresh d f).fits x y := by
  have hb : ∀ s ∈ T.spots (whole x y), s.pane = p → f ≤ (if d = 1 then s.r.w else s.r.h) - 2 := fun s hs e => by rw [← lng_spots hT.nodup hs e]; exact h2
  have hle : f ≤ 1000 := by
    have : p ∈ (T.spots (whole x y)).map (·.pane) := by rw [Tr.spots_panes]; exact hp
    obtain ⟨s, hs, e⟩ := List.mem_map.1 this
    have h := hb s hs e
    have hi := Tr.spots_in (T := T) (r := whole x y) hf s hs
    simp only [whole] at hi
    split at h <;> omega
  refine ⟨⟨Tr.put_good hd h1 hle hf1 hT.good, ?_, by rw [Tr.put_size hT.nodup hp]; exact hs⟩, Tr.put_fits (r := whole x y) hd h1 hf hb⟩
  rw [Tr.put_panes]
  have key : ∀ l : List Int, l.Nodup → fresh ∉ l → (l.flatMap fun q => if q = p then [q, fresh] else [q]).Nodup ∧ ∀ z ∈ (l.flatMap fun q => if q = p then [q, fresh] else [q]), z ∈ l ∨ (z = fresh ∧ p ∈ l) := by
    intro l
    induction l with
    | nil => intro _ _; simp
    | cons a m ih =>
      intro hn hm
      rw [List.nodup_cons] at hn
      simp only [List.mem_cons, not_or] at hm
      obtain ⟨i1, i2⟩ := ih hn.2 hm.2
      rw [List.flatMap_cons]
      by_cases e : a = p
      · rw [if_pos e]
        have hnp : p ∉ m := e ▸ hn.1
        refine ⟨?_, fun z hz => ?_⟩
        · simp only [List.cons_append, List.nil_append, List.nodup_cons, List.mem_cons, not_or]
          refine ⟨⟨fun h => hm.1 h.symm, fun h => ?_⟩, fun h => ?_, i1⟩
          · rcases i2 _ h with h | ⟨h, _⟩
            · exact hn.1 h
            · exact hm.1 h.symm
          · rcases i2 _ h with h | ⟨_, h⟩
            · exact hm.2 h
            · exact hnp h
        · simp only [List.cons_append, List.nil_append, List.mem_cons] at hz
          rcases hz with rfl | rfl | hz
          · exact .inl (by simp)
          · exact .inr ⟨rfl, by simp [e]⟩
          · rcases i2 _ hz with h | ⟨h, h'⟩
            · exact .inl (by simp [h])
            · exact .inr ⟨h, by simp [h']⟩
      · rw [if_neg e]
        refine ⟨?_, fun z hz => ?_⟩
        · simp only [List.cons_append, List.nil_append, List.nodup_cons]
          refine ⟨fun h => ?_, i1⟩
          rcases i2 _ h with h | ⟨h, _⟩
          · exact hn.1 h
          · exact hm.1 h.symm
        · simp only [List.cons_append, List.nil_append, List.mem_cons] at hz
          rcases hz with rfl | hz
          · exact .inl (by simp)
          · rcases i2 _ hz with h | ⟨h, h'⟩
            · exact .inl (by simp [h])
            · exact .inr ⟨h, by simp [h']⟩
  exact (key _ hT.nodup hfr).1
theorem put_mem {T : Tr} {p fresh d f : Int} : ∀ q ∈ (T.put p fresh d f).panes, q ∈ T.panes ∨ q = fresh := fun q hq => by
  rw [Tr.put_panes, List.mem_flatMap] at hq
  obtain ⟨a, ha, hq⟩ := hq
  split at hq
  · simp only [List.mem_cons, List.not_mem_nil, or_false] at hq
    rcases hq with rfl | rfl
    · exact .inl ha
    · exact .inr rfl
  · simp only [List.mem_singleton] at hq; subst hq; exact .inl ha
theorem GrT.put {T : Tr} {n : Nat} {p d f : Int} (h : GrT T n) (hn : n < 8) (hp : p ∈ T.panes) (hd : d = 1 ∨ d = 2) (h1 : 1 ≤ f) (h2 : f ≤ lng (T.spots (Go.Proofs.whole 30 20)) p d - 2) : GrT (T.put p ((n : Int) + 2) d f) (n + 1) := by
  have hfr : ((n : Int) + 2) ∉ T.panes := fun hm => by have := h.panes _ hm; omega
  obtain ⟨w1, w2⟩ := put_whole h.whole h.fits (by omega) (by omega) hp hfr ⟨by omega, by omega⟩ hd h1 h2 (by have := h.size; omega)
  refine ⟨w1, w2, fun q hq => ?_, by rw [Tr.put_size h.whole.nodup hp]; have := h.size; omega⟩
  rcases put_mem q hq with hq | rfl
  · have := h.panes q hq; omega
  · omega
end Tp
namespace Go.Proofs
open Go.RowKit Go.Lib Go.Sort Tp
attribute [local go_sem ↓] Go.wp_at_zero Go.wp_at_succ

/-- A slice of numbers that came in: one of none may lie anywhere. -/
def IntsIn (w : World) (v : Value) (xs : List Int) : Prop := ∃ A c, v = .slice A xs.length c ∧ (0 < xs.length → IntsAt w v xs)
def GrownPost (w : World) (e : Ending) (w' : World) : Prop := ∃ T b off c, GrT T 8 ∧ e = .returned (.agg #[.slice (some ⟨b, off, none⟩) T.size c]) ∧ NodesAt w' (.slice (some ⟨b, off, none⟩) T.size c) (T.nodes 0) ∧ Below w.heap.size w w'
/-- What stands at a loop's head. -/
def TreeIn (T : Tr) (A B : Nat) (w : World) : Prop := ∃ b off c, w.heap[B]? = some (.cells #[.slice (some ⟨b, off, none⟩) T.size c] 26) ∧ (b ≠ A ∧ b ≠ B) ∧ NodesAt w (.slice (some ⟨b, off, none⟩) T.size c) (T.nodes 0)

/-- What Split answers, told or not. -/
def SplitU (B m : Nat) (w : World) (e : Ending) (w' : World) : Prop := ∃ (o : Option Addr) (l c : Nat) (okb : Bool), e = .returned (.tuple #[.agg #[.slice o l c], .bool okb]) ∧ Below w.heap.size w w' ∧
  Aside (okb = false ∨ okb = true ∧ ∃ T' b' o', GrT T' m ∧ o = some ⟨b', o', none⟩ ∧ l = T'.size ∧ (B ≤ b' ∧ w.heap.size ≤ b') ∧ NodesAt w' (.slice o l c) (T'.nodes 0))

set_option maxRecDepth 100000 in
set_option maxHeartbeats 4000000 in
theorem Try.tree_ok (xs : List Int) (v : Value) (w : World) (hx : xs.length ≤ maxLen) (hv : IntsIn w v xs) :
    Calls Try.prog 8 #[v, .int .i64 30, .int .i64 20] w (GrownPost w) := by
  unfold maxLen at hx
  obtain ⟨LA, lc, rfl, hv⟩ := hv
  have HV := Lib.hid hv
  clear hv
  have h255 := i64_and255
  have h1 := i64_and1
  go_enter Try.func8, Try.ntmps8
  go_wp2_with fail
  go_at_call 24
  refine (Try.rone_ok _).mono ?_
  rintro e w1 ⟨b, off, c, rfl, hb, hN, hb1⟩
  have F0 := Lib.hid ((hb1.block w.heap.size (by simp)).trans (heap_alloc_new w _))
  have HB1 : Below w.heap.size w w1 := ((Below.refl _ w).alloc (Nat.le_refl _) _).trans (hb1.mono (by simp))
  have hs1 : w.heap.size < w1.heap.size := by have := hb1.size; simp at this; omega
  have hlb : b < w1.heap.size := by obtain ⟨_, _, _, e, h, _⟩ := hN; injection e with e1 e2 e3; injection e1 with e1; injection e1 with e1; rw [e1]; exact h
  have HN := Lib.hid hN
  clear hN hb1
  go_wp2_with fail
  have T0 : TreeIn (.leaf 1) w.heap.size w1.heap.size (w1.alloc (.cells #[.slice (some ⟨b, off, none⟩) (Tr.leaf 1).size c] 26)) :=
    ⟨b, off, c, heap_alloc_new w1 _, by (have hb := hb; simp at hb; exact ⟨by omega, by omega⟩), HN.out.below ((Below.refl _ w1).alloc (Nat.le_refl _) _)⟩
  have T0 := Lib.hid T0
  go_loopg [8, 9, 10, 11] xs.length (fun gg s8 s9 s10 s11 wr => ∃ (kk : Nat) (T : Tr), kk ≤ xs.length ∧ kk ≤ 8 ∧ xs.length - kk ≤ gg ∧ s8 = .int .i64 kk ∧ Aside (GrT T kk) ∧ Aside (TreeIn T w.heap.size w1.heap.size wr) ∧ Aside (Below w1.heap.size w1 wr))
  case atStart => exact ⟨0, .leaf 1, Nat.zero_le _, Nat.zero_le _, by omega, rfl, GrT.one, T0.out, (Below.refl _ w1).alloc (Nat.le_refl _) _⟩
  case round =>
    obtain ⟨kk, T, hk1, hk2, hg, rfl, GR, TI, BW⟩ := hrel
    obtain ⟨tb, tof, tc, ht1, ht2, ht3⟩ := TI.out
    have tcell := cell_block ht1 0
    have tfree := free_block ht1 0
    have hsr := BW.out.size
    have TN := Lib.hid ht3
    have TH := Lib.hid ht1
    clear ht1 ht3
    by_cases hlt : kk < xs.length ∧ kk < 8
    · obtain ⟨hlt1, hlt2⟩ := hlt
      have hz1 : (kk : Int) < (xs.length : Int) := by omega
      have hz2 : (kk : Int) < 8 := by omega
      obtain ⟨lb, lo, lc', el, hlb2, hlc⟩ := IntsAt.at (HV.out (by omega)) (by omega)
      injection el with el1 _ el3
      subst el1 el3
      have HBr : Below w.heap.size w wr := HB1.trans (BW.out.mono HB1.size)
      have lx := (HBr.cell (p := ⟨lb, lo + kk, none⟩) hlb2).trans (hlc kk hlt1)
      have i0 : (0 : Int) ≤ (kk : Int) := by omega
      have hP := Lib.hid (Try.rpanes_ok T GR.out.whole _ wr TN.out)
      have hpl : 0 < T.panes.length ∧ T.panes.length ≤ 63 := by have := T.panes_length; have := T.size_pos; have := GR.out.whole.size; omega
      generalize xs[kk] = x at lx
      have hi1 : (0 : Int) ≤ x % 256 % (T.panes.length : Int) := Int.emod_nonneg _ (by omega)
      have hi2 : x % 256 % (T.panes.length : Int) < (T.panes.length : Int) := Int.emod_lt_of_pos _ (by omega)
      have hi3 : (0 : Int) ≤ x % 256 := by omega
      have hidx : (x % 256 % (T.panes.length : Int)).toNat < T.panes.length := by
        have h := Int.toNat_of_nonneg hi1
        generalize x % 256 % (T.panes.length : Int) = z at *
        omega
      have hrem : (x % 256).tmod (T.panes.length : Int) = x % 256 % (T.panes.length : Int) := Int.tmod_eq_emod_of_nonneg hi3
      go_upto_region 6 with (go_at_call 17; refine (hP.out).mono ?_; rintro e w2 ⟨vp, rfl, hvp, hb2⟩; obtain ⟨pb, po, pc, rfl, hpb, hpc⟩ := hvp.at hpl.1; have PC := Lib.hid hpc; clear hvp hpc)
      have hs2 := hb2.size
      have pcell := PC.out (x % 256 % (T.panes.length : Int)).toNat hidx
      have hmem : T.panes[(x % 256 % (T.panes.length : Int)).toNat]'hidx ∈ T.panes := List.getElem_mem _
      generalize T.panes[(x % 256 % (T.panes.length : Int)).toNat]'hidx = pn at pcell hmem
      have tcell2 := (hb2.cell (p := ⟨w1.heap.size, 0, none⟩) (by show w1.heap.size < _; exact (Array.getElem?_eq_some_iff.1 TH.out).1)).trans tcell
      have lx2 := (hb2.cell (p := ⟨lb, lo + kk, none⟩) (Nat.lt_of_lt_of_le hlb2 HBr.size)).trans lx
      have hlw := (Array.getElem?_eq_some_iff.1 TH.out).1
      have K3 := Lib.hid (fun w' (h : Below w2.heap.size w2 w') => (show Below w2.heap.size w2 w' ∧ w'.cell? ⟨w1.heap.size, 0, none⟩ = some (.slice (some ⟨tb, tof, none⟩) T.size tc) ∧ w'.cell? ⟨lb, lo + kk, none⟩ = some (.int .i64 x) ∧ w'.cell? ⟨pb, po + (x % 256 % (T.panes.length : Int)).toNat, none⟩ = some (.int .i64 pn) ∧ True from
        ⟨h, (h.cell (p := ⟨w1.heap.size, 0, none⟩) (by show w1.heap.size < _; omega)).trans tcell2, (h.cell (p := ⟨lb, lo + kk, none⟩) (by show lb < _; have := HBr.size; omega)).trans lx2, (h.cell (p := ⟨pb, po + (x % 256 % (T.panes.length : Int)).toNat, none⟩) hpb).trans pcell, trivial⟩))
      have hfr : ((kk : Int) + 2) ∉ T.panes := fun hm => by have := GR.out.panes _ hm; omega
      have hd : x / 256 % 2 + 1 = 1 ∨ x / 256 % 2 + 1 = 2 := by omega
      have hSP := fun (bb : Nat) w' (hW : Below w2.heap.size w2 w') => Try.rsplit_ok T GR.out.whole _ 30 20 pn ((kk : Int) + 2) (x / 256 % 2 + 1) bb w' GR.out.fits (by omega) (by omega) hmem (GR.out.panes _ hmem).1 hfr (by omega) (by have := GR.out.size; omega) hd (TN.out.below (hb2.trans (hW.mono hs2)))
      have GRm := Lib.hid (fun f (h1 : 1 ≤ f) (h2 : f ≤ lng (T.spots (whole 30 20)) pn (x / 256 % 2 + 1) - 2) => GR.out.put hlt2 hmem hd h1 h2)
      clear tcell lx pcell hfr hd
      generalize lng (T.spots (whole 30 20)) pn (x / 256 % 2 + 1) = n at hSP GRm
      have hL : 1 ≤ T.panes.length := hpl.1
      clear hpl PC hP hidx
      generalize T.panes.length = L at *
      have hl0 : ((L : Int) == 0) = false := by rw [beq_eq_false_iff_ne]; omega
      have hl1 : ¬ (L : Int) = 0 := by omega
      have hl2 : ¬ L = 0 := by omega
      go_cut [10, 11] (fun s10 s11 wx => ∃ (gu : Nat) (okb : Bool), s10 = .pointer (some ⟨gu, 0, none⟩) ∧ s11 = .bool okb ∧ w2.heap.size ≤ gu ∧ Aside (Below w2.heap.size w2 wx) ∧
        Aside (okb = false ∨ (okb = true ∧ ∃ T' b' o' c', GrT T' (kk + 1) ∧ wx.cell? ⟨gu, 0, none⟩ = some (.slice (some ⟨b', o', none⟩) T'.size c') ∧ w2.heap.size ≤ b' ∧ NodesAt wx (.slice (some ⟨b', o', none⟩) T'.size c') (T'.nodes 0))))
      case first =>
        have hSp := Lib.hid (fun (bb : Nat) w' (hW : Below w2.heap.size w2 w') => (hSP bb w' hW).mono (fun e w'' h => show SplitU w2.heap.size (kk + 1) w' e w'' by
          rcases h with ⟨_, rfl, hb⟩ | ⟨_, f, h1, h2, b', o', c', rfl, hl, hN, hb⟩
          · exact ⟨none, 0, 0, false, rfl, hb, .inl rfl⟩
          · exact ⟨some ⟨b', o', none⟩, _, c', true, rfl, hb, .inr ⟨rfl, _, b', o', GRm.out f h1 h2, rfl, rfl, ⟨Nat.le_trans hW.size hl, hl⟩, hN⟩⟩))
        have hw1 : IntKind.i64.wrap ((kk : Int) + 2) = (kk : Int) + 2 := IntWalk.i64_in _ (by omega)
        have hw2 : IntKind.i64.wrap (x / 256 % 2 + 1) = x / 256 % 2 + 1 := IntWalk.i64_in _ (by omega)
        clear hSP GRm HV F0 HB1 HN T0 TI BW GR TN TH hg hk1 hx tfree ht2 HBr hmem hlb2 hlc hz1 hz2 hb hlb hpb
        go_region_held3 (fun w' => Below w2.heap.size w2 w' ∧ w'.cell? ⟨w1.heap.size, 0, none⟩ = some (.slice (some ⟨tb, tof, none⟩) T.size tc) ∧ w'.cell? ⟨lb, lo + kk, none⟩ = some (.int .i64 x) ∧ w'.cell? ⟨pb, po + (x % 256 % (L : Int)).toNat, none⟩ = some (.int .i64 pn) ∧ True)
          ((refine K3.out _ ?_; repeat (first | with_reducible assumption | with_reducible exact Below.refl _ _ | with_reducible refine Below.drew ?_ | (with_reducible refine Below.setCell ?_ ?_ _; rotate_left; (first | omega | (simp <;> omega))) | (with_reducible refine Below.alloc ?_ ?_ _; rotate_left; (first | omega | (simp <;> omega))))))
          (first
            | ((go_at_call 26; refine (Try.number_ok _ _).mono ?_; rintro e w3 ⟨bb, rfl, hb3⟩
                have hB3 : Below w2.heap.size w2 w3 := Below.trans (by repeat (first | with_reducible assumption | with_reducible exact Below.refl _ _ | with_reducible refine Below.drew ?_ | (with_reducible refine Below.setCell ?_ ?_ _; rotate_left; (first | omega | (simp <;> omega))) | (with_reducible refine Below.alloc ?_ ?_ _; rotate_left; (first | omega | (simp <;> omega))))) (hb3.mono (by first | omega | (simp <;> omega)))
                obtain ⟨hc3, hz3⟩ := bcell hb3
                have hs3 := hB3.size
                have hs3' := hb3.size
                try simp at hs3'
                try (have qq : w2.heap.size < w3.heap.size := by omega)))
            | ((go_at_call 25; refine (hSp.out _ _ (by repeat (first | with_reducible assumption | with_reducible exact Below.refl _ _ | with_reducible refine Below.drew ?_ | (with_reducible refine Below.setCell ?_ ?_ _; rotate_left; (first | omega | (simp <;> omega))) | (with_reducible refine Below.alloc ?_ ?_ _; rotate_left; (first | omega | (simp <;> omega)))))).mono ?_
                rintro e w4 ⟨oo, ll, cc, okb, rfl, hb4, hU⟩
                obtain ⟨hc4, hz4⟩ := bcell hb4
                have hs4' := hb4.size
                try simp at hs4'
                have hB4 : Below w2.heap.size w2 w4 := Below.trans (by repeat (first | with_reducible assumption | with_reducible exact Below.refl _ _ | with_reducible refine Below.drew ?_ | (with_reducible refine Below.setCell ?_ ?_ _; rotate_left; (first | omega | (simp <;> omega))) | (with_reducible refine Below.alloc ?_ ?_ _; rotate_left; (first | omega | (simp <;> omega))))) (hb4.mono (by first | omega | (simp <;> omega)))
                try (have qr : w2.heap.size < w4.heap.size := by omega)
                try (have qs : w3.heap.size < w4.heap.size := by omega))))
        all_goals (go_wp2_with fail)
        all_goals go_meet
        all_goals refine ⟨_, okb, rfl, rfl, (by first | omega | (simp; omega)), (show Below _ _ _ from by repeat (first | with_reducible assumption | with_reducible exact Below.refl _ _ | with_reducible refine Below.drew ?_ | (with_reducible refine Below.setCell ?_ ?_ _; rotate_left; (first | omega | (simp <;> omega))) | (with_reducible refine Below.alloc ?_ ?_ _; rotate_left; (first | omega | (simp <;> omega))))), ?_⟩
        all_goals (rcases hU.out with rfl | ⟨rfl, T', b', o', G, rfl, rfl, hb', hN⟩; exact .inl rfl; refine .inr ⟨rfl, T', b', o', cc, G, ?_, hb'.1, ?_⟩)
        all_goals try (first | exact cell_block (heap_alloc_new w4 _) 0 | exact hN.below ((Below.refl _ w4).alloc (Nat.le_refl _) _))
        all_goals try (refine nodes_set hN (fun b2 o2 c2 e => ?_) _ _; injection e with e1 e2 e3; injection e1 with e1; injection e1 with e1; rw [← e1]; first | omega | (simp; omega) | (have := hb'.2; simp at this; omega))
        all_goals (first
          | exact cell_block (heap_set ((hb4.block w3.heap.size (by simp)).trans (heap_alloc_new w3 _)) _) 0
          | exact cell_block (heap_set ((hb4.block w2.heap.size (by omega)).trans ((hb3.block w2.heap.size (by simp)).trans (heap_alloc_new w2 _))) _) 0
          | exact cell_block (heap_set ((hb4.block w2.heap.size (by omega)).trans ((hb3.block w2.heap.size (by simp)).trans (heap_alloc_new w2.drew _))) _) 0)
      case rest =>
        obtain ⟨gu, okb, rfl, rfl, hgu, BC, hcase⟩ := hcut
        have hhb := (hb2.block w1.heap.size hlw).trans TH.out
        have hhb := (BC.out.block w1.heap.size (by omega)).trans hhb
        have TNc := Lib.hid (TN.out.below (hb2.trans (BC.out.mono hs2)))
        have BWc := Lib.hid (BW.out.trans ((hb2.trans (BC.out.mono hs2)).mono hsr))
        have zc := cell_block hhb 0
        have zf := free_block hhb 0
        have HH := Lib.hid hhb
        clear hhb hSP K3 GRm hi1 hi2 hrem hl0 hl1 hl2 tcell2 lx2 hi3
        rcases hcase.out with rfl | ⟨rfl, T', b', o', c', G', hcl, hb', hN'⟩
        · go_wp2
          go_roundg (xs.length - (kk + 1))
          case measure => omega
          case rel => exact ⟨kk + 1, T, by omega, by omega, by omega, by go_num, GR.out.more (by omega), ⟨tb, tof, tc, HH.out, ht2, TNc.out⟩, BWc.out⟩
        · have NN := Lib.hid hN'
          have GG := Lib.hid G'
          clear hN' G' hcase
          go_wp2
          go_roundg (xs.length - (kk + 1))
          case measure => omega
          case rel =>
            refine ⟨kk + 1, T', by omega, by omega, by omega, by go_num, GG.out, ⟨b', o', c', heap_set HH.out _, ⟨by omega, by omega⟩, nodes_set NN.out (fun b2 o2 c2 e => ?_) _ _⟩, BWc.out.setCell (Nat.le_refl _) _⟩
            injection e with e1 e2 e3; injection e1 with e1; injection e1 with e1
            rw [← e1]; omega
    · have HBr : Below w.heap.size w wr := HB1.trans (BW.out.mono HB1.size)
      have rc := cell_block ((BW.out.block w.heap.size (by omega)).trans F0.out) 0
      have rz := free_block ((BW.out.block w.heap.size (by omega)).trans F0.out) 0
      have hT8 := Lib.hid (GR.out.more hk2)
      by_cases ha : kk < xs.length
      · have hz1 : (kk : Int) < (xs.length : Int) := by omega
        have hz2 : ¬ (kk : Int) < 8 := by omega
        go_wp2
        refine bodyPost_ret (v := .agg #[.slice (some ⟨tb, tof, none⟩) T.size tc]) (by simp [results, Try.results8, go_sem, rc]) rfl ⟨T, tb, tof, tc, hT8.out, rfl, ?_, HBr.setCell (Nat.le_refl _) _⟩
        refine nodes_set TN.out (fun b2 o2 c2 e => ?_) _ _
        injection e with e1 e2 e3; injection e1 with e1; injection e1 with e1
        rw [← e1]; exact ht2.1
      · have hz1 : ¬ (kk : Int) < (xs.length : Int) := by omega
        go_wp2
        refine bodyPost_ret (v := .agg #[.slice (some ⟨tb, tof, none⟩) T.size tc]) (by simp [results, Try.results8, go_sem, rc]) rfl ⟨T, tb, tof, tc, hT8.out, rfl, ?_, HBr.setCell (Nat.le_refl _) _⟩
        refine nodes_set TN.out (fun b2 o2 c2 e => ?_) _ _
        injection e with e1 e2 e3; injection e1 with e1; injection e1 with e1
        rw [← e1]; exact ht2.1
end Go.Proofs
