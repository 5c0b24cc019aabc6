/-
  Plain laws of the statements: counts along a row, places along a row. Whether a cell is in a rectangle; steps of a walk along worlds; numbers of trees of numbers.
-/
import Derived.Test.YtkcibhokjiciiaaBi
import Derived.Test.YtkcibhokjiciiaaBf
import Derived.Deep.QuietTactic
import Derived.BigQuiet
namespace Tp
open Go.Proofs
/-- What stands behind a count of those that are meant. -/
theorem filter_at {α : Type} (P : α → Bool) : ∀ (l : List α) (i : Nat) (hi : i < l.length), P l[i] = true → (l.filter P)[((l.take i).filter P).length]? = some l[i]
  | [], i, hi, _ => absurd hi (Nat.not_lt_zero _)
  | a :: l, 0, _, h => by
    simp only [List.getElem_cons_zero] at h ⊢
    simp [h]
  | a :: l, i + 1, hi, h => by
    simp only [List.getElem_cons_succ] at h ⊢
    have ih := filter_at P l i (by simpa using hi) h
    simp only [List.take_succ_cons, List.filter_cons]
    by_cases ha : P a
    · simp only [ha, if_true, List.length_cons, List.getElem?_cons_succ]; exact ih
    · simp only [ha]; exact ih
theorem filter_step {α : Type} (P : α → Bool) (l : List α) (i : Nat) (hi : i < l.length) : ((l.take (i + 1)).filter P).length = ((l.take i).filter P).length + (if P l[i] then 1 else 0) := by
  rw [List.take_succ_eq_append_getElem hi, List.filter_append, List.length_append]
  by_cases h : P l[i] <;> simp [h]
theorem filter_le {α : Type} (P : α → Bool) (l : List α) (i : Nat) : ((l.take i).filter P).length ≤ i :=
  Nat.le_trans (List.length_filter_le _ _) (by simp; omega)
namespace Tr
theorem spots_pane (T : Tr) (r : Rc) (i : Nat) (hi : i < (T.spots r).length) : (T.spots r)[i].pane = T.panes[i]'(by rw [← spots_length T r]; exact hi) := by
  have := spots_panes T r
  have h2 : ((T.spots r).map (·.pane))[i]'(by simpa using hi) = (T.spots r)[i].pane := by simp
  rw [← h2]
  simp only [this]
/-- Without the new one the panes are those that there were. -/
theorem put_filter {p fresh d f : Int} {T : Tr} (h : fresh ∉ T.panes) : (T.put p fresh d f).panes.filter (fun q => decide (q ≠ fresh)) = T.panes := by
  rw [put_panes]
  generalize T.panes = l at h
  induction l with
  | nil => rfl
  | cons a m ih =>
    simp only [List.mem_cons, not_or] at h
    rw [List.flatMap_cons, List.filter_append, ih h.2]
    have ha : a ≠ fresh := fun e => h.1 e.symm
    by_cases e : a = p
    · rw [if_pos e]; simp [ha]
    · rw [if_neg e]; simp [ha]
theorem put_node {p fresh d f : Int} {T : Tr} (h : p ∈ T.panes) : ∃ e g A B, T.put p fresh d f = .node e g A B := by
  cases T with
  | leaf q =>
    simp only [panes, List.mem_singleton] at h
    subst h
    exact ⟨d, f, .leaf p, .leaf fresh, by simp only [put, if_pos]⟩
  | node e g a b => exact ⟨e, g, _, _, rfl⟩
theorem put_fresh {p fresh d f : Int} {T : Tr} (h : p ∈ T.panes) : fresh ∈ (T.put p fresh d f).panes := by
  rw [put_panes]; exact List.mem_flatMap.2 ⟨p, h, by simp⟩
/-- How many nodes come to how many panes. -/
theorem put_length {p fresh d f : Int} {T : Tr} (hn : T.panes.Nodup) (h : p ∈ T.panes) : (T.put p fresh d f).panes.length = T.panes.length + 1 := by
  have := put_size (d := d) (f := f) (fresh := fresh) hn h
  have := T.panes_length; have := (T.put p fresh d f).panes_length
  omega
theorem sw_sw (a b p : Int) : sw a b (sw a b p) = p := by unfold sw; split <;> split <;> (try split) <;> omega
theorem swap_back (a b : Int) (T : Tr) : (T.ren (sw a b)).ren (sw a b) = T := by
  rw [ren_ren]; exact ren_id fun p _ => sw_sw a b p
end Tr
theorem sw_mem {a b : Int} {T : Tr} (ha : a ∈ T.panes) (hb : b ∈ T.panes) : ∀ p ∈ T.panes, sw a b p ∈ T.panes := fun p hp => by
  unfold sw; split
  · exact hb
  · split
    · exact ha
    · exact hp
theorem sw_inj {a b p q : Int} (h : sw a b p = sw a b q) : p = q := by rw [← Tr.sw_sw a b p, h, Tr.sw_sw]
theorem swap_whole {a b : Int} {T : Tr} (hT : Whole T) (ha : a ∈ T.panes) (hb : b ∈ T.panes) : Whole (T.ren (sw a b)) := by
  refine ⟨Tr.ren_good hT.good fun p hp => ?_, ?_, by rw [Tr.ren_size]; exact hT.size⟩
  · have hm := sw_mem ha hb p hp
    have key : ∀ {T : Tr}, T.good → ∀ p ∈ T.panes, 1 ≤ p ∧ p ≤ 1000000 := by
      intro T
      induction T with
      | leaf q => intro h p hp; simp only [Tr.panes, List.mem_singleton] at hp; subst hp; exact h
      | node d f x y i1 i2 =>
        intro h p hp
        obtain ⟨_, _, _, h1, h2⟩ := h
        simp only [Tr.panes, List.mem_append] at hp
        rcases hp with hp | hp
        · exact i1 h1 p hp
        · exact i2 h2 p hp
    exact key hT.good _ hm
  · rw [Tr.ren_panes, List.nodup_iff_pairwise_ne, List.pairwise_map]
    exact (List.nodup_iff_pairwise_ne.1 hT.nodup).imp fun h e => h (sw_inj e)
theorem ren_mem {a b : Int} {T : Tr} (ha : a ∈ T.panes) (hb : b ∈ T.panes) : a ∈ (T.ren (sw a b)).panes ∧ b ∈ (T.ren (sw a b)).panes := by
  rw [Tr.ren_panes]
  refine ⟨List.mem_map.2 ⟨b, hb, ?_⟩, List.mem_map.2 ⟨a, ha, ?_⟩⟩
  · unfold sw; split <;> simp_all
  · unfold sw; simp
theorem hits_succ (l : List Rc) (x y : Int) (k : Nat) (h : k < l.length) : hits (l.take (k + 1)) x y = hits (l.take k) x y + bit (l[k].has x y) := by
  rw [List.take_succ_eq_append_getElem h, hits_append]; simp [hits]
theorem areas_succ (l : List Rc) (k : Nat) (h : k < l.length) : areas (l.take (k + 1)) = areas (l.take k) + l[k].w * l[k].h := by
  rw [List.take_succ_eq_append_getElem h, areas_append]; simp [areas]
end Tp
namespace Tp
open Go Go.RowKit Go.Proofs
theorem step_alloc {w1 w2 : World} {o : Obj} (hb : Below (w1.alloc o).heap.size (w1.alloc o) w2) : Below w1.heap.size w1 w2 ∧ w2.heap[w1.heap.size]? = some o ∧ w1.heap.size < w2.heap.size := by
  have hs := hb.size
  simp at hs
  exact ⟨((Below.refl _ w1).alloc (Nat.le_refl _) _).trans (hb.mono (by simp)), (hb.block w1.heap.size (by simp)).trans (heap_alloc_new w1 _), hs⟩
theorem GrT.bounds {T : Tr} {n : Nat} (h : GrT T n) : 1 ≤ T.lw ∧ T.lw ≤ 30 ∧ 1 ≤ T.lh ∧ T.lh ≤ 20 ∧ 1 ≤ T.panes.length ∧ T.panes.length ≤ n + 1 ∧ 0 < T.size ∧ T.size ≤ 63 := by
  have h1 := Tr.least_pos T
  have h2 := Tr.fits_least h.fits
  have h3 := T.panes_length
  have h4 := h.size
  have h5 := T.size_pos
  have h6 := h.whole.size
  refine ⟨h1.1, h2.1, h1.2, h2.2, by omega, by omega, by omega, by omega⟩
theorem GrT.apart {T : Tr} {n : Nat} (h : GrT T n) {k : Int} (hk : (n : Int) + 1 < k) : k ∉ T.panes := fun hm => by have := h.panes k hm; omega
theorem pick_at (l : List Int) (x : Int) (h : 1 ≤ l.length) : 0 ≤ x % 256 % (l.length : Int) ∧ x % 256 % (l.length : Int) < (l.length : Int) ∧ (x % 256 % (l.length : Int)).toNat < l.length ∧ (x % 256).tmod (l.length : Int) = x % 256 % (l.length : Int) := by
  have h1 : 0 ≤ x % 256 % (l.length : Int) := Int.emod_nonneg _ (by omega)
  have h2 : x % 256 % (l.length : Int) < (l.length : Int) := Int.emod_lt_of_pos _ (by omega)
  exact ⟨h1, h2, by omega, Int.tmod_eq_emod_of_nonneg (by omega)⟩
theorem pick_cell {l : List Int} {w : World} {pb po : Nat} (hpc : ∀ j, (hj : j < l.length) → w.cell? ⟨pb, po + j, none⟩ = some (.int .i64 l[j])) (x : Int) (h : 1 ≤ l.length) :
    ∃ q, q ∈ l ∧ w.cell? ⟨pb, po + (x % 256 % (l.length : Int)).toNat, none⟩ = some (.int .i64 q) :=
  ⟨_, List.getElem_mem (pick_at l x h).2.2.1, hpc _ (pick_at l x h).2.2.1⟩
/-- Places of a tree with other names. -/
theorem spots_ren {w : World} {v : Value} {T : Tr} {s : Int → Int} {r : Rc} (h : SpotsAt w v ((T.ren s).spots r)) : ∃ b off c, v = .slice (some ⟨b, off, none⟩) (T.spots r).length c ∧ b < w.heap.size ∧
    ∀ j, (hj : j < (T.spots r).length) → w.cell? ⟨b, off + j * 5, none⟩ = some (.int .i64 (s (T.spots r)[j].pane)) ∧ w.cell? ⟨b, off + j * 5 + 1, none⟩ = some (.int .i64 (T.spots r)[j].r.x) ∧ w.cell? ⟨b, off + j * 5 + 2, none⟩ = some (.int .i64 (T.spots r)[j].r.y) ∧
      w.cell? ⟨b, off + j * 5 + 3, none⟩ = some (.int .i64 (T.spots r)[j].r.w) ∧ w.cell? ⟨b, off + j * 5 + 4, none⟩ = some (.int .i64 (T.spots r)[j].r.h) := by
  rw [Tr.ren_spots] at h
  have h0 : 0 < (T.spots r).length := by rw [Tr.spots_length]; have := T.panes_length; have := T.size_pos; omega
  obtain ⟨b, off, c, e, hb, hc⟩ := h.at (by simpa using h0)
  refine ⟨b, off, c, by simpa using e, hb, fun j hj => ?_⟩
  have := hc j (by simpa using hj)
  simpa using this
theorem i64_and15 (n : Int) : bits .and .i64 n 15 = n % 16 := by
  have h0 : (BitVec.ofInt 64 15).toNat = 2 ^ 4 - 1 := by decide
  have key : (BitVec.ofInt 64 n &&& BitVec.ofInt 64 15).toNat = (n % ((2 ^ 64 : Nat) : Int)).toNat % 2 ^ 4 := by
    rw [BitVec.toNat_and, BitVec.toNat_ofInt, h0, Nat.and_two_pow_sub_one_eq_mod]
  show IntKind.i64.wrap ((BitVec.ofInt 64 n &&& BitVec.ofInt 64 15).toNat : Nat) = n % 16
  rw [key, IntKind.wrap_i64]
  omega
theorem i64_and65535 (n : Int) : bits .and .i64 n 65535 = n % 65536 := by
  have h0 : (BitVec.ofInt 64 65535).toNat = 2 ^ 16 - 1 := by decide
  have key : (BitVec.ofInt 64 n &&& BitVec.ofInt 64 65535).toNat = (n % ((2 ^ 64 : Nat) : Int)).toNat % 2 ^ 16 := by
    rw [BitVec.toNat_and, BitVec.toNat_ofInt, h0, Nat.and_two_pow_sub_one_eq_mod]
  show IntKind.i64.wrap ((BitVec.ofInt 64 n &&& BitVec.ofInt 64 65535).toNat : Nat) = n % 65536
  rw [key, IntKind.wrap_i64]
  omega
end Tp
namespace Go.Proofs
open Go.RowKit Go.Lib Go.Sort Tp
attribute [local go_sem ↓] Go.wp_at_zero Go.wp_at_succ

set_option maxRecDepth 100000 in
set_option maxHeartbeats 1000000 in
theorem Try.in_ok (r : Rc) (hr : Fine r) (x y : Int) (w : World) (hx0 : 0 ≤ x) (hx1 : x ≤ 100000) (hy0 : 0 ≤ y) (hy1 : y ≤ 100000) :
    Calls Try.prog 23 #[.agg #[.int .i64 r.x, .int .i64 r.y, .int .i64 r.w, .int .i64 r.h], .int .i64 x, .int .i64 y] w fun e w' => e = .returned (.bool (r.has x y)) ∧ Below w.heap.size w w' := by
  obtain ⟨rx, ry, rw, rh⟩ := r
  obtain ⟨h0, h1, h2, h3, h4, h5⟩ := hr
  simp only at h0 h1 h2 h3 h4 h5
  have hN := Lib.hid (fun w' => Try.rnone_ok rx ry rw rh h0 h1 h2 h3 (by omega) (by omega) (by omega) (by omega) w')
  by_cases c1 : rx ≤ x
  · have d1 : decide (rx ≤ x) = true := by simpa using c1
    by_cases c2 : ry ≤ y
    · have d2 : decide (ry ≤ y) = true := by simpa using c2
      by_cases c3 : x - rx < rw
      · have d3 : decide (x - rx < rw) = true := by simpa using c3
        have e : Rc.has ⟨rx, ry, rw, rh⟩ x y = decide (y - ry < rh) := by simp [Rc.has, c1, c2, c3]
        rw [e]
        go_enter Try.func23, Try.ntmps23
        go_wp2_with (go_at_call 35; refine (hN.out _).mono ?_; rintro e w' ⟨rfl, rfl⟩)
        go_ret
        exact ⟨rfl, by (repeat (first | with_reducible assumption | with_reducible exact Below.refl _ _ | with_reducible refine Below.drew ?_ | with_reducible refine below_drewN ?_ _ | (with_reducible refine Below.setCell ?_ ?_ _; rotate_left; (first | omega | (simp <;> omega))) | (with_reducible refine Below.alloc ?_ ?_ _; rotate_left; (first | omega | (simp <;> omega)))))⟩
      · have d3 : decide (x - rx < rw) = false := by simpa using c3
        have e : Rc.has ⟨rx, ry, rw, rh⟩ x y = false := by simp [Rc.has, c3]
        rw [e]
        go_enter Try.func23, Try.ntmps23
        go_wp2_with (go_at_call 35; refine (hN.out _).mono ?_; rintro e w' ⟨rfl, rfl⟩)
        go_ret
        exact ⟨rfl, by (repeat (first | with_reducible assumption | with_reducible exact Below.refl _ _ | with_reducible refine Below.drew ?_ | with_reducible refine below_drewN ?_ _ | (with_reducible refine Below.setCell ?_ ?_ _; rotate_left; (first | omega | (simp <;> omega))) | (with_reducible refine Below.alloc ?_ ?_ _; rotate_left; (first | omega | (simp <;> omega)))))⟩
    · have d2 : decide (ry ≤ y) = false := by simpa using c2
      have e : Rc.has ⟨rx, ry, rw, rh⟩ x y = false := by simp [Rc.has, c2]
      rw [e]
      go_enter Try.func23, Try.ntmps23
      go_wp2_with (go_at_call 35; refine (hN.out _).mono ?_; rintro e w' ⟨rfl, rfl⟩)
      go_ret
      exact ⟨rfl, by (repeat (first | with_reducible assumption | with_reducible exact Below.refl _ _ | with_reducible refine Below.drew ?_ | with_reducible refine below_drewN ?_ _ | (with_reducible refine Below.setCell ?_ ?_ _; rotate_left; (first | omega | (simp <;> omega))) | (with_reducible refine Below.alloc ?_ ?_ _; rotate_left; (first | omega | (simp <;> omega)))))⟩
  · have d1 : decide (rx ≤ x) = false := by simpa using c1
    have e : Rc.has ⟨rx, ry, rw, rh⟩ x y = false := by simp [Rc.has, c1]
    rw [e]
    go_enter Try.func23, Try.ntmps23
    go_wp2_with (go_at_call 35; refine (hN.out _).mono ?_; rintro e w' ⟨rfl, rfl⟩)
    go_ret
    exact ⟨rfl, by (repeat (first | with_reducible assumption | with_reducible exact Below.refl _ _ | with_reducible refine Below.drew ?_ | with_reducible refine below_drewN ?_ _ | (with_reducible refine Below.setCell ?_ ?_ _; rotate_left; (first | omega | (simp <;> omega))) | (with_reducible refine Below.alloc ?_ ?_ _; rotate_left; (first | omega | (simp <;> omega)))))⟩
end Go.Proofs
