/-
  Plain laws of trees of panes: places are a tiling. Where a part's panes are, and its borders.
-/
import Derived.Test.YtkcibhokjiciiaaBn
import Derived.Test.YtkcibhokjiciiaaBu
import Derived.Test.YtkcibhokjiciiaaBr
import Derived.Tactics
import Derived.Tactics2
import Derived.Deep.DeepCutAuto
namespace Tp

def Rc.has (r : Rc) (x y : Int) : Bool := decide (r.x ≤ x) && decide (r.y ≤ y) && decide (x - r.x < r.w) && decide (y - r.y < r.h)
def bit (b : Bool) : Int := if b then 1 else 0
def hits : List Rc → Int → Int → Int
  | [], _, _ => 0
  | r :: l, x, y => bit (r.has x y) + hits l x y
def areas : List Rc → Int
  | [] => 0
  | r :: l => r.w * r.h + areas l
theorem hits_append (x y : Int) : ∀ l m : List Rc, hits (l ++ m) x y = hits l x y + hits m x y
  | [], m => by simp [hits]
  | r :: l, m => by simp only [List.cons_append, hits, hits_append x y l m]; omega
theorem areas_append : ∀ l m : List Rc, areas (l ++ m) = areas l + areas m
  | [], m => by simp [areas]
  | r :: l, m => by simp only [List.cons_append, areas, areas_append l m]; omega

theorem bit_cut {r : Rc} {d f : Int} (h : if d = 1 then 0 ≤ f ∧ f ≤ r.w - 1 else 0 ≤ f ∧ f ≤ r.h - 1) (x y : Int) :
    bit ((cutA r d f).has x y) + bit ((cutM r d f).has x y) + bit ((cutB r d f).has x y) = bit (r.has x y) := by
  have e : ∀ (p q s t : Prop) [Decidable p] [Decidable q] [Decidable s] [Decidable t], bit (decide p && decide q && decide s && decide t) = if p ∧ q ∧ s ∧ t then 1 else 0 := by
    intro p q s t _ _ _ _
    by_cases p <;> by_cases q <;> by_cases s <;> by_cases t <;> simp [bit, *]
  by_cases hd : d = 1
  · rw [if_pos hd] at h
    simp only [cutA, cutM, cutB, if_pos hd, Rc.has, e]
    repeat' split
    all_goals omega
  · rw [if_neg hd] at h
    simp only [cutA, cutM, cutB, if_neg hd, Rc.has, e]
    repeat' split
    all_goals omega

namespace Tr
theorem tile_hits (x y : Int) : ∀ {T : Tr} {r : Rc}, T.fits r.w r.h → hits ((T.spots r).map (·.r)) x y + hits (T.borders r) x y = bit (r.has x y)
  | leaf _, r, _ => by simp [spots, borders, hits]
  | node d f a b, r, hf => by
    have hc := bit_cut (r := r) (d := d) (f := f) (by simp only [fits] at hf; split <;> rename_i hd <;> simp only [hd, if_true, if_false] at hf <;> omega) x y
    have hab : a.fits (cutA r d f).w (cutA r d f).h ∧ b.fits (cutB r d f).w (cutB r d f).h := by
      simp only [fits] at hf
      by_cases hd : d = 1
      · rw [if_pos hd] at hf; simpa only [cutA, cutB, if_pos hd] using hf.2.2
      · rw [if_neg hd] at hf; simpa only [cutA, cutB, if_neg hd] using hf.2.2
    have h1 := tile_hits x y hab.1
    have h2 := tile_hits x y hab.2
    simp only [spots, borders, List.map_append, hits, hits_append]
    omega
theorem tile_area : ∀ {T : Tr} {r : Rc}, T.fits r.w r.h → areas ((T.spots r).map (·.r)) + areas (T.borders r) = r.w * r.h
  | leaf _, r, _ => by simp [spots, borders, areas]
  | node d f a b, r, hf => by
    have hc : (cutA r d f).w * (cutA r d f).h + (cutM r d f).w * (cutM r d f).h + (cutB r d f).w * (cutB r d f).h = r.w * r.h := by
      by_cases hd : d = 1
      · simp only [cutA, cutM, cutB, if_pos hd]
        rw [← Int.add_mul, ← Int.add_mul]; congr 1; omega
      · simp only [cutA, cutM, cutB, if_neg hd]
        rw [← Int.mul_add, ← Int.mul_add]; congr 1; omega
    have hab : a.fits (cutA r d f).w (cutA r d f).h ∧ b.fits (cutB r d f).w (cutB r d f).h := by
      simp only [fits] at hf
      by_cases hd : d = 1
      · rw [if_pos hd] at hf; simpa only [cutA, cutB, if_pos hd] using hf.2.2
      · rw [if_neg hd] at hf; simpa only [cutA, cutB, if_neg hd] using hf.2.2
    have h1 := tile_area hab.1
    have h2 := tile_area hab.2
    simp only [spots, borders, List.map_append, areas, areas_append]
    omega
theorem fits_cut {d f : Int} {a b : Tr} {r : Rc} (hf : (node d f a b).fits r.w r.h) : a.fits (cutA r d f).w (cutA r d f).h ∧ b.fits (cutB r d f).w (cutB r d f).h := by
  simp only [fits] at hf
  by_cases hd : d = 1
  · rw [if_pos hd] at hf; simpa only [cutA, cutB, if_pos hd] using hf.2.2
  · rw [if_neg hd] at hf; simpa only [cutA, cutB, if_neg hd] using hf.2.2
/-- Each place has a cell at least, and lies within. -/
theorem spots_in : ∀ {T : Tr} {r : Rc}, T.fits r.w r.h → ∀ s ∈ T.spots r, 1 ≤ s.r.w ∧ 1 ≤ s.r.h ∧ r.x ≤ s.r.x ∧ r.y ≤ s.r.y ∧ s.r.x + s.r.w ≤ r.x + r.w ∧ s.r.y + s.r.h ≤ r.y + r.h
  | leaf _, r, hf, s, hs => by
    simp only [spots, List.mem_singleton] at hs
    subst hs
    exact ⟨hf.1, hf.2, Int.le_refl _, Int.le_refl _, Int.le_refl _, Int.le_refl _⟩
  | node d f a b, r, hf, s, hs => by
    have hab := fits_cut hf
    simp only [spots, List.mem_append] at hs
    simp only [fits] at hf
    rcases hs with hs | hs
    · have h1 := spots_in hab.1 s hs
      have h2 := fits_pos hab.1
      by_cases hd : d = 1
      · simp only [cutA, hd, if_true] at h1 h2 hf ⊢; omega
      · simp only [cutA, hd, if_false] at h1 h2 hf ⊢; omega
    · have h1 := spots_in hab.2 s hs
      have h2 := fits_pos hab.2
      by_cases hd : d = 1
      · simp only [cutB, hd, if_true] at h1 h2 hf ⊢; omega
      · simp only [cutB, hd, if_false] at h1 h2 hf ⊢; omega
theorem borders_in : ∀ {T : Tr} {r : Rc}, T.fits r.w r.h → ∀ s ∈ T.borders r, 1 ≤ s.w ∧ 1 ≤ s.h ∧ r.x ≤ s.x ∧ r.y ≤ s.y ∧ s.x + s.w ≤ r.x + r.w ∧ s.y + s.h ≤ r.y + r.h
  | leaf _, r, hf, s, hs => by simp [borders] at hs
  | node d f a b, r, hf, s, hs => by
    have hab := fits_cut hf
    have hp := fits_pos hf
    simp only [borders, List.mem_cons, List.mem_append] at hs
    simp only [fits] at hf
    rcases hs with rfl | hs | hs
    · by_cases hd : d = 1
      · simp only [cutM, hd, if_true] at hf ⊢; omega
      · simp only [cutM, hd, if_false] at hf ⊢; omega
    · have h1 := borders_in hab.1 s hs
      have h2 := fits_pos hab.1
      by_cases hd : d = 1
      · simp only [cutA, hd, if_true] at h1 h2 hf ⊢; omega
      · simp only [cutA, hd, if_false] at h1 h2 hf ⊢; omega
    · have h1 := borders_in hab.2 s hs
      have h2 := fits_pos hab.2
      by_cases hd : d = 1
      · simp only [cutB, hd, if_true] at h1 h2 hf ⊢; omega
      · simp only [cutB, hd, if_false] at h1 h2 hf ⊢; omega
end Tr
end Tp
namespace Go.Proofs
open Go.RowKit Go.Lib Go.Sort Tp
attribute [local go_sem ↓] Go.wp_at_zero Go.wp_at_succ

def PPost (n : Nat) (xs : List Value) (m : Nat) (ys : List Value) (w : World) (e : Ending) (w' : World) : Prop :=
  ∃ v u, e = .returned (.tuple #[v, u, .bool true]) ∧ w'.ownsRow w.heap.size 39 5 v n xs ∧ w'.ownsRow w.heap.size 37 4 u m ys ∧ Below w.heap.size w w'

theorem Try.infoSpot : (Try.prog.info? 39).map (fun i => (i.zero, i.size, i.bytes)) = some (some (.agg #[.int .i64 0, .int .i64 0, .int .i64 0, .int .i64 0, .int .i64 0]), 5, 40) := by kernel_rfl
theorem spot_cells (l : List Sp) : ∀ u ∈ l.flatMap Sp.cells, u.oneCell' = true := fun u hu => by
  obtain ⟨x, _, hx⟩ := List.mem_flatMap.1 hu
  simp only [Sp.cells, Rc.cells, List.mem_cons, List.not_mem_nil, or_false] at hx
  rcases hx with rfl | rfl | rfl | rfl | rfl <;> rfl
theorem rect_cells (l : List Rc) : ∀ u ∈ l.flatMap Rc.cells, u.oneCell' = true := fun u hu => by
  obtain ⟨x, _, hx⟩ := List.mem_flatMap.1 hu
  simp only [Rc.cells, List.mem_cons, List.not_mem_nil, or_false] at hx
  rcases hx with rfl | rfl | rfl | rfl <;> rfl
theorem own_val {w : World} {base : Nat} {e : TypeId} {size : Nat} {v : Value} {n : Nat} {xs : List Value} (h : w.ownsRow base e size v n xs) : ∃ A c, v = .slice A n c := by
  rcases h.2 with ⟨e1, h0⟩ | ⟨g, cap, cur, e1, _⟩
  · exact ⟨none, 0, by rw [e1, h0]⟩
  · exact ⟨_, _, e1⟩
/-- Rows of two types of elements lie in two blocks. -/
theorem own_apart {w : World} {b1 b2 : Nat} {e1 e2 : TypeId} {s1 s2 : Nat} {v u : Value} {n m : Nat} {xs ys : List Value} (h : w.ownsRow b1 e1 s1 v n xs) (k : w.ownsRow b2 e2 s2 u m ys) (hne : e1 ≠ e2) : v.ownBlock = none ∨ v.ownBlock ≠ u.ownBlock := by
  rcases h.2 with ⟨e, _⟩ | ⟨g, cap, cur, e, _, hg, _⟩
  · left; rw [e]; rfl
  · rcases k.2 with ⟨e', _⟩ | ⟨g', cap', cur', e', _, hg', _⟩
    · right; rw [e, e']; simp [Value.ownBlock]
    · right; rw [e, e']; simp only [Value.ownBlock, ne_eq, Option.some.injEq]
      intro he; subst he; rw [hg] at hg'; simp at hg'; exact hne hg'.2

theorem keep6 {B : Nat} {w0 : World} {p1 p2 p3 p4 p5 p6 : Addr} {v1 v2 v3 v4 v5 v6 : Value} (h1 : w0.cell? p1 = some v1) (b1 : p1.block < B) (h2 : w0.cell? p2 = some v2) (b2 : p2.block < B) (h3 : w0.cell? p3 = some v3) (b3 : p3.block < B)
    (h4 : w0.cell? p4 = some v4) (b4 : p4.block < B) (h5 : w0.cell? p5 = some v5) (b5 : p5.block < B) (h6 : w0.cell? p6 = some v6) (b6 : p6.block < B) (w' : World) (h : Below B w0 w') :
    Below B w0 w' ∧ w'.cell? p1 = some v1 ∧ w'.cell? p2 = some v2 ∧ w'.cell? p3 = some v3 ∧ w'.cell? p4 = some v4 ∧ w'.cell? p5 = some v5 ∧ w'.cell? p6 = some v6 :=
  ⟨h, (h.cell b1).trans h1, (h.cell b2).trans h2, (h.cell b3).trans h3, (h.cell b4).trans h4, (h.cell b5).trans h5, (h.cell b6).trans h6⟩

/-- A rectangle that lies within a thousand. -/
structure Fine (r : Rc) : Prop where
  x : 0 ≤ r.x
  y : 0 ≤ r.y
  w : 0 ≤ r.w
  h : 0 ≤ r.h
  xw : r.x + r.w ≤ 1000
  yh : r.y + r.h ≤ 1000

def CutPost (a m b : Rc) (w : World) (e : Ending) (w' : World) : Prop :=
  e = .returned (.tuple #[.agg #[.int .i64 a.x, .int .i64 a.y, .int .i64 a.w, .int .i64 a.h], .agg #[.int .i64 m.x, .int .i64 m.y, .int .i64 m.w, .int .i64 m.h], .agg #[.int .i64 b.x, .int .i64 b.y, .int .i64 b.w, .int .i64 b.h], .bool true]) ∧ Below w.heap.size w w'
theorem Try.cut_any (r : Rc) (hr : Fine r) (d f : Int) (hd : d = 1 ∨ d = 2) (hf : 1 ≤ f) (hf2 : if d = 1 then f ≤ r.w - 2 else f ≤ r.h - 2) (w : World) :
    Calls Try.prog 60 #[.agg #[.int .i64 r.x, .int .i64 r.y, .int .i64 r.w, .int .i64 r.h], .int .i64 d, .int .i64 f] w (CutPost (cutA r d f) (cutM r d f) (cutB r d f) w) := by
  obtain ⟨x, y, rw, rh⟩ := r
  obtain ⟨h0, h1, h2, h3, h4, h5⟩ := hr
  simp only at h0 h1 h2 h3 h4 h5
  rcases hd with rfl | rfl
  · simp only [if_true] at hf2
    exact Try.cut1 x y rw rh f h0 h1 h2 h3 (by omega) (by omega) (by omega) (by omega) hf hf2 w
  · simp at hf2
    exact Try.cut2 x y rw rh f h0 h1 h2 h3 (by omega) (by omega) (by omega) (by omega) hf hf2 w
theorem fine_cut {r : Rc} {d f : Int} {A B : Tr} (hr : Fine r) (hf : (Tr.node d f A B).fits r.w r.h) : Fine (cutA r d f) ∧ Fine (cutB r d f) := by
  obtain ⟨h0, h1, h2, h3, h4, h5⟩ := hr
  have hp := Tr.fits_pos hf
  simp only [Tr.fits] at hf
  by_cases hd : d = 1
  · simp only [hd, if_true] at hf
    simp only [cutA, cutB, hd, if_true]
    exact ⟨⟨h0, h1, by show 0 ≤ f; omega, h3, by show r.x + f ≤ 1000; omega, h5⟩, ⟨by show 0 ≤ r.x + f + 1; omega, h1, by show 0 ≤ r.w - f - 1; omega, h3, by show r.x + f + 1 + (r.w - f - 1) ≤ 1000; omega, h5⟩⟩
  · simp only [hd, if_false] at hf
    simp only [cutA, cutB, hd, if_false]
    exact ⟨⟨h0, h1, h2, by show 0 ≤ f; omega, h4, by show r.y + f ≤ 1000; omega⟩, ⟨h0, by show 0 ≤ r.y + f + 1; omega, h2, by show 0 ≤ r.h - f - 1; omega, h4, by show r.y + f + 1 + (r.h - f - 1) ≤ 1000; omega⟩⟩

set_option maxRecDepth 100000 in
set_option maxHeartbeats 16000000 in
theorem Try.places_ok : ∀ (T : Tr) (k : Nat) (S : List Nat) (r : Rc) (w : World), T.size ≤ 63 → T.good → T.fits r.w r.h → Fine r → PartAt 66 w T k S →
    Calls Try.prog 41 #[.pointer (some ⟨k, 0, none⟩), .agg #[.int .i64 r.x, .int .i64 r.y, .int .i64 r.w, .int .i64 r.h]] w (PPost (T.spots r).length ((T.spots r).flatMap Sp.cells) (T.borders r).length ((T.borders r).flatMap Rc.cells) w)
  | .leaf p, k, S, r, w, hn, hg, hf, hr, ⟨_, h⟩ => by
    have c0 : w.cell? ⟨k, 0, none⟩ = some (.int .i64 p) := cell_block h 0
    have c3 : w.cell? ⟨k, 3, none⟩ = some (.pointer none) := cell_block h 3
    have hk : k < w.heap.size := (Array.getElem?_eq_some_iff.1 h).1
    obtain ⟨x, y, rw, rh⟩ := r
    clear h hf hr
    go_enter Try.func41, Try.ntmps41
    go_wp2_with fail
    go_region_held3 (fun w' => w'.cell? ⟨k, 0, none⟩ = some (.int .i64 p) ∧ w'.cell? ⟨w.heap.size, 0, none⟩ = some (.int .i64 x) ∧ w'.cell? ⟨w.heap.size, 1, none⟩ = some (.int .i64 y) ∧ w'.cell? ⟨w.heap.size, 2, none⟩ = some (.int .i64 rw) ∧ w'.cell? ⟨w.heap.size, 3, none⟩ = some (.int .i64 rh)) (go_keep) (fail)
    go_wp2
    go_ret3
    have h0 := World.ownsRow_lit (base := w.heap.size) (e := 39) (size := 5) (w.alloc (.cells #[.int .i64 x, .int .i64 y, .int .i64 rw, .int .i64 rh] 37)) #[.int .i64 p, .int .i64 x, .int .i64 y, .int .i64 rw, .int .i64 rh] 1 (by simp) (by simp [maxLen]) rfl
    rw [show (w.alloc (.cells #[.int .i64 x, .int .i64 y, .int .i64 rw, .int .i64 rh] 37)).heap.size = w.heap.size + 1 by simp] at h0
    refine ⟨_, _, rfl, h0, ⟨by simp [Tr.borders], .inl ⟨rfl, rfl⟩⟩, ?_⟩
    repeat (first | exact Below.refl _ _ | refine Below.drew ?_ | (refine Below.alloc ?_ (by first | omega | (simp <;> omega)) _))
  | .node d f A B, k, S, r, w, hn, ⟨hd, hf1, hf2, hgA, hgB⟩, hf, hr, ⟨ka, kb, Sa, Sb, _, h, ha, hb⟩ => by
    have c1 : w.cell? ⟨k, 1, none⟩ = some (.int .i64 d) := cell_block h 1
    have c2 : w.cell? ⟨k, 2, none⟩ = some (.int .i64 f) := cell_block h 2
    have c3 : w.cell? ⟨k, 3, none⟩ = some (.pointer (some ⟨ka, 0, none⟩)) := cell_block h 3
    have c4 : w.cell? ⟨k, 4, none⟩ = some (.pointer (some ⟨kb, 0, none⟩)) := cell_block h 4
    have hk : k < w.heap.size := (Array.getElem?_eq_some_iff.1 h).1
    simp only [Tr.size] at hn
    have hcut := fun w' => Try.cut_any r hr d f hd hf1 (by have := hf.2; split at this <;> simp_all) w'
    obtain ⟨fa, fb⟩ := Tr.fits_cut hf
    obtain ⟨na, nb⟩ := fine_cut hr hf
    have ihA := fun w' (hW : Below w.heap.size w w') => Try.places_ok A ka Sa (cutA r d f) w' (by omega) hgA fa na (ha.below hW)
    have ihB := fun w' (hW : Below w.heap.size w w') => Try.places_ok B kb Sb (cutB r d f) w' (by omega) hgB fb nb (hb.below hW)
    have lA : (A.spots (cutA r d f)).length ≤ 63 := by rw [Tr.spots_length]; have := A.panes_length; omega
    have lB : (B.spots (cutB r d f)).length ≤ 63 := by rw [Tr.spots_length]; have := B.panes_length; omega
    have qA : 0 < (A.spots (cutA r d f)).length := by rw [Tr.spots_length]; have := A.panes_length; have := A.size_pos; omega
    have qB : 0 < (B.spots (cutB r d f)).length := by rw [Tr.spots_length]; have := B.panes_length; have := B.size_pos; omega
    have mA : (A.borders (cutA r d f)).length ≤ 63 := by have := A.borders_length (cutA r d f); have := A.panes_length; omega
    have mB : (B.borders (cutB r d f)).length ≤ 63 := by have := B.borders_length (cutB r d f); have := B.panes_length; omega
    have hS : (Tr.node d f A B).spots r = A.spots (cutA r d f) ++ B.spots (cutB r d f) := rfl
    have hR : (Tr.node d f A B).borders r = cutM r d f :: (A.borders (cutA r d f) ++ B.borders (cutB r d f)) := rfl
    rw [hS, hR]
    clear h ha hb hgA hgB hf fa fb na nb hr hS hR
    generalize cutA r d f = ra at *
    generalize cutM r d f = rm at *
    generalize cutB r d f = rb at *
    obtain ⟨x, y, rw, rh⟩ := r
    obtain ⟨ax, ay, aw, ah⟩ := ra
    obtain ⟨mx, my, mw, mh⟩ := rm
    obtain ⟨bx, by', bw, bh⟩ := rb
    unfold CutPost at hcut
    simp only at hcut ihA ihB
    rw [List.flatMap_append, List.flatMap_cons, List.flatMap_append, List.length_append, List.length_cons, List.length_append]
    generalize hLA : (A.spots ⟨ax, ay, aw, ah⟩).length = nA at *
    generalize hLB : (B.spots ⟨bx, by', bw, bh⟩).length = nB at *
    generalize hMA : (A.borders ⟨ax, ay, aw, ah⟩).length = kA at *
    generalize hMB : (B.borders ⟨bx, by', bw, bh⟩).length = kB at *
    clear hLA hLB hMA hMB
    have oA := spot_cells (A.spots ⟨ax, ay, aw, ah⟩)
    have oB := spot_cells (B.spots ⟨bx, by', bw, bh⟩)
    have pA := rect_cells (A.borders ⟨ax, ay, aw, ah⟩)
    have pB := rect_cells (B.borders ⟨bx, by', bw, bh⟩)
    generalize (A.spots ⟨ax, ay, aw, ah⟩).flatMap Sp.cells = xA at *
    generalize (B.spots ⟨bx, by', bw, bh⟩).flatMap Sp.cells = xB at *
    generalize (A.borders ⟨ax, ay, aw, ah⟩).flatMap Rc.cells = yA at *
    generalize (B.borders ⟨bx, by', bw, bh⟩).flatMap Rc.cells = yB at *
    have OA := Lib.hid oA; have OB := Lib.hid oB; have PA := Lib.hid pA; have PB := Lib.hid pB
    have HC := Lib.hid hcut; have IA := Lib.hid ihA; have IB := Lib.hid ihB
    clear oA oB pA pB hcut ihA ihB
    have K6 := Lib.hid (keep6 (B := w.heap.size + 1) (w0 := w.alloc (.cells #[.int .i64 x, .int .i64 y, .int .i64 rw, .int .i64 rh] 37)) (p1 := ⟨k, 1, none⟩) (p2 := ⟨k, 2, none⟩) (p3 := ⟨w.heap.size, 0, none⟩) (p4 := ⟨w.heap.size, 1, none⟩) (p5 := ⟨w.heap.size, 2, none⟩) (p6 := ⟨w.heap.size, 3, none⟩)
      ((World.cell?_alloc_lt w _ _ hk).trans c1) (Nat.lt_succ_of_lt hk) ((World.cell?_alloc_lt w _ _ hk).trans c2) (Nat.lt_succ_of_lt hk) (cell_block (heap_alloc_new w _) 0) (Nat.lt_succ_self _) (cell_block (heap_alloc_new w _) 1) (Nat.lt_succ_self _) (cell_block (heap_alloc_new w _) 2) (Nat.lt_succ_self _) (cell_block (heap_alloc_new w _) 3) (Nat.lt_succ_self _))
    obtain ⟨i0, hi0, hz0, hz1, hz2⟩ := info_parts Try.infoSpot
    go_enter Try.func41, Try.ntmps41
    go_upto_region 3 with fail
    go_cut [7, 8, 9, 10] (fun s7 s8 s9 s10 wx => ∃ ga gm gb : Nat, s7 = .pointer (some ⟨ga, 0, none⟩) ∧ s8 = .pointer (some ⟨gm, 0, none⟩) ∧ s9 = .pointer (some ⟨gb, 0, none⟩) ∧ s10 = .bool true ∧
      (wx.cell? ⟨ga, 0, none⟩ = some (.int .i64 ax) ∧ wx.cell? ⟨ga, 1, none⟩ = some (.int .i64 ay) ∧ wx.cell? ⟨ga, 2, none⟩ = some (.int .i64 aw) ∧ wx.cell? ⟨ga, 3, none⟩ = some (.int .i64 ah)) ∧
      (wx.cell? ⟨gm, 0, none⟩ = some (.int .i64 mx) ∧ wx.cell? ⟨gm, 1, none⟩ = some (.int .i64 my) ∧ wx.cell? ⟨gm, 2, none⟩ = some (.int .i64 mw) ∧ wx.cell? ⟨gm, 3, none⟩ = some (.int .i64 mh)) ∧
      (wx.cell? ⟨gb, 0, none⟩ = some (.int .i64 bx) ∧ wx.cell? ⟨gb, 1, none⟩ = some (.int .i64 by') ∧ wx.cell? ⟨gb, 2, none⟩ = some (.int .i64 bw) ∧ wx.cell? ⟨gb, 3, none⟩ = some (.int .i64 bh)) ∧
      Below (w.heap.size + 1) (w.alloc (.cells #[.int .i64 x, .int .i64 y, .int .i64 rw, .int .i64 rh] 37)) wx)
    case first =>
      clear IA IB OA OB PA PB lA lB qA qB mA mB hn hf1 hf2 hd i0 hi0 hz0 hz1 hz2 c3 c4
      go_region_held3 (fun w' => Below (w.heap.size + 1) (w.alloc (.cells #[.int .i64 x, .int .i64 y, .int .i64 rw, .int .i64 rh] 37)) w' ∧ w'.cell? ⟨k, 1, none⟩ = some (.int .i64 d) ∧ w'.cell? ⟨k, 2, none⟩ = some (.int .i64 f) ∧ w'.cell? ⟨w.heap.size, 0, none⟩ = some (.int .i64 x) ∧ w'.cell? ⟨w.heap.size, 1, none⟩ = some (.int .i64 y) ∧ w'.cell? ⟨w.heap.size, 2, none⟩ = some (.int .i64 rw) ∧ w'.cell? ⟨w.heap.size, 3, none⟩ = some (.int .i64 rh))
        ((refine K6.out _ ?_; repeat (first | with_reducible assumption | with_reducible exact Below.refl _ _ | with_reducible refine Below.drew ?_ | (with_reducible refine Below.setCell ?_ ?_ _; rotate_left; (first | omega | (simp <;> omega))) | (with_reducible refine Below.alloc ?_ ?_ _; rotate_left; (first | omega | (simp <;> omega))))))
        ((go_at_call 60; refine (HC.out _).mono ?_; rintro e w1 ⟨rfl, hb1⟩
          obtain ⟨hc1, hz1'⟩ := bcell hb1
          have hs1 : w.heap.size + 1 ≤ w1.heap.size := by have := hb1.size; simp at this; omega
          have hs2 := hb1.size
          simp at hs2
          try (have q10 : w.heap.size + 1 < w1.heap.size := by omega)
          try (have q11 : w.heap.size + 1 < w1.heap.size + 1 := by omega)
          try (have q12 : w.heap.size + 1 < w1.heap.size + 1 + 1 := by omega)
          try (have q20 : w.heap.size + 1 + 1 < w1.heap.size := by omega)
          try (have q21 : w.heap.size + 1 + 1 < w1.heap.size + 1 := by omega)
          try (have q22 : w.heap.size + 1 + 1 < w1.heap.size + 1 + 1 := by omega)
          try (have q30 : w.heap.size + 1 + 1 + 1 < w1.heap.size := by omega)
          try (have q31 : w.heap.size + 1 + 1 + 1 < w1.heap.size + 1 := by omega)
          try (have q32 : w.heap.size + 1 + 1 + 1 < w1.heap.size + 1 + 1 := by omega)
          have HB1 : Below (w.heap.size + 1) (w.alloc (.cells #[.int .i64 x, .int .i64 y, .int .i64 rw, .int .i64 rh] 37)) w1 := Below.trans (by repeat (first | with_reducible assumption | with_reducible exact Below.refl _ _ | with_reducible refine Below.drew ?_ | (with_reducible refine Below.setCell ?_ ?_ _; rotate_left; (first | omega | (simp <;> omega))) | (with_reducible refine Below.alloc ?_ ?_ _; rotate_left; (first | omega | (simp <;> omega))))) (hb1.mono (by first | omega | (simp <;> omega)))))
      all_goals (go_wp2_with fail)
      all_goals go_meet
      all_goals (refine ⟨_, _, _, rfl, rfl, rfl, rfl, ⟨?_, ?_, ?_, ?_⟩, ⟨?_, ?_, ?_, ?_⟩, ⟨?_, ?_, ?_, ?_⟩, ?_⟩)
      all_goals (first | (simp [*, World.cell?_alloc_past, World.cell?_alloc_some, World.cell?_setCell_far, World.cell?_alloc_new]; done) | (simp [*, go_sem, World.cell?_alloc_past]; done) | (repeat (first | with_reducible assumption | with_reducible exact Below.refl _ _ | with_reducible refine Below.drew ?_ | (with_reducible refine Below.setCell ?_ ?_ _; rotate_left; (first | omega | (simp <;> omega))) | (with_reducible refine Below.alloc ?_ ?_ _; rotate_left; (first | omega | (simp <;> omega))))))
    case rest =>
      obtain ⟨ga, gm, gb, rfl, rfl, rfl, rfl, ⟨a0, a1, a2, a3⟩, ⟨m0, m1, m2, m3⟩, ⟨b0, b1, b2, b3⟩, hB0⟩ := hcut
      have HBc : Below w.heap.size w wc := ((Below.refl _ w).alloc (Nat.le_refl _) _).trans (hB0.mono (Nat.le_succ _))
      have k3 : wc.cell? ⟨k, 3, none⟩ = _ := (HBc.cell (p := ⟨k, 3, none⟩) hk).trans c3
      have k4 : wc.cell? ⟨k, 4, none⟩ = _ := (HBc.cell (p := ⟨k, 4, none⟩) hk).trans c4
      have la := World.block_lt_of_cell? wc _ a0
      have lm := World.block_lt_of_cell? wc _ m0
      have lb := World.block_lt_of_cell? wc _ b0
      simp only at la lm lb
      have hsc := HBc.size
      clear hB0
      go_wp2_with fail
      go_region_held3 (fun w' => w'.cell? ⟨k, 3, none⟩ = some (.pointer (some ⟨ka, 0, none⟩)) ∧ w'.cell? ⟨ga, 0, none⟩ = some (.int .i64 ax) ∧ w'.cell? ⟨ga, 1, none⟩ = some (.int .i64 ay) ∧ w'.cell? ⟨ga, 2, none⟩ = some (.int .i64 aw) ∧ w'.cell? ⟨ga, 3, none⟩ = some (.int .i64 ah)) (go_keep)
        ((go_at_call 41; refine (IA.out _ HBc.drew).mono ?_; rintro e w1 ⟨va, ua, rfl, hva, hua, hb1⟩
          obtain ⟨gA, cA, rfl, hgA, hgA2⟩ := hva.form qA
          have hne : gm ≠ gA := fun e => by have h1 : wc.heap.size ≤ gA := hgA; omega
          obtain ⟨AU, cU, rfl⟩ := own_val hua
          have hb1' : Below wc.heap.size wc w1 := drew_l hb1
          have HB1 : Below w.heap.size w w1 := HBc.trans (hb1'.mono hsc)
          have k3' : w1.cell? ⟨k, 3, none⟩ = _ := (HB1.cell (p := ⟨k, 3, none⟩) hk).trans c3
          have k4' : w1.cell? ⟨k, 4, none⟩ = _ := (HB1.cell (p := ⟨k, 4, none⟩) hk).trans c4
          have a0' : w1.cell? ⟨ga, 0, none⟩ = _ := (hb1'.cell (p := ⟨ga, 0, none⟩) la).trans a0
          have a1' : w1.cell? ⟨ga, 1, none⟩ = _ := (hb1'.cell (p := ⟨ga, 1, none⟩) la).trans a1
          have a2' : w1.cell? ⟨ga, 2, none⟩ = _ := (hb1'.cell (p := ⟨ga, 2, none⟩) la).trans a2
          have a3' : w1.cell? ⟨ga, 3, none⟩ = _ := (hb1'.cell (p := ⟨ga, 3, none⟩) la).trans a3
          have HVA := Lib.hid (own_base hva (base' := w.heap.size) hsc); have HUA := Lib.hid (own_base hua (base' := w.heap.size) hsc)
          clear hva hua))
      have M0 : w1.cell? ⟨gm, 0, none⟩ = _ := (hb1'.cell (p := ⟨gm, 0, none⟩) lm).trans m0
      have M1 : w1.cell? ⟨gm, 1, none⟩ = _ := (hb1'.cell (p := ⟨gm, 1, none⟩) lm).trans m1
      have M2 : w1.cell? ⟨gm, 2, none⟩ = _ := (hb1'.cell (p := ⟨gm, 2, none⟩) lm).trans m2
      have M3 : w1.cell? ⟨gm, 3, none⟩ = _ := (hb1'.cell (p := ⟨gm, 3, none⟩) lm).trans m3
      have B0 : w1.cell? ⟨gb, 0, none⟩ = _ := (hb1'.cell (p := ⟨gb, 0, none⟩) lb).trans b0
      have B1 : w1.cell? ⟨gb, 1, none⟩ = _ := (hb1'.cell (p := ⟨gb, 1, none⟩) lb).trans b1
      have B2 : w1.cell? ⟨gb, 2, none⟩ = _ := (hb1'.cell (p := ⟨gb, 2, none⟩) lb).trans b2
      have B3 : w1.cell? ⟨gb, 3, none⟩ = _ := (hb1'.cell (p := ⟨gb, 3, none⟩) lb).trans b3
      have hs1 := hb1'.size
      have lm1 : gm < w1.heap.size := by omega
      have lb1 : gb < w1.heap.size := by omega
      clear k3 k4 a0 a1 a2 a3 m0 m1 m2 m3 b0 b1 b2 b3 a0' a1' a2' a3' k3' la lm lb
      go_wp2_with fail
      go_region_held3 (fun w' => w'.cell? ⟨k, 4, none⟩ = some (.pointer (some ⟨kb, 0, none⟩)) ∧ w'.cell? ⟨gb, 0, none⟩ = some (.int .i64 bx) ∧ w'.cell? ⟨gb, 1, none⟩ = some (.int .i64 by') ∧ w'.cell? ⟨gb, 2, none⟩ = some (.int .i64 bw) ∧ w'.cell? ⟨gb, 3, none⟩ = some (.int .i64 bh)) (go_keep)
        ((go_at_call 41; refine (IB.out _ HB1.drew).mono ?_; rintro e w2 ⟨vb, ub, rfl, hvb, hub, hb2⟩
          obtain ⟨gB, cB, rfl, hgB, hgB2⟩ := hvb.form qB
          obtain ⟨BU, dU, rfl⟩ := own_val hub
          have hb2' : Below w1.heap.size w1 w2 := drew_l hb2
          have HB2 : Below w.heap.size w w2 := HB1.trans (hb2'.mono HB1.size)
          have k4'' : w2.cell? ⟨k, 4, none⟩ = _ := (HB2.cell (p := ⟨k, 4, none⟩) hk).trans c4
          have B0' : w2.cell? ⟨gb, 0, none⟩ = _ := (hb2'.cell (p := ⟨gb, 0, none⟩) lb1).trans B0
          have B1' : w2.cell? ⟨gb, 1, none⟩ = _ := (hb2'.cell (p := ⟨gb, 1, none⟩) lb1).trans B1
          have B2' : w2.cell? ⟨gb, 2, none⟩ = _ := (hb2'.cell (p := ⟨gb, 2, none⟩) lb1).trans B2
          have B3' : w2.cell? ⟨gb, 3, none⟩ = _ := (hb2'.cell (p := ⟨gb, 3, none⟩) lb1).trans B3
          have HVB := Lib.hid (own_base hvb (base' := w.heap.size) HB1.size); have HUB := Lib.hid (own_base hub (base' := w.heap.size) HB1.size)
          clear hvb hub))
      have N0 : w2.cell? ⟨gm, 0, none⟩ = _ := (hb2'.cell (p := ⟨gm, 0, none⟩) lm1).trans M0
      have N1 : w2.cell? ⟨gm, 1, none⟩ = _ := (hb2'.cell (p := ⟨gm, 1, none⟩) lm1).trans M1
      have N2 : w2.cell? ⟨gm, 2, none⟩ = _ := (hb2'.cell (p := ⟨gm, 2, none⟩) lm1).trans M2
      have N3 : w2.cell? ⟨gm, 3, none⟩ = _ := (hb2'.cell (p := ⟨gm, 3, none⟩) lm1).trans M3
      have VA := Lib.hid (own_below HVA.out hb2'); have UA := Lib.hid (own_below HUA.out hb2')
      have hs2 := hb2'.size
      have lm2 : gm < w2.heap.size := by omega
      have hlA : gA < w1.heap.size := hgA2
      clear M0 M1 M2 M3 B0 B1 B2 B3 B0' B1' B2' B3' k4' k4'' HVA HUA
      have LB : xB.length = nB * 5 := HVB.out.1
      have hgA3 : w.heap.size ≤ gA := Nat.le_trans hsc hgA
      have hneS : w2.heap.size ≠ gA := by omega
      have hneS1 : w2.heap.size + 1 ≠ gA := by omega
      go_wp2_with fail
      go_region_held3 (fun w' => w'.cell? ⟨gm, 0, none⟩ = some (.int .i64 mx) ∧ w'.cell? ⟨gm, 1, none⟩ = some (.int .i64 my) ∧ w'.cell? ⟨gm, 2, none⟩ = some (.int .i64 mw) ∧ w'.cell? ⟨gm, 3, none⟩ = some (.int .i64 mh)) (first | go_keep | simp [*, World.cell?_alloc_past])
        (first
          | ((have tV := VA4
              refine step_append_lies _ (by rfl) (.tmp 72) (.tmp 73) _ (by rfl) w.heap.size 39 i0 _ 5 40 Try.underlying32 hi0 hz0 hz1 hz2 rfl (by omega) (.slice (some ⟨gA, 0, none⟩) nA cA) nA xA (by rfl) VA4.out
                  ⟨gB, 0, none⟩ nB cB xB (by rfl) LB (VB4.out.cells (g := gB) rfl) OB.out qB (by simp [maxLen]; omega) (by omega) HB4.size w4.heap.size rfl ?_; intro gg cap w6 hown6 hgrow hat hlt
              have HU := Lib.hid (HU4.out.kept hgrow (own_apart HU4.out VA4.out (by decide)))
              have HV := Lib.hid hown6
              have HBE : Below w.heap.size w w6 := HB4.grown hgrow HB4.size (fun i e => by have e : gA = i := Option.some.inj e; subst e; exact hgA3)
              have J0 : w6.cell? ⟨gm, 0, none⟩ = _ := hgrow.cell I0 (fun e => hne (Option.some.inj e))
              have J1 : w6.cell? ⟨gm, 1, none⟩ = _ := hgrow.cell I1 (fun e => hne (Option.some.inj e))
              have J2 : w6.cell? ⟨gm, 2, none⟩ = _ := hgrow.cell I2 (fun e => hne (Option.some.inj e))
              have J3 : w6.cell? ⟨gm, 3, none⟩ = _ := hgrow.cell I3 (fun e => hne (Option.some.inj e))))
          | ((refine step_append_lies _ (by rfl) (.tmp 72) (.tmp 73) _ (by rfl) w.heap.size 39 i0 _ 5 40 Try.underlying32 hi0 hz0 hz1 hz2 rfl (by omega) (.slice (some ⟨gA, 0, none⟩) nA cA) nA xA (by rfl) (own_below VA.out ((Below.refl w2.heap.size w2).drew))
                  ⟨gB, 0, none⟩ nB cB xB (by rfl) LB ((own_below HVB.out ((Below.refl w2.heap.size w2).drew)).cells (g := gB) rfl) OB.out qB (by simp [maxLen]; omega) (by omega) (HB2.size) (w2.heap.size) (rfl) ?_; intro gg cap w5 hown5 hgrow hat hlt
              have US5 := Lib.hid ((own_below UA.out ((Below.refl w2.heap.size w2).drew)).kept hgrow (own_apart UA.out VA.out (by decide)))
              have UT5 := Lib.hid ((own_below HUB.out ((Below.refl w2.heap.size w2).drew)).kept hgrow (own_apart HUB.out VA.out (by decide)))
              have HW5 : Below w.heap.size w w5 := (HB2.trans (((Below.refl w2.heap.size w2).drew).mono HB2.size)).grown hgrow (Nat.le_trans HB2.size ((Below.refl w2.heap.size w2).drew).size) (fun i e => by have e : gA = i := Option.some.inj e; subst e; exact hgA3)
              have J0 : w5.cell? ⟨gm, 0, none⟩ = _ := hgrow.cell (((((Below.refl w2.heap.size w2).drew)).cell (p := ⟨gm, 0, none⟩) lm2).trans N0) (fun e => hne (Option.some.inj e))
              have J1 : w5.cell? ⟨gm, 1, none⟩ = _ := hgrow.cell (((((Below.refl w2.heap.size w2).drew)).cell (p := ⟨gm, 1, none⟩) lm2).trans N1) (fun e => hne (Option.some.inj e))
              have J2 : w5.cell? ⟨gm, 2, none⟩ = _ := hgrow.cell (((((Below.refl w2.heap.size w2).drew)).cell (p := ⟨gm, 2, none⟩) lm2).trans N2) (fun e => hne (Option.some.inj e))
              have J3 : w5.cell? ⟨gm, 3, none⟩ = _ := hgrow.cell (((((Below.refl w2.heap.size w2).drew)).cell (p := ⟨gm, 3, none⟩) lm2).trans N3) (fun e => hne (Option.some.inj e))
              have Va := Lib.hid hown5))
          | ((refine step_append_lies _ (by rfl) (.tmp 72) (.tmp 73) _ (by rfl) w.heap.size 39 i0 _ 5 40 Try.underlying32 hi0 hz0 hz1 hz2 rfl (by omega) (.slice (some ⟨gA, 0, none⟩) nA cA) nA xA (by rfl) (own_below VA.out (((Below.refl w2.heap.size w2).alloc (Nat.le_refl _) (.cells #[.int .i64 mx, .int .i64 my, .int .i64 mw, .int .i64 mh] 37)).drew))
                  ⟨gB, 0, none⟩ nB cB xB (by rfl) LB ((own_below HVB.out (((Below.refl w2.heap.size w2).alloc (Nat.le_refl _) (.cells #[.int .i64 mx, .int .i64 my, .int .i64 mw, .int .i64 mh] 37)).drew)).cells (g := gB) rfl) OB.out qB (by simp [maxLen]; omega) (by omega) (Nat.le_trans HB2.size (((Below.refl w2.heap.size w2).alloc (Nat.le_refl _) (.cells #[.int .i64 mx, .int .i64 my, .int .i64 mw, .int .i64 mh] 37)).drew).size) (w2.heap.size + 1) (by simp) ?_; intro gg cap w5 hown5 hgrow hat hlt
              have US5 := Lib.hid ((own_below UA.out (((Below.refl w2.heap.size w2).alloc (Nat.le_refl _) (.cells #[.int .i64 mx, .int .i64 my, .int .i64 mw, .int .i64 mh] 37)).drew)).kept hgrow (own_apart UA.out VA.out (by decide)))
              have UT5 := Lib.hid ((own_below HUB.out (((Below.refl w2.heap.size w2).alloc (Nat.le_refl _) (.cells #[.int .i64 mx, .int .i64 my, .int .i64 mw, .int .i64 mh] 37)).drew)).kept hgrow (own_apart HUB.out VA.out (by decide)))
              have HW5 : Below w.heap.size w w5 := (HB2.trans ((((Below.refl w2.heap.size w2).alloc (Nat.le_refl _) (.cells #[.int .i64 mx, .int .i64 my, .int .i64 mw, .int .i64 mh] 37)).drew).mono HB2.size)).grown hgrow (Nat.le_trans HB2.size (((Below.refl w2.heap.size w2).alloc (Nat.le_refl _) (.cells #[.int .i64 mx, .int .i64 my, .int .i64 mw, .int .i64 mh] 37)).drew).size) (fun i e => by have e : gA = i := Option.some.inj e; subst e; exact hgA3)
              have J0 : w5.cell? ⟨gm, 0, none⟩ = _ := hgrow.cell ((((((Below.refl w2.heap.size w2).alloc (Nat.le_refl _) (.cells #[.int .i64 mx, .int .i64 my, .int .i64 mw, .int .i64 mh] 37)).drew)).cell (p := ⟨gm, 0, none⟩) lm2).trans N0) (fun e => hne (Option.some.inj e))
              have J1 : w5.cell? ⟨gm, 1, none⟩ = _ := hgrow.cell ((((((Below.refl w2.heap.size w2).alloc (Nat.le_refl _) (.cells #[.int .i64 mx, .int .i64 my, .int .i64 mw, .int .i64 mh] 37)).drew)).cell (p := ⟨gm, 1, none⟩) lm2).trans N1) (fun e => hne (Option.some.inj e))
              have J2 : w5.cell? ⟨gm, 2, none⟩ = _ := hgrow.cell ((((((Below.refl w2.heap.size w2).alloc (Nat.le_refl _) (.cells #[.int .i64 mx, .int .i64 my, .int .i64 mw, .int .i64 mh] 37)).drew)).cell (p := ⟨gm, 2, none⟩) lm2).trans N2) (fun e => hne (Option.some.inj e))
              have J3 : w5.cell? ⟨gm, 3, none⟩ = _ := hgrow.cell ((((((Below.refl w2.heap.size w2).alloc (Nat.le_refl _) (.cells #[.int .i64 mx, .int .i64 my, .int .i64 mw, .int .i64 mh] 37)).drew)).cell (p := ⟨gm, 3, none⟩) lm2).trans N3) (fun e => hne (Option.some.inj e))
              have hlit := Lib.hid ((hgrow.block w2.heap.size (by simp <;> omega) (fun e => hneS (Option.some.inj e))).trans (heap_alloc_new w2 (.cells #[.int .i64 mx, .int .i64 my, .int .i64 mw, .int .i64 mh] 37)))
              have Vb := Lib.hid hown5))
          | ((refine step_append_lies _ (by rfl) (.tmp 72) (.tmp 73) _ (by rfl) w.heap.size 39 i0 _ 5 40 Try.underlying32 hi0 hz0 hz1 hz2 rfl (by omega) (.slice (some ⟨gA, 0, none⟩) nA cA) nA xA (by rfl) (own_below VA.out ((two_new w2 (.cells #[.int .i64 mx, .int .i64 my, .int .i64 mw, .int .i64 mh] 37) (.cells #[.slice (some ⟨w2.heap.size, 0, none⟩) 1 1, .slice AU kA cU, .slice BU kB dU] 33)).2.2.1.drew))
                  ⟨gB, 0, none⟩ nB cB xB (by rfl) LB ((own_below HVB.out ((two_new w2 (.cells #[.int .i64 mx, .int .i64 my, .int .i64 mw, .int .i64 mh] 37) (.cells #[.slice (some ⟨w2.heap.size, 0, none⟩) 1 1, .slice AU kA cU, .slice BU kB dU] 33)).2.2.1.drew)).cells (g := gB) rfl) OB.out qB (by simp [maxLen]; omega) (by omega) (Nat.le_trans HB2.size ((two_new w2 (.cells #[.int .i64 mx, .int .i64 my, .int .i64 mw, .int .i64 mh] 37) (.cells #[.slice (some ⟨w2.heap.size, 0, none⟩) 1 1, .slice AU kA cU, .slice BU kB dU] 33)).2.2.1.drew).size) (w2.heap.size + 1 + 1) (by simp) ?_; intro gg cap w5 hown5 hgrow hat hlt
              have US5 := Lib.hid ((own_below UA.out ((two_new w2 (.cells #[.int .i64 mx, .int .i64 my, .int .i64 mw, .int .i64 mh] 37) (.cells #[.slice (some ⟨w2.heap.size, 0, none⟩) 1 1, .slice AU kA cU, .slice BU kB dU] 33)).2.2.1.drew)).kept hgrow (own_apart UA.out VA.out (by decide)))
              have UT5 := Lib.hid ((own_below HUB.out ((two_new w2 (.cells #[.int .i64 mx, .int .i64 my, .int .i64 mw, .int .i64 mh] 37) (.cells #[.slice (some ⟨w2.heap.size, 0, none⟩) 1 1, .slice AU kA cU, .slice BU kB dU] 33)).2.2.1.drew)).kept hgrow (own_apart HUB.out VA.out (by decide)))
              have HW5 : Below w.heap.size w w5 := (HB2.trans (((two_new w2 (.cells #[.int .i64 mx, .int .i64 my, .int .i64 mw, .int .i64 mh] 37) (.cells #[.slice (some ⟨w2.heap.size, 0, none⟩) 1 1, .slice AU kA cU, .slice BU kB dU] 33)).2.2.1.drew).mono HB2.size)).grown hgrow (Nat.le_trans HB2.size ((two_new w2 (.cells #[.int .i64 mx, .int .i64 my, .int .i64 mw, .int .i64 mh] 37) (.cells #[.slice (some ⟨w2.heap.size, 0, none⟩) 1 1, .slice AU kA cU, .slice BU kB dU] 33)).2.2.1.drew).size) (fun i e => by have e : gA = i := Option.some.inj e; subst e; exact hgA3)
              have J0 : w5.cell? ⟨gm, 0, none⟩ = _ := hgrow.cell (((((two_new w2 (.cells #[.int .i64 mx, .int .i64 my, .int .i64 mw, .int .i64 mh] 37) (.cells #[.slice (some ⟨w2.heap.size, 0, none⟩) 1 1, .slice AU kA cU, .slice BU kB dU] 33)).2.2.1.drew)).cell (p := ⟨gm, 0, none⟩) lm2).trans N0) (fun e => hne (Option.some.inj e))
              have J1 : w5.cell? ⟨gm, 1, none⟩ = _ := hgrow.cell (((((two_new w2 (.cells #[.int .i64 mx, .int .i64 my, .int .i64 mw, .int .i64 mh] 37) (.cells #[.slice (some ⟨w2.heap.size, 0, none⟩) 1 1, .slice AU kA cU, .slice BU kB dU] 33)).2.2.1.drew)).cell (p := ⟨gm, 1, none⟩) lm2).trans N1) (fun e => hne (Option.some.inj e))
              have J2 : w5.cell? ⟨gm, 2, none⟩ = _ := hgrow.cell (((((two_new w2 (.cells #[.int .i64 mx, .int .i64 my, .int .i64 mw, .int .i64 mh] 37) (.cells #[.slice (some ⟨w2.heap.size, 0, none⟩) 1 1, .slice AU kA cU, .slice BU kB dU] 33)).2.2.1.drew)).cell (p := ⟨gm, 2, none⟩) lm2).trans N2) (fun e => hne (Option.some.inj e))
              have J3 : w5.cell? ⟨gm, 3, none⟩ = _ := hgrow.cell (((((two_new w2 (.cells #[.int .i64 mx, .int .i64 my, .int .i64 mw, .int .i64 mh] 37) (.cells #[.slice (some ⟨w2.heap.size, 0, none⟩) 1 1, .slice AU kA cU, .slice BU kB dU] 33)).2.2.1.drew)).cell (p := ⟨gm, 3, none⟩) lm2).trans N3) (fun e => hne (Option.some.inj e))
              have hlit := Lib.hid ((hgrow.block w2.heap.size (by simp <;> omega) (fun e => hneS (Option.some.inj e))).trans (two_new w2 (.cells #[.int .i64 mx, .int .i64 my, .int .i64 mw, .int .i64 mh] 37) (.cells #[.slice (some ⟨w2.heap.size, 0, none⟩) 1 1, .slice AU kA cU, .slice BU kB dU] 33)).2.1)
              have hrow := Lib.hid ((hgrow.block (w2.heap.size + 1) (by simp <;> omega) (fun e => hneS1 (Option.some.inj e))).trans (two_new w2 (.cells #[.int .i64 mx, .int .i64 my, .int .i64 mw, .int .i64 mh] 37) (.cells #[.slice (some ⟨w2.heap.size, 0, none⟩) 1 1, .slice AU kA cU, .slice BU kB dU] 33)).1)
              have Vc := Lib.hid hown5))
          | ((have tV := Va
              go_at_call 61
              refine (Try.catRect3 (w5.heap.size + 1) 3 ⟨some ⟨w5.heap.size, 0, none⟩, 1, 1, [.int .i64 mx, .int .i64 my, .int .i64 mw, .int .i64 mh]⟩ ⟨AU, kA, cU, yA⟩ ⟨BU, kB, dU, yB⟩ _ (by rw [(two_new w5 (.cells #[.int .i64 mx, .int .i64 my, .int .i64 mw, .int .i64 mh] 37) (.cells #[.slice (some ⟨w5.heap.size, 0, none⟩) 1 1, .slice AU kA cU, .slice BU kB dU] 33)).2.2.2]; omega) (cell_block (two_new w5 (.cells #[.int .i64 mx, .int .i64 my, .int .i64 mw, .int .i64 mh] 37) (.cells #[.slice (some ⟨w5.heap.size, 0, none⟩) 1 1, .slice AU kA cU, .slice BU kB dU] 33)).1 0) (cell_block (two_new w5 (.cells #[.int .i64 mx, .int .i64 my, .int .i64 mw, .int .i64 mh] 37) (.cells #[.slice (some ⟨w5.heap.size, 0, none⟩) 1 1, .slice AU kA cU, .slice BU kB dU] 33)).1 1) (cell_block (two_new w5 (.cells #[.int .i64 mx, .int .i64 my, .int .i64 mw, .int .i64 mh] 37) (.cells #[.slice (some ⟨w5.heap.size, 0, none⟩) 1 1, .slice AU kA cU, .slice BU kB dU] 33)).1 2) (Rd.of_block (two_new w5 (.cells #[.int .i64 mx, .int .i64 my, .int .i64 mw, .int .i64 mh] 37) (.cells #[.slice (some ⟨w5.heap.size, 0, none⟩) 1 1, .slice AU kA cU, .slice BU kB dU] 33)).2.1 rfl) ((Rd.own US5.out).below (two_new w5 (.cells #[.int .i64 mx, .int .i64 my, .int .i64 mw, .int .i64 mh] 37) (.cells #[.slice (some ⟨w5.heap.size, 0, none⟩) 1 1, .slice AU kA cU, .slice BU kB dU] 33)).2.2.1 (Nat.le_refl _)) ((Rd.own UT5.out).below (two_new w5 (.cells #[.int .i64 mx, .int .i64 my, .int .i64 mw, .int .i64 mh] 37) (.cells #[.slice (some ⟨w5.heap.size, 0, none⟩) 1 1, .slice AU kA cU, .slice BU kB dU] 33)).2.2.1 (Nat.le_refl _))
                  (fun u hu => by simp only [List.mem_cons, List.not_mem_nil, or_false] at hu; rcases hu with rfl | rfl | rfl | rfl <;> rfl) PA.out PB.out (Nat.zero_lt_one) (by show 1 + kA + kB ≤ 1000; omega)).mono ?_
              rintro e w6 ⟨u6, rfl, hu6, hb6⟩
              have hb6' : Below w5.heap.size w5 w6 := ((two_new w5 (.cells #[.int .i64 mx, .int .i64 my, .int .i64 mw, .int .i64 mh] 37) (.cells #[.slice (some ⟨w5.heap.size, 0, none⟩) 1 1, .slice AU kA cU, .slice BU kB dU] 33)).2.2.1).trans (hb6.mono ((two_new w5 (.cells #[.int .i64 mx, .int .i64 my, .int .i64 mw, .int .i64 mh] 37) (.cells #[.slice (some ⟨w5.heap.size, 0, none⟩) 1 1, .slice AU kA cU, .slice BU kB dU] 33)).2.2.1).size)
              have HV := Lib.hid (own_below Va.out hb6')
              have HU := Lib.hid (own_base hu6 (base' := w.heap.size) (Nat.le_trans HW5.size ((two_new w5 (.cells #[.int .i64 mx, .int .i64 my, .int .i64 mw, .int .i64 mh] 37) (.cells #[.slice (some ⟨w5.heap.size, 0, none⟩) 1 1, .slice AU kA cU, .slice BU kB dU] 33)).2.2.1).size))
              have HBE : Below w.heap.size w w6 := HW5.trans (hb6'.mono HW5.size)
              have Q0 : w6.cell? ⟨gm, 0, none⟩ = _ := (hb6'.cell (p := ⟨gm, 0, none⟩) (World.block_lt_of_cell? w5 _ J0)).trans J0
              have Q1 : w6.cell? ⟨gm, 1, none⟩ = _ := (hb6'.cell (p := ⟨gm, 1, none⟩) (World.block_lt_of_cell? w5 _ J1)).trans J1
              have Q2 : w6.cell? ⟨gm, 2, none⟩ = _ := (hb6'.cell (p := ⟨gm, 2, none⟩) (World.block_lt_of_cell? w5 _ J2)).trans J2
              have Q3 : w6.cell? ⟨gm, 3, none⟩ = _ := (hb6'.cell (p := ⟨gm, 3, none⟩) (World.block_lt_of_cell? w5 _ J3)).trans J3))
          | ((have tV := Vb
              go_at_call 61
              refine (Try.catRect3 (w5.heap.size) 3 ⟨some ⟨w2.heap.size, 0, none⟩, 1, 1, [.int .i64 mx, .int .i64 my, .int .i64 mw, .int .i64 mh]⟩ ⟨AU, kA, cU, yA⟩ ⟨BU, kB, dU, yB⟩ _ (by simp) (cell_block (heap_alloc_new w5 (.cells #[.slice (some ⟨w2.heap.size, 0, none⟩) 1 1, .slice AU kA cU, .slice BU kB dU] 33)) 0) (cell_block (heap_alloc_new w5 (.cells #[.slice (some ⟨w2.heap.size, 0, none⟩) 1 1, .slice AU kA cU, .slice BU kB dU] 33)) 1) (cell_block (heap_alloc_new w5 (.cells #[.slice (some ⟨w2.heap.size, 0, none⟩) 1 1, .slice AU kA cU, .slice BU kB dU] 33)) 2) ((Rd.of_block hlit.out rfl).below ((Below.refl w5.heap.size w5).alloc (Nat.le_refl _) (.cells #[.slice (some ⟨w2.heap.size, 0, none⟩) 1 1, .slice AU kA cU, .slice BU kB dU] 33)) (Nat.le_refl _)) ((Rd.own US5.out).below ((Below.refl w5.heap.size w5).alloc (Nat.le_refl _) (.cells #[.slice (some ⟨w2.heap.size, 0, none⟩) 1 1, .slice AU kA cU, .slice BU kB dU] 33)) (Nat.le_refl _)) ((Rd.own UT5.out).below ((Below.refl w5.heap.size w5).alloc (Nat.le_refl _) (.cells #[.slice (some ⟨w2.heap.size, 0, none⟩) 1 1, .slice AU kA cU, .slice BU kB dU] 33)) (Nat.le_refl _))
                  (fun u hu => by simp only [List.mem_cons, List.not_mem_nil, or_false] at hu; rcases hu with rfl | rfl | rfl | rfl <;> rfl) PA.out PB.out (Nat.zero_lt_one) (by show 1 + kA + kB ≤ 1000; omega)).mono ?_
              rintro e w6 ⟨u6, rfl, hu6, hb6⟩
              have hb6' : Below w5.heap.size w5 w6 := (((Below.refl w5.heap.size w5).alloc (Nat.le_refl _) (.cells #[.slice (some ⟨w2.heap.size, 0, none⟩) 1 1, .slice AU kA cU, .slice BU kB dU] 33))).trans (hb6.mono (((Below.refl w5.heap.size w5).alloc (Nat.le_refl _) (.cells #[.slice (some ⟨w2.heap.size, 0, none⟩) 1 1, .slice AU kA cU, .slice BU kB dU] 33))).size)
              have HV := Lib.hid (own_below Vb.out hb6')
              have HU := Lib.hid (own_base hu6 (base' := w.heap.size) (Nat.le_trans HW5.size (((Below.refl w5.heap.size w5).alloc (Nat.le_refl _) (.cells #[.slice (some ⟨w2.heap.size, 0, none⟩) 1 1, .slice AU kA cU, .slice BU kB dU] 33))).size))
              have HBE : Below w.heap.size w w6 := HW5.trans (hb6'.mono HW5.size)
              have Q0 : w6.cell? ⟨gm, 0, none⟩ = _ := (hb6'.cell (p := ⟨gm, 0, none⟩) (World.block_lt_of_cell? w5 _ J0)).trans J0
              have Q1 : w6.cell? ⟨gm, 1, none⟩ = _ := (hb6'.cell (p := ⟨gm, 1, none⟩) (World.block_lt_of_cell? w5 _ J1)).trans J1
              have Q2 : w6.cell? ⟨gm, 2, none⟩ = _ := (hb6'.cell (p := ⟨gm, 2, none⟩) (World.block_lt_of_cell? w5 _ J2)).trans J2
              have Q3 : w6.cell? ⟨gm, 3, none⟩ = _ := (hb6'.cell (p := ⟨gm, 3, none⟩) (World.block_lt_of_cell? w5 _ J3)).trans J3))
          | ((have tV := Vc
              go_at_call 61
              refine (Try.catRect3 (w2.heap.size + 1) 3 ⟨some ⟨w2.heap.size, 0, none⟩, 1, 1, [.int .i64 mx, .int .i64 my, .int .i64 mw, .int .i64 mh]⟩ ⟨AU, kA, cU, yA⟩ ⟨BU, kB, dU, yB⟩ _ ((Array.getElem?_eq_some_iff.1 hrow.out).1) (cell_block hrow.out 0) (cell_block hrow.out 1) (cell_block hrow.out 2) (Rd.of_block hlit.out rfl) (Rd.own US5.out) (Rd.own UT5.out)
                  (fun u hu => by simp only [List.mem_cons, List.not_mem_nil, or_false] at hu; rcases hu with rfl | rfl | rfl | rfl <;> rfl) PA.out PB.out (Nat.zero_lt_one) (by show 1 + kA + kB ≤ 1000; omega)).mono ?_
              rintro e w6 ⟨u6, rfl, hu6, hb6⟩
              have hb6' : Below w5.heap.size w5 w6 := ((Below.refl w5.heap.size w5)).trans (hb6.mono ((Below.refl w5.heap.size w5)).size)
              have HV := Lib.hid (own_below Vc.out hb6')
              have HU := Lib.hid (own_base hu6 (base' := w.heap.size) (Nat.le_trans HW5.size ((Below.refl w5.heap.size w5)).size))
              have HBE : Below w.heap.size w w6 := HW5.trans (hb6'.mono HW5.size)
              have Q0 : w6.cell? ⟨gm, 0, none⟩ = _ := (hb6'.cell (p := ⟨gm, 0, none⟩) (World.block_lt_of_cell? w5 _ J0)).trans J0
              have Q1 : w6.cell? ⟨gm, 1, none⟩ = _ := (hb6'.cell (p := ⟨gm, 1, none⟩) (World.block_lt_of_cell? w5 _ J1)).trans J1
              have Q2 : w6.cell? ⟨gm, 2, none⟩ = _ := (hb6'.cell (p := ⟨gm, 2, none⟩) (World.block_lt_of_cell? w5 _ J2)).trans J2
              have Q3 : w6.cell? ⟨gm, 3, none⟩ = _ := (hb6'.cell (p := ⟨gm, 3, none⟩) (World.block_lt_of_cell? w5 _ J3)).trans J3))
          | ((go_at_call 61
              refine (Try.catRect3 (w2.heap.size + 1) 3 ⟨some ⟨w2.heap.size, 0, none⟩, 1, 1, [.int .i64 mx, .int .i64 my, .int .i64 mw, .int .i64 mh]⟩ ⟨AU, kA, cU, yA⟩ ⟨BU, kB, dU, yB⟩ _ (by show w2.heap.size + 1 < ((w2.alloc _).alloc _).heap.size; rw [(two_new w2 (.cells #[.int .i64 mx, .int .i64 my, .int .i64 mw, .int .i64 mh] 37) (.cells #[.slice (some ⟨w2.heap.size, 0, none⟩) 1 1, .slice AU kA cU, .slice BU kB dU] 33)).2.2.2]; omega) (cell_block (two_new w2 (.cells #[.int .i64 mx, .int .i64 my, .int .i64 mw, .int .i64 mh] 37) (.cells #[.slice (some ⟨w2.heap.size, 0, none⟩) 1 1, .slice AU kA cU, .slice BU kB dU] 33)).1 0) (cell_block (two_new w2 (.cells #[.int .i64 mx, .int .i64 my, .int .i64 mw, .int .i64 mh] 37) (.cells #[.slice (some ⟨w2.heap.size, 0, none⟩) 1 1, .slice AU kA cU, .slice BU kB dU] 33)).1 1) (cell_block (two_new w2 (.cells #[.int .i64 mx, .int .i64 my, .int .i64 mw, .int .i64 mh] 37) (.cells #[.slice (some ⟨w2.heap.size, 0, none⟩) 1 1, .slice AU kA cU, .slice BU kB dU] 33)).1 2) (Rd.of_block (two_new w2 (.cells #[.int .i64 mx, .int .i64 my, .int .i64 mw, .int .i64 mh] 37) (.cells #[.slice (some ⟨w2.heap.size, 0, none⟩) 1 1, .slice AU kA cU, .slice BU kB dU] 33)).2.1 rfl) ((Rd.own UA.out).below (two_new w2 (.cells #[.int .i64 mx, .int .i64 my, .int .i64 mw, .int .i64 mh] 37) (.cells #[.slice (some ⟨w2.heap.size, 0, none⟩) 1 1, .slice AU kA cU, .slice BU kB dU] 33)).2.2.1.drew (Nat.le_refl _)) ((Rd.own HUB.out).below (two_new w2 (.cells #[.int .i64 mx, .int .i64 my, .int .i64 mw, .int .i64 mh] 37) (.cells #[.slice (some ⟨w2.heap.size, 0, none⟩) 1 1, .slice AU kA cU, .slice BU kB dU] 33)).2.2.1.drew (Nat.le_refl _))
                  (fun u hu => by simp only [List.mem_cons, List.not_mem_nil, or_false] at hu; rcases hu with rfl | rfl | rfl | rfl <;> rfl) PA.out PB.out (Nat.zero_lt_one) (by show 1 + kA + kB ≤ 1000; omega)).mono ?_
              rintro e w4 ⟨u4, rfl, hu4, hb4⟩
              have hb4' : Below w2.heap.size w2 w4 := ((two_new w2 (.cells #[.int .i64 mx, .int .i64 my, .int .i64 mw, .int .i64 mh] 37) (.cells #[.slice (some ⟨w2.heap.size, 0, none⟩) 1 1, .slice AU kA cU, .slice BU kB dU] 33)).2.2.1.drew).trans (hb4.mono ((two_new w2 (.cells #[.int .i64 mx, .int .i64 my, .int .i64 mw, .int .i64 mh] 37) (.cells #[.slice (some ⟨w2.heap.size, 0, none⟩) 1 1, .slice AU kA cU, .slice BU kB dU] 33)).2.2.1.drew).size)
              have VA4 := Lib.hid (own_below VA.out hb4'); have VB4 := Lib.hid (own_below HVB.out hb4')
              have HU4 := Lib.hid (own_base hu4 (base' := w.heap.size) (Nat.le_trans HB2.size ((two_new w2 (.cells #[.int .i64 mx, .int .i64 my, .int .i64 mw, .int .i64 mh] 37) (.cells #[.slice (some ⟨w2.heap.size, 0, none⟩) 1 1, .slice AU kA cU, .slice BU kB dU] 33)).2.2.1.drew).size))
              have HB4 : Below w.heap.size w w4 := HB2.trans (hb4'.mono HB2.size)
              have I0 : w4.cell? ⟨gm, 0, none⟩ = _ := (hb4'.cell (p := ⟨gm, 0, none⟩) lm2).trans N0
              have I1 : w4.cell? ⟨gm, 1, none⟩ = _ := (hb4'.cell (p := ⟨gm, 1, none⟩) lm2).trans N1
              have I2 : w4.cell? ⟨gm, 2, none⟩ = _ := (hb4'.cell (p := ⟨gm, 2, none⟩) lm2).trans N2
              have I3 : w4.cell? ⟨gm, 3, none⟩ = _ := (hb4'.cell (p := ⟨gm, 3, none⟩) lm2).trans N3)))
      all_goals
        go_wp2
        go_ret3
        refine ⟨_, _, rfl, HV.out, ?_, HBE⟩
        have := HU.out
        simpa [Rc.cells, Nat.add_assoc, Nat.add_comm, Nat.add_left_comm] using this
end Go.Proofs
