/-
  tree.Split.
-/
import Derived.Test.YtkcibhokjiciiaaBh
import Derived.Test.YtkcibhokjiciiaaBx
namespace Tp
open Go Go.RowKit
/-- A leaf gives way to two. -/
theorem put_part {ty : TypeId} {w w' : World} {T : Tr} {k : Nat} {S : List Nat} (h : PartAt ty w T k S) (hS : S.Nodup) (hn : T.panes.Nodup) {p fresh d f : Int} {i n1 n2 : Nat} (hl : (p, i) ∈ lv T S) (hsame : ∀ j ∈ S, j ≠ i → w'.heap[j]? = w.heap[j]?)
    (hi : w'.heap[i]? = some (.cells #[.int .i64 0, .int .i64 d, .int .i64 f, .pointer (some ⟨n1, 0, none⟩), .pointer (some ⟨n2, 0, none⟩)] ty))
    (h1 : w'.heap[n1]? = some (.cells #[.int .i64 p, .int .i64 0, .int .i64 0, .pointer none, .pointer none] ty)) (h2 : w'.heap[n2]? = some (.cells #[.int .i64 fresh, .int .i64 0, .int .i64 0, .pointer none, .pointer none] ty)) :
    ∃ R, PartAt ty w' (T.put p fresh d f) k R := by
  obtain ⟨a1, a2⟩ := lv_apart h hS
  rw [← lv_panes h] at hn
  rw [← bind_put]
  refine bind_part h (fun j hj => hsame j (inn_mem h j hj) (fun e => a1 _ hl (by rw [← e]; exact hj))) (fun x hx => ?_)
  obtain ⟨q, j⟩ := x
  have hm := lv_mem h _ hx
  simp only at hm ⊢
  by_cases e : q = p
  · subst e
    have := inj_map hn _ hx _ hl rfl
    injection this with _ e2
    subst e2
    rw [if_pos rfl]
    exact ⟨[j, n1, n2], n1, n2, [n1], [n2], rfl, hi, ⟨rfl, h1⟩, ⟨rfl, h2⟩⟩
  · rw [if_neg e]
    refine ⟨[j], rfl, (hsame j hm.1 (fun e2 => e ?_)).trans hm.2⟩
    subst e2
    exact a2 _ hx _ hl rfl
theorem set_five {w : World} {i : Nat} {c0 c1 c2 c3 c4 : Value} {ty : TypeId} (h : w.heap[i]? = some (.cells #[c0, c1, c2, c3, c4] ty)) (v0 v1 v2 v3 v4 : Value) :
    (((((w.setCell ⟨i, 0, none⟩ v0).setCell ⟨i, 1, none⟩ v1).setCell ⟨i, 2, none⟩ v2).setCell ⟨i, 3, none⟩ v3).setCell ⟨i, 4, none⟩ v4).heap[i]? = some (.cells #[v0, v1, v2, v3, v4] ty) ∧
    (∀ j, j ≠ i → (((((w.setCell ⟨i, 0, none⟩ v0).setCell ⟨i, 1, none⟩ v1).setCell ⟨i, 2, none⟩ v2).setCell ⟨i, 3, none⟩ v3).setCell ⟨i, 4, none⟩ v4).heap[j]? = w.heap[j]?) ∧
    (((((w.setCell ⟨i, 0, none⟩ v0).setCell ⟨i, 1, none⟩ v1).setCell ⟨i, 2, none⟩ v2).setCell ⟨i, 3, none⟩ v3).setCell ⟨i, 4, none⟩ v4).heap.size = w.heap.size ∧
    (∀ B a, B ≤ i → Below B a w → Below B a (((((w.setCell ⟨i, 0, none⟩ v0).setCell ⟨i, 1, none⟩ v1).setCell ⟨i, 2, none⟩ v2).setCell ⟨i, 3, none⟩ v3).setCell ⟨i, 4, none⟩ v4)) := by
  refine ⟨heap_set (heap_set (heap_set (heap_set (heap_set h v0) v1) v2) v3) v4, fun j hj => ?_, by simp [World.setCell], fun B a hB hb => ?_⟩
  · simp [World.setCell, Array.getElem?_modify, Ne.symm hj]
  · exact ((((hb.setCell hB _).setCell hB _).setCell hB _).setCell hB _).setCell hB _
end Tp
namespace Go.Proofs
open Go.RowKit Go.Lib Go.Sort Tp
attribute [local go_sem ↓] Go.wp_at_zero Go.wp_at_succ

set_option maxRecDepth 100000 in
set_option maxHeartbeats 4000000 in
theorem Try.tsplit_ok (T : Tr) (hT : Whole T) (v : Value) (x y p fresh d : Int) (r : Nat) (w : World) (hf : T.fits x y) (h3 : x ≤ 1000) (h4 : y ≤ 1000) (hp : p ∈ T.panes) (hfr : fresh ∉ T.panes) (hf1 : 1 ≤ fresh) (hs : T.size + 2 ≤ 63) (hd : d = 1 ∨ d = 2) (hv : NodesAt w v (T.nodes 0)) :
    Calls Try.prog 10 #[.agg #[v], .int .i64 x, .int .i64 y, .int .i64 p, .int .i64 fresh, .int .i64 d, .float .f64 r] w (SplitPost T p fresh d (lng (T.spots (whole x y)) p d) w) := by
  have hPa := Lib.hid (fun w' (hW : Below w.heap.size w w') => Try.parse_ok T hT v w' (hv.below hW))
  have hPl := Lib.hid (fun w' (hW : Below w.heap.size w w') => (Try.tplaces_ok T hT v x y w' hf h3 h4 (hv.below hW)).mono (fun e w'' h => show SpotsPost (T.spots (whole x y)) w' e w'' from by obtain ⟨a, b, h1, h2, _, h4⟩ := h; exact ⟨a, b, h1, h2, h4⟩))
  have hslen : 0 < (T.spots (whole x y)).length ∧ (T.spots (whole x y)).length ≤ 63 := by rw [Tr.spots_length]; have := T.panes_length; have := T.size_pos; have := hT.size; omega
  have hLo := Lib.hid (fun v w' h => Try.long_ok (T.spots (whole x y)) v p d w' hd hslen.1 (by omega) h)
  have hF := Lib.hid (fun w' k S q (h : PartAt 66 w' T k S) => Try.find_ok T k S q w' h)
  have hFn := Lib.hid (fun w' k S (h : PartAt 66 w' T k S) => fnd_none h hfr)
  have hFs := Lib.hid (fun w' k S (h : PartAt 66 w' T k S) => fnd_some h hp)
  have hM := Lib.hid (fun w' k R f (h : PartAt 66 w' (T.put p fresh d f) k R) => Try.made_new (T.put p fresh d f) k R w' (by rw [Tr.put_size hT.nodup hp]; omega) h)
  have hn : 1 ≤ lng (T.spots (whole x y)) p d ∧ lng (T.spots (whole x y)) p d ≤ 1000 := by
    have : p ∈ (T.spots (whole x y)).map (·.pane) := by rw [Tr.spots_panes]; exact hp
    obtain ⟨s, hs, e⟩ := List.mem_map.1 this
    obtain ⟨j, hj, rfl⟩ := List.mem_iff_getElem.1 hs
    have hnd : ((T.spots (whole x y)).map (·.pane)).Nodup := by rw [Tr.spots_panes]; exact hT.nodup
    rw [lng_at (d := d) hj (fun i hi hij h => by
      have := List.pairwise_iff_getElem.1 hnd i j (by simpa using hi) (by simpa using hj) hij
      simp only [List.getElem_map] at this
      exact this (h.trans e.symm)) e]
    have hi := Tr.spots_in (T := T) (r := whole x y) hf _ hs
    simp only [whole] at hi ⊢
    split <;> omega
  obtain ⟨b, off, c, rfl, hb⟩ := nodes_slice hv
  have NDp := Lib.hid hT.nodup
  have e1 : decide (fresh < 1) = false := by simp; omega
  have hnl : (T.nodes 0).length = T.size := T.nodes_length 0
  generalize (T.nodes 0).length = m at *
  subst hnl
  have e2 : decide (63 < (T.size : Int) + 2) = false := by simp; omega
  have e3 : decide (63 < T.size + 2) = false := by simp; omega
  clear hv hT hf hp hfr
  generalize hgn : lng (T.spots (whole x y)) p d = n at *
  have HG := Lib.hid hgn
  generalize T.spots (whole x y) = l at *
  clear hgn
  go_enter Try.func10, Try.ntmps10
  go_wp2_with fail
  go_at_call 27
  refine (hPa.out _ (((Below.refl _ w).alloc (Nat.le_refl _) _).alloc (by simp) _)).mono ?_
  rintro e w1 ⟨k, S, rfl, hpa, hS, hSl, hb1⟩
  obtain ⟨t1, t2, t3, t4⟩ := two_new w (.cells #[.slice (some ⟨b, off, none⟩) T.size c] 26) (.cells #[.slice none 0 0] 26)
  have F1 := Lib.hid ((hb1.block (w.heap.size + 1) (by rw [t4]; omega)).trans t1)
  have F0 := Lib.hid ((hb1.block w.heap.size (by rw [t4]; omega)).trans t2)
  have HB1 : Below w.heap.size w w1 := t3.trans (hb1.mono (by rw [t4]; omega))
  have hs1 : w.heap.size + 2 ≤ w1.heap.size := by have := hb1.size; rw [t4] at this; exact this
  have SL := Lib.hid (fun i hi => show w.heap.size + 2 ≤ i by have := hSl i hi; rw [t4] at this; exact this)
  have PA := Lib.hid hpa; have SN := Lib.hid hS
  have q0 : w.heap.size < w1.heap.size := by omega
  have c0 := cell_block F0.out 0
  clear t1 t2 t3 t4 hb1 hpa hS hSl
  go_wp2_with fail
  go_at_call 14
  refine (hPl.out _ HB1).mono ?_
  rintro e w2 ⟨vs, us, rfl, hvs, hb2⟩
  have hs2 := hb2.size
  have lo := Lib.hid (hLo.out _ _ hvs)
  obtain ⟨sb, so, sc, rfl, _, _⟩ := hvs.at hslen.1
  have c02 := (hb2.cell (p := ⟨w.heap.size, 0, none⟩) q0).trans c0
  clear hvs c0
  go_wp2_with fail
  go_at_call 29
  refine (lo.out).mono ?_
  rintro e w3 ⟨rfl, hb3⟩
  have hs3 := hb3.size
  have HB3 : Below w1.heap.size w1 w3 := hb2.trans (hb3.mono hs2)
  have c03 := (hb3.cell (p := ⟨w.heap.size, 0, none⟩) (by show w.heap.size < _; omega)).trans c02
  have PA3 := Lib.hid (PA.out.below HB3)
  have fn := hF.out w3 k S fresh PA3.out
  rw [hFn.out _ _ _ PA3.out] at fn
  have Fn := Lib.hid fn
  obtain ⟨ip, hip, hlv⟩ := hFs.out _ _ _ PA3.out
  have fs := hF.out w3 k S p PA3.out
  have Fs2 := Lib.hid hip
  have LV := Lib.hid hlv
  clear fn fs hlv c02
  have G1 : w3.heap[w.heap.size + 1]? = some (.cells #[.slice none 0 0] 26) := (HB3.block (w.heap.size + 1) (by omega)).trans F1.out
  have G1 := Lib.hid G1
  by_cases hn3 : n < 3
  · have rc := cell_block G1.out 0
    have rz := free_block G1.out 0
    go_wp2
    refine bodyPost_ret (v := .tuple #[.agg #[.slice none 0 0], .bool false]) (by simp [results, Try.results10, go_sem, rc]) rfl (.inl ⟨hn3, rfl, (HB1.trans (HB3.mono HB1.size)).setCell (by simp) _⟩)
  · have hPt := Lib.hid (fun w' => Try.part_ok (n - 1) r w' (by omega) (by omega))
    go_wp2_with (go_at_call 30; refine (Fn.out).mono ?_; rintro e w' ⟨rfl, rfl⟩; unfold ptr)
    go_at_call 32
    refine (hPt.out _).mono ?_
    rintro e w4 ⟨m, hm0, hm1, rfl, hb4⟩
    have hs4 := hb4.size
    have HB4 : Below w1.heap.size w1 w4 := HB3.trans (hb4.mono (by omega))
    have hh := held_in (n := m) (lo := 1) (hi := n - 2) (by omega)
    have c04 := (hb4.cell (p := ⟨w.heap.size, 0, none⟩) (by show w.heap.size < _; omega)).trans c03
    go_wp2_with fail
    go_at_call 31
    refine (Try.held_ok _ _ _ _).mono ?_
    rintro e w' ⟨rfl, rfl⟩
    generalize held m 1 (n - 2) = f at hh
    have PA4 := Lib.hid (PA.out.below HB4)
    have fs := hF.out w4 k S p PA4.out
    rw [Fs2.out] at fs
    have fs := Lib.hid fs
    go_wp2_with fail
    go_at_call 30
    refine (fs.out).mono ?_
    rintro e w' ⟨rfl, rfl⟩
    unfold ptr
    obtain ⟨hipS, hblk⟩ := lv_mem PA4.out _ LV.out
    simp only at hipS hblk
    have hipl := SL.out _ hipS
    have hblt : ip < w4.heap.size := by
      rcases Nat.lt_or_ge ip w4.heap.size with h | h
      · exact h
      · simp [Array.getElem?_eq_none h] at hblk
    have i0 := cell_block hblk 0; have i1 := cell_block hblk 1; have i2 := cell_block hblk 2; have i3 := cell_block hblk 3; have i4 := cell_block hblk 4
    have y0 := free_block hblk 0; have y1 := free_block hblk 1; have y2 := free_block hblk 2; have y3 := free_block hblk 3; have y4 := free_block hblk 4
    go_wp2_with fail
    obtain ⟨s1, s2, s3, s4⟩ := set_five hblk (.int .i64 0) (.int .i64 d) (.int .i64 f) (.pointer (some ⟨w4.heap.size, 0, none⟩)) (.pointer (some ⟨w4.heap.size + 1, 0, none⟩))
    generalize (((((w4.setCell ⟨ip, 0, none⟩ (.int .i64 0)).setCell ⟨ip, 1, none⟩ (.int .i64 d)).setCell ⟨ip, 2, none⟩ (.int .i64 f)).setCell ⟨ip, 3, none⟩ (.pointer (some ⟨w4.heap.size, 0, none⟩))).setCell ⟨ip, 4, none⟩ (.pointer (some ⟨w4.heap.size + 1, 0, none⟩))) = w5 at s1 s2 s3 s4 ⊢
    obtain ⟨n1, n2, n3, n4⟩ := two_new w5 (.cells #[.int .i64 p, .int .i64 0, .int .i64 0, .pointer none, .pointer none] 66) (.cells #[.int .i64 fresh, .int .i64 0, .int .i64 0, .pointer none, .pointer none] 66)
    rw [s3] at n1 n2 n4
    generalize ((w5.alloc (.cells #[.int .i64 p, .int .i64 0, .int .i64 0, .pointer none, .pointer none] 66)).alloc (.cells #[.int .i64 fresh, .int .i64 0, .int .i64 0, .pointer none, .pointer none] 66)) = w6 at n1 n2 n3 n4 ⊢
    have HW4 : Below w.heap.size w w4 := HB1.trans (HB4.mono HB1.size)
    have B6 : Below w.heap.size w w6 := (s4 _ _ (by omega) HW4).trans (n3.mono (by rw [s3]; exact HW4.size))
    have hs6 := B6.size
    obtain ⟨R, hR⟩ := put_part (d := d) (f := f) PA4.out SN.out NDp.out LV.out (w' := w6) (fun j hj hne => (n3.block j (by rw [s3]; exact PA4.out.lt j hj)).trans (s2 j hne)) ((n3.block ip (by rw [s3]; exact hblt)).trans s1) n2 n1
    have G6 := (n3.block (w.heap.size + 1) (by rw [s3]; omega)).trans ((s2 (w.heap.size + 1) (by omega)).trans ((HB4.block (w.heap.size + 1) (by omega)).trans F1.out))
    have mm := Lib.hid (hM.out w6 k R f hR)
    clear s1 s2 s3 s4 n1 n2 n3 hR i0 i1 i2 i3 i4 y0 y1 y2 y3 y4 hblk
    go_at_call 33
    refine (mm.out).mono ?_
    rintro e w7 ⟨g, go, gc, rfl, hg, hN, hb7⟩
    have rc := cell_block ((hb7.block (w.heap.size + 1) (by omega)).trans G6) 0
    have rz := free_block ((hb7.block (w.heap.size + 1) (by omega)).trans G6) 0
    have NN := Lib.hid hN
    clear hN
    go_wp2
    refine bodyPost_ret (v := .tuple #[.agg #[.slice (some ⟨g, go, none⟩) (T.put p fresh d f).size gc], .bool true]) (by simp [results, Try.results10, go_sem, rc]) rfl (.inr ⟨by omega, f, hh.1, hh.2, g, go, gc, rfl, by omega, ?_, (B6.trans (hb7.mono B6.size)).setCell (by simp) _⟩)
    refine nodes_set NN.out (fun b' o' c' e => ?_) _ _
    injection e with e1 e2 e3; injection e1 with e1; injection e1 with e1
    rw [← e1]; omega
end Go.Proofs
