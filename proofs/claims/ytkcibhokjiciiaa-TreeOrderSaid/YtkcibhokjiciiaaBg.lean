/-
  Rows of places and of rectangles that are appended to, whatever the order. The document's answer for trees: where a node's panes are, and its borders. Places, by the program and by the document.
-/
import Derived.Test.YtkcibhokjiciiaaBe
import Derived.Test.YtkcibhokjiciiaaBv
import Derived.Test.YtkcibhokjiciiaaBd
import Derived.Test.YtkcibhokjiciiaaBf
namespace Go.Proofs
open Go.RowKit Go.Lib Go.Sort Tp

/-- At a step of a region that draws its order: an append whose run is known. -/
theorem step_append_run {P : Program} (w : World) {ops : Array Oper} {o : Oper} {a : Act} {K : Act → World → Prop} {Q : Exit → Act → World → Prop} {E : Prop} (hgd : o.guard = none) (s x : Operand) (t : TypeId)
    (ho : o.op = .call { callee := .builtin .append, args := #[s, x], argTypes := #[t, t] }) (vs vx : Value) (hs : a.eval s = vs) (hx : a.eval x = vx) (v' : Value) (w' : World) (hr : (Builtin.append_ #[t, t] o.type #[vs, vx]).run P w = .ok v' w') (h : K (a.put o.dst v') w') :
    if Region.wanted o (yielded ops a.tmps) = true then Oper.wp P o a w K Q else E := by
  have hw : Region.wanted o (yielded ops a.tmps) = true := by simp [Region.wanted, hgd]
  rw [if_pos hw]
  exact Lib.wp_append_run w s x t t ho vs vx hs hx v' w' hr h

/-- Where a row lies. -/
def Low (v : Value) (B : Nat) : Prop := ∀ k, v.ownBlock = some k → k < B
/-- Two rows that grow, rows that are read, and a block that stays. -/
structure St (w0 : World) (B z : Nat) (Z : Obj) (vb : Value) (nB : Nat) (xB : List Value) (ua : Value) (kA : Nat) (yA : List Value) (ub : Value) (kB : Nat) (yB : List Value) (W : World) (V : Value) (nV : Nat) (xV : List Value) (M : Value) (nM : Nat) (xM : List Value) : Prop where
  below : Below w0.heap.size w0 W
  big : B ≤ W.heap.size
  low : w0.heap.size ≤ B
  hV : W.ownsRow w0.heap.size 39 5 V nV xV
  hM : W.ownsRow B 37 4 M nM xM
  hvb : W.ownsRow w0.heap.size 39 5 vb nB xB
  hua : W.ownsRow w0.heap.size 37 4 ua kA yA
  hub : W.ownsRow w0.heap.size 37 4 ub kB yB
  bl : Low vb B
  al : Low ua B
  ul : Low ub B
  ne : ∀ k, vb.ownBlock = some k → V.ownBlock ≠ some k
  zz : W.heap[z]? = some Z
  zl : z < B
  zn : V.ownBlock ≠ some z

variable {w0 : World} {B z : Nat} {Z : Obj} {W : World} {V : Value} {nV : Nat} {xV : List Value} {M : Value} {nM : Nat} {xM : List Value} {vb : Value} {nB : Nat} {xB : List Value} {ua : Value} {kA : Nat} {yA : List Value} {ub : Value} {kB : Nat} {yB : List Value}

theorem St.same (h : St w0 B z Z vb nB xB ua kA yA ub kB yB W V nV xV M nM xM) {W' : World} (hW : Below W.heap.size W W') : St w0 B z Z vb nB xB ua kA yA ub kB yB W' V nV xV M nM xM :=
  ⟨h.below.trans (hW.mono h.below.size), Nat.le_trans h.big hW.size, h.low, own_below h.hV hW, own_below h.hM hW, own_below h.hvb hW, own_below h.hua hW, own_below h.hub hW, h.bl, h.al, h.ul, h.ne, (hW.block z (Nat.lt_of_lt_of_le h.zl h.big)).trans h.zz, h.zl, h.zn⟩
theorem St.lit (h : St w0 B z Z vb nB xB ua kA yA ub kB yB W V nV xV M nM xM) (cs : Array Value) (hs : cs.size = 4) : St w0 B z Z vb nB xB ua kA yA ub kB yB (W.alloc (.cells cs 37)) V nV xV (.slice (some ⟨W.heap.size, 0, none⟩) 1 1) 1 cs.toList :=
  { h.same ((Below.refl _ W).alloc (Nat.le_refl _) (.cells cs 37)) with hM := World.ownsRow_lit W cs 1 h.big (by simp [maxLen]) hs }
theorem apart_of {v : Value} {row : Option Nat} (h : ∀ k, v.ownBlock = some k → row ≠ some k) : v.ownBlock = none ∨ v.ownBlock ≠ row := by
  cases hv : v.ownBlock with
  | none => exact .inl rfl
  | some k => exact .inr fun e => h k hv e.symm

/-- The places' row. -/
theorem St.spots (h : St w0 B z Z vb nB xB ua kA yA ub kB yB W V nV xV M nM xM) (hn : nV + nB ≤ 1000) (ob : ∀ u ∈ xB, u.oneCell' = true) :
    ∃ v' W', (Builtin.append_ #[32, 32] 32 #[V, vb]).run Try.prog W = .ok v' W' ∧ St w0 B z Z vb nB xB ua kA yA ub kB yB W' v' (nV + nB) (xV ++ xB) M nM xM := by
  obtain ⟨i0, hi0, hz0, hz1, hz2⟩ := info_parts Try.infoSpot
  obtain ⟨v', W', hrun, hown, hgrow, hat⟩ := app_run (P := Try.prog) W w0.heap.size 32 32 39 i0 _ 5 40 Try.underlying32 hi0 hz0 hz1 hz2 rfl (by decide) V nV xV h.hV vb nB xB (Rd.own h.hvb) ob (by simp only [maxLen]; omega) (by omega) h.below.size
  have hbig := h.big
  have hzl := h.zl
  refine ⟨v', W', hrun, h.below.grown hgrow h.below.size (fun k e => (h.hV.lt k e).1), Nat.le_trans h.big hgrow.size, h.low, hown, h.hM.kept hgrow (own_apart h.hM h.hV (by decide)), h.hvb.kept hgrow (apart_of h.ne), h.hua.kept hgrow (own_apart h.hua h.hV (by decide)), h.hub.kept hgrow (own_apart h.hub h.hV (by decide)), h.bl, h.al, h.ul, fun k e e' => ?_, (hgrow.block z (by omega) (fun e => h.zn e.symm)).trans h.zz, h.zl, fun e => ?_⟩
  · rcases hat with h1 | h1
    · exact h.ne k e (h1 ▸ e')
    · rw [h1] at e'; injection e' with e'; have := h.bl k e; omega
  · rcases hat with h1 | h1
    · exact h.zn (h1 ▸ e)
    · rw [h1] at e; injection e with e; omega

/-- The rectangles' row: one that is read is appended. -/
theorem St.rects (h : St w0 B z Z vb nB xB ua kA yA ub kB yB W V nV xV M nM xM) {x : Value} {n : Nat} {xs : List Value} (hx : W.ownsRow w0.heap.size 37 4 x n xs) (hn : nM + n ≤ 1000) (ox : ∀ u ∈ xs, u.oneCell' = true) :
    ∃ m' W', (Builtin.append_ #[33, 33] 33 #[M, x]).run Try.prog W = .ok m' W' ∧ St w0 B z Z vb nB xB ua kA yA ub kB yB W' V nV xV m' (nM + n) (xM ++ xs) := by
  obtain ⟨i0, hi0, hz0, hz1, hz2⟩ := info_parts Try.infoRect
  obtain ⟨m', W', hrun, hown, hgrow, _⟩ := app_run (P := Try.prog) W B 33 33 37 i0 _ 4 32 Try.underlying33 hi0 hz0 hz1 hz2 rfl (by decide) M nM xM h.hM x n xs (Rd.own hx) ox (by simp only [maxLen]; omega) (by omega) h.big
  have hm : ∀ k, M.ownBlock = some k → B ≤ k := fun k e => (h.hM.lt k e).1
  have lowm : ∀ {v : Value}, Low v B → v.ownBlock = none ∨ v.ownBlock ≠ M.ownBlock := fun {v} hl => apart_of fun k e e' => by have := hl k e; have := hm k e'; omega
  have hbig := h.big
  have hzl := h.zl
  exact ⟨m', W', hrun, h.below.grown hgrow h.below.size (fun k e => Nat.le_trans h.low (hm k e)), Nat.le_trans h.big hgrow.size, h.low, h.hV.kept hgrow (own_apart h.hV h.hM (by decide)), hown, h.hvb.kept hgrow (own_apart h.hvb h.hM (by decide)), h.hua.kept hgrow (lowm h.al), h.hub.kept hgrow (lowm h.ul), h.bl, h.al, h.ul, h.ne,
    (hgrow.block z (by omega) (fun e => by have := hm z e.symm; omega)).trans h.zz, h.zl, h.zn⟩
end Go.Proofs
namespace Go.Proofs
open Go.RowKit Go.Lib Go.Sort Tp
attribute [local go_sem ↓] Go.wp_at_zero Go.wp_at_succ

set_option maxRecDepth 100000 in
set_option maxHeartbeats 4000000 in
theorem Try.rplaces_ok (n c b off : Nat) (hn : n ≤ 63) : ∀ (T : Tr) (k : Nat) (q : Int) (r : Rc) (w : World), q = (k : Int) → T.good → T.fits r.w r.h → Fine r → k + T.size ≤ n → b < w.heap.size → NodesFrom w (T.nodes k) b off k →
    Calls Try.prog 36 #[.slice (some ⟨b, off, none⟩) n c, .int .i64 q, .agg #[.int .i64 r.x, .int .i64 r.y, .int .i64 r.w, .int .i64 r.h]] w
      (PPost (T.spots r).length ((T.spots r).flatMap Sp.cells) (T.borders r).length ((T.borders r).flatMap Rc.cells) w)
  | .leaf p, k, q, r, w, hq, hg, hf, hr, hk, hb, hN => by
    subst hq
    obtain ⟨c0, c1, c2, c3, c4⟩ := hN 0 (by simp [Tr.nodes])
    simp only [Tr.nodes, List.getElem!_cons_zero, Nat.add_zero] at c0 c1 c2 c3 c4
    simp only [Tr.size] at hk
    have hlt : (k : Int) < (n : Int) := by omega
    have hp := hg.1
    have e1 : decide (0 < p) = true := by simp; omega
    obtain ⟨x, y, rw, rh⟩ := r
    clear hf hr
    go_enter Try.func36, Try.ntmps36
    go_wp2
    go_ret3
    obtain ⟨h1, h2, h3, h4⟩ := two_new w (.cells #[.int .i64 x, .int .i64 y, .int .i64 rw, .int .i64 rh] 37) (.cells #[.int .i64 p, .int .i64 0, .int .i64 0, .int .i64 0, .int .i64 0] 73)
    have h0 := World.ownsRow_lit (base := w.heap.size) (e := 39) (size := 5) ((w.alloc (.cells #[.int .i64 x, .int .i64 y, .int .i64 rw, .int .i64 rh] 37)).alloc (.cells #[.int .i64 p, .int .i64 0, .int .i64 0, .int .i64 0, .int .i64 0] 73)) #[.int .i64 p, .int .i64 x, .int .i64 y, .int .i64 rw, .int .i64 rh] 1 (by rw [h4]; omega) (by simp [maxLen]) rfl
    rw [h4] at h0
    exact ⟨_, _, rfl, h0, ⟨by simp [Tr.borders], .inl ⟨rfl, rfl⟩⟩, h3.alloc (by rw [h4]; omega) _⟩
  | .node d f A B, k, q, r, w, hq, ⟨hd, hf1, hf2, hgA, hgB⟩, hf, hr, hk, hb, hN => by
    subst hq
    obtain ⟨c0, c1, c2, c3, c4⟩ := hN 0 (by simp [Tr.nodes])
    have hN1 : NodesFrom w (A.nodes (k + 1) ++ B.nodes (k + 1 + A.size)) b off (k + 1) := NodesFrom.right (l := [⟨0, d, f, (k + 1 : Nat), (k + 1 + A.size : Nat)⟩]) hN
    have hNA := hN1.left
    have hNB := hN1.right
    rw [Tr.nodes_length] at hNB
    simp only [Tr.nodes, List.getElem!_cons_zero, Nat.add_zero] at c0 c1 c2 c3 c4
    simp only [Tr.size] at hk
    have hlt : (k : Int) < (n : Int) := by omega
    have hcut := fun w' => Try.rcut_any r hr.x hr.y hr.w hr.h (by have := hr.xw; have := hr.w; omega) (by have := hr.yh; have := hr.h; omega) (by have := hr.xw; have := hr.x; omega) (by have := hr.yh; have := hr.y; omega) d f hd hf1 (by have := hf.2; split at this <;> simp_all) w'
    obtain ⟨fa, fb⟩ := Tr.fits_cut hf
    obtain ⟨na, nb⟩ := fine_cut hr hf
    have ihA := fun w' (hW : Below w.heap.size w w') => Try.rplaces_ok n c b off hn A (k + 1) ((k : Int) + 1) (cutA r d f) w' (by simp) hgA fa na (by omega) (Nat.lt_of_lt_of_le hb hW.size) (hNA.below hb hW)
    have ihB := fun w' (hW : Below w.heap.size w w') => Try.rplaces_ok n c b off hn B (k + 1 + A.size) ((k : Int) + 1 + (A.size : Int)) (cutB r d f) w' (by simp) hgB fb nb (by omega) (Nat.lt_of_lt_of_le hb hW.size) (hNB.below hb hW)
    have lA : (A.spots (cutA r d f)).length ≤ 63 := by rw [Tr.spots_length]; have := A.panes_length; omega
    have lB : (B.spots (cutB r d f)).length ≤ 63 := by rw [Tr.spots_length]; have := B.panes_length; omega
    have qA : 0 < (A.spots (cutA r d f)).length := by rw [Tr.spots_length]; have := A.panes_length; have := A.size_pos; omega
    have qB : 0 < (B.spots (cutB r d f)).length := by rw [Tr.spots_length]; have := B.panes_length; have := B.size_pos; omega
    have mA : (A.borders (cutA r d f)).length ≤ 63 := by have := A.borders_length (cutA r d f); have := A.panes_length; omega
    have mB : (B.borders (cutB r d f)).length ≤ 63 := by have := B.borders_length (cutB r d f); have := B.panes_length; omega
    have hS : (Tr.node d f A B).spots r = A.spots (cutA r d f) ++ B.spots (cutB r d f) := rfl
    have hR : (Tr.node d f A B).borders r = cutM r d f :: (A.borders (cutA r d f) ++ B.borders (cutB r d f)) := rfl
    rw [hS, hR]
    clear hN hN1 hNA hNB hgA hgB hf fa fb na nb hr hS hR
    generalize cutA r d f = ra at *
    generalize cutM r d f = rm at *
    generalize cutB r d f = rb at *
    obtain ⟨x, y, rw, rh⟩ := r
    obtain ⟨ax, ay, aw, ah⟩ := ra
    obtain ⟨mx, my, mw, mh⟩ := rm
    obtain ⟨bx, by', bw, bh⟩ := rb
    unfold RCutPost at hcut
    simp only at hcut ihA ihB
    rw [List.flatMap_append, List.flatMap_cons, List.flatMap_append, List.length_append, List.length_cons, List.length_append]
    generalize hLA : (A.spots ⟨ax, ay, aw, ah⟩).length = nA at *
    generalize hLB : (B.spots ⟨bx, by', bw, bh⟩).length = nB at *
    generalize hMA : (A.borders ⟨ax, ay, aw, ah⟩).length = kA at *
    generalize hMB : (B.borders ⟨bx, by', bw, bh⟩).length = kB at *
    clear hLA hLB hMA hMB
    have oA := spot_cells (A.spots ⟨ax, ay, aw, ah⟩)
    have oB := spot_cells (B.spots ⟨bx, by', bw, bh⟩)
    have pA := rect_cells (A.borders ⟨ax, ay, aw, ah⟩)
    have pB := rect_cells (B.borders ⟨bx, by', bw, bh⟩)
    generalize (A.spots ⟨ax, ay, aw, ah⟩).flatMap Sp.cells = xA at *
    generalize (B.spots ⟨bx, by', bw, bh⟩).flatMap Sp.cells = xB at *
    generalize (A.borders ⟨ax, ay, aw, ah⟩).flatMap Rc.cells = yA at *
    generalize (B.borders ⟨bx, by', bw, bh⟩).flatMap Rc.cells = yB at *
    have OA := Lib.hid oA; have OB := Lib.hid oB; have PA := Lib.hid pA; have PB := Lib.hid pB
    have HC := Lib.hid hcut; have IA := Lib.hid ihA; have IB := Lib.hid ihB
    clear oA oB pA pB hcut ihA ihB
    have e1 : decide (f < 1) = false := by simp; omega
    go_enter Try.func36, Try.ntmps36
    go_wp2_with fail
    go_at_call 57
    refine (HC.out _).mono ?_
    rintro e w1 ⟨rfl, hb1⟩
    obtain ⟨t1, t2, t3, t4⟩ := two_new w (.cells #[.int .i64 x, .int .i64 y, .int .i64 rw, .int .i64 rh] 37) (.cells #[.int .i64 0, .int .i64 d, .int .i64 f, .int .i64 ((k : Int) + 1), .int .i64 ((k : Int) + 1 + (A.size : Int))] 73)
    have nb1 := (hb1.block (w.heap.size + 1) (by rw [t4]; omega)).trans t1
    have HB1 : Below w.heap.size w w1 := t3.trans (hb1.mono (by rw [t4]; omega))
    have hs1 : w.heap.size + 2 ≤ w1.heap.size := by have := hb1.size; rw [t4] at this; exact this
    have nd3 := cell_block nb1 3
    have nd4 := cell_block nb1 4
    have u1 : w.heap.size + 1 < w1.heap.size := by omega
    have u2 : w.heap.size + 1 < w1.heap.size + 1 := by omega
    have u3 : w.heap.size + 1 < w1.heap.size + 1 + 1 := by omega
    clear t1 t2 t3 t4 hb1
    obtain ⟨n0, n1, n2, n3⟩ := three_new w1 (.cells #[.int .i64 ax, .int .i64 ay, .int .i64 aw, .int .i64 ah] 37) (.cells #[.int .i64 mx, .int .i64 my, .int .i64 mw, .int .i64 mh] 37) (.cells #[.int .i64 bx, .int .i64 by', .int .i64 bw, .int .i64 bh] 37)
    have N0 := Lib.hid n0; have N1 := Lib.hid n1; have N2 := Lib.hid n2; have N3 := Lib.hid n3
    clear n0 n1 n2 n3
    go_wp2_with fail
    have nd4' := (N3.out.cell (p := ⟨w.heap.size + 1, 4, none⟩) u1).trans nd4
    generalize ((w1.alloc (.cells #[.int .i64 ax, .int .i64 ay, .int .i64 aw, .int .i64 ah] 37)).alloc (.cells #[.int .i64 mx, .int .i64 my, .int .i64 mw, .int .i64 mh] 37)).alloc (.cells #[.int .i64 bx, .int .i64 by', .int .i64 bw, .int .i64 bh] 37) = wc at *
    have HBc : Below w.heap.size w wc := HB1.trans (N3.out.mono HB1.size)
    have sc : w1.heap.size + 1 + 1 < wc.heap.size := (Array.getElem?_eq_some_iff.1 N2.out).1
    go_at_call 36
    refine (IA.out _ HBc).mono ?_
    rintro e w2 ⟨va, ua, rfl, hva, hua, hb2⟩
    obtain ⟨gA, cA, rfl, hgA, hgA2⟩ := hva.form qA
    obtain ⟨AU, cU, rfl⟩ := own_val hua
    have HB2 : Below w.heap.size w w2 := HBc.trans (hb2.mono HBc.size)
    have nd5 := (hb2.cell (p := ⟨w.heap.size + 1, 4, none⟩) (by show w.heap.size + 1 < _; omega)).trans nd4'
    have M1 := (hb2.block (w1.heap.size + 1) (by omega)).trans N1.out
    have b2 := (hb2.block (w1.heap.size + 1 + 1) (by omega)).trans N2.out
    have b20 := cell_block b2 0; have b21 := cell_block b2 1; have b22 := cell_block b2 2; have b23 := cell_block b2 3
    have s2 := hb2.size
    have HVA := Lib.hid hva; have HUA := Lib.hid hua; have HM1 := Lib.hid M1
    clear hva hua M1 b2 nd3 nd4 nd4' u1 u2 u3
    go_wp2_with fail
    go_at_call 36
    refine (IB.out _ HB2).mono ?_
    rintro e w3 ⟨vb, ub, rfl, hvb, hub, hb3⟩
    obtain ⟨gB, cB, rfl, hgB, hgB2⟩ := hvb.form qB
    obtain ⟨BU, dU, rfl⟩ := own_val hub
    have HB3 : Below w.heap.size w w3 := HB2.trans (hb3.mono HB2.size)
    have s3 := hb3.size
    have M3 := (hb3.block (w1.heap.size + 1) (by omega)).trans HM1.out
    have m0 := cell_block M3 0; have m1 := cell_block M3 1; have m2 := cell_block M3 2; have m3 := cell_block M3 3
    have ST : St w w3.heap.size (w1.heap.size + 1) (.cells #[.int .i64 mx, .int .i64 my, .int .i64 mw, .int .i64 mh] 37) (.slice (some ⟨gB, 0, none⟩) nB cB) nB xB (.slice AU kA cU) kA yA (.slice BU kB dU) kB yB w3 (.slice (some ⟨gA, 0, none⟩) nA cA) nA xA (.slice none 0 0) 0 [] :=
      ⟨HB3, Nat.le_refl _, HB3.size, own_base (own_below HVA.out hb3) HBc.size, ⟨rfl, .inl ⟨rfl, rfl⟩⟩, own_base hvb HB2.size, own_base (own_below HUA.out hb3) HBc.size, own_base hub HB2.size,
        fun k e => (hvb.lt k e).2, fun k e => Nat.lt_of_lt_of_le (HUA.out.lt k e).2 hb3.size, fun k e => (hub.lt k e).2, fun k e e' => by
          have h1 : gB = k := Option.some.inj e
          have h2 : gA = k := Option.some.inj e'
          omega, M3, by omega, fun e => by
          have h2 : gA = w1.heap.size + 1 := Option.some.inj e
          omega⟩
    have ST := Lib.hid ST
    clear hvb hub HVA HUA HM1 M3 b20 b21 b22 b23 nd5 N0 N1 N2 N3
    go_wp2_with fail
    go_region_held3 (fun w' => w'.cell? ⟨w1.heap.size + 1, 0, none⟩ = some (.int .i64 mx) ∧ w'.cell? ⟨w1.heap.size + 1, 1, none⟩ = some (.int .i64 my) ∧ w'.cell? ⟨w1.heap.size + 1, 2, none⟩ = some (.int .i64 mw) ∧ w'.cell? ⟨w1.heap.size + 1, 3, none⟩ = some (.int .i64 mh)) (first | go_keep | simp [*, World.cell?_alloc_past])
        (first
          | ((have tV := Se
              obtain ⟨v', W', hrun, hS⟩ := Se.out.spots (by omega) OB.out
              refine step_append_run _ (by rfl) (.tmp 69) (.tmp 70) 32 (by rfl) _ _ (by rfl) (by rfl) v' W' hrun ?_
              have SF := Lib.hid hS
              have JSF0 := cell_block SF.out.zz 0
              have JSF1 := cell_block SF.out.zz 1
              have JSF2 := cell_block SF.out.zz 2
              have JSF3 := cell_block SF.out.zz 3
              clear hrun hS))
          | ((have tV := Sd
              obtain ⟨v', W', hrun, hS⟩ := Sd.out.spots (by omega) OB.out
              refine step_append_run _ (by rfl) (.tmp 69) (.tmp 70) 32 (by rfl) _ _ (by rfl) (by rfl) v' W' hrun ?_
              have Sb := Lib.hid hS
              have JSb0 := cell_block Sb.out.zz 0
              have JSb1 := cell_block Sb.out.zz 1
              have JSb2 := cell_block Sb.out.zz 2
              have JSb3 := cell_block Sb.out.zz 3
              clear hrun hS))
          | ((obtain ⟨v', W', hrun, hS⟩ := (ST.out.same ((Below.refl w3.heap.size w3).drew)).spots (by omega) OB.out
              refine step_append_run _ (by rfl) (.tmp 69) (.tmp 70) 32 (by rfl) _ _ (by rfl) (by rfl) v' W' hrun ?_
              have Sa := Lib.hid hS
              have JSa0 := cell_block Sa.out.zz 0
              have JSa1 := cell_block Sa.out.zz 1
              have JSa2 := cell_block Sa.out.zz 2
              have JSa3 := cell_block Sa.out.zz 3
              clear hrun hS))
          | ((obtain ⟨v', W', hrun, hS⟩ := ((ST.out.lit #[.int .i64 mx, .int .i64 my, .int .i64 mw, .int .i64 mh] rfl).same ((Below.refl _ (w3.alloc (.cells #[.int .i64 mx, .int .i64 my, .int .i64 mw, .int .i64 mh] 37))).drew)).spots (by omega) OB.out
              refine step_append_run _ (by rfl) (.tmp 69) (.tmp 70) 32 (by rfl) _ _ (by rfl) (by rfl) v' W' hrun ?_
              have Sc := Lib.hid hS
              have JSc0 := cell_block Sc.out.zz 0
              have JSc1 := cell_block Sc.out.zz 1
              have JSc2 := cell_block Sc.out.zz 2
              have JSc3 := cell_block Sc.out.zz 3
              clear hrun hS))
          | ((have tV := Sb
              obtain ⟨v', W', hrun, hS⟩ := Sb.out.rects Sb.out.hub (by omega) PB.out
              refine step_append_run _ (by rfl) (.tmp 75) (.tmp 76) 33 (by rfl) _ _ (by rfl) (by rfl) v' W' hrun ?_
              have SF := Lib.hid hS
              have JSF0 := cell_block SF.out.zz 0
              have JSF1 := cell_block SF.out.zz 1
              have JSF2 := cell_block SF.out.zz 2
              have JSF3 := cell_block SF.out.zz 3
              clear hrun hS))
          | ((have tV := Sd
              obtain ⟨v', W', hrun, hS⟩ := Sd.out.rects Sd.out.hub (by omega) PB.out
              refine step_append_run _ (by rfl) (.tmp 75) (.tmp 76) 33 (by rfl) _ _ (by rfl) (by rfl) v' W' hrun ?_
              have Se := Lib.hid hS
              have JSe0 := cell_block Se.out.zz 0
              have JSe1 := cell_block Se.out.zz 1
              have JSe2 := cell_block Se.out.zz 2
              have JSe3 := cell_block Se.out.zz 3
              clear hrun hS))
          | ((have tV := Sc
              obtain ⟨v', W', hrun, hS⟩ := Sc.out.rects Sc.out.hua (by omega) PA.out
              refine step_append_run _ (by rfl) (.tmp 73) (.tmp 74) 33 (by rfl) _ _ (by rfl) (by rfl) v' W' hrun ?_
              have Sb := Lib.hid hS
              have JSb0 := cell_block Sb.out.zz 0
              have JSb1 := cell_block Sb.out.zz 1
              have JSb2 := cell_block Sb.out.zz 2
              have JSb3 := cell_block Sb.out.zz 3
              clear hrun hS))
          | ((have tV := Sa
              obtain ⟨v', W', hrun, hS⟩ := (Sa.out.lit #[.int .i64 mx, .int .i64 my, .int .i64 mw, .int .i64 mh] rfl).rects (Sa.out.lit #[.int .i64 mx, .int .i64 my, .int .i64 mw, .int .i64 mh] rfl).hua (by omega) PA.out
              refine step_append_run _ (by rfl) (.tmp 73) (.tmp 74) 33 (by rfl) _ _ (by rfl) (by rfl) v' W' hrun ?_
              have Sb := Lib.hid hS
              have JSb0 := cell_block Sb.out.zz 0
              have JSb1 := cell_block Sb.out.zz 1
              have JSb2 := cell_block Sb.out.zz 2
              have JSb3 := cell_block Sb.out.zz 3
              clear hrun hS))
          | ((obtain ⟨v', W', hrun, hS⟩ := ((ST.out.lit #[.int .i64 mx, .int .i64 my, .int .i64 mw, .int .i64 mh] rfl).same ((Below.refl _ (w3.alloc (.cells #[.int .i64 mx, .int .i64 my, .int .i64 mw, .int .i64 mh] 37))).drew)).rects ((ST.out.lit #[.int .i64 mx, .int .i64 my, .int .i64 mw, .int .i64 mh] rfl).same ((Below.refl _ (w3.alloc (.cells #[.int .i64 mx, .int .i64 my, .int .i64 mw, .int .i64 mh] 37))).drew)).hua (by omega) PA.out
              refine step_append_run _ (by rfl) (.tmp 73) (.tmp 74) 33 (by rfl) _ _ (by rfl) (by rfl) v' W' hrun ?_
              have Sd := Lib.hid hS
              have JSd0 := cell_block Sd.out.zz 0
              have JSd1 := cell_block Sd.out.zz 1
              have JSd2 := cell_block Sd.out.zz 2
              have JSd3 := cell_block Sd.out.zz 3
              clear hrun hS)))
    all_goals
      go_wp2
      go_ret3
      refine ⟨_, _, rfl, SF.out.hV, ?_, SF.out.below⟩
      have := own_base SF.out.hM HB3.size
      simpa [Rc.cells, Nat.add_assoc, Nat.add_comm, Nat.add_left_comm] using this
end Go.Proofs
namespace Go.Proofs
open Go.RowKit Go.Lib Go.Sort Tp
attribute [local go_sem ↓] Go.wp_at_zero Go.wp_at_succ

/-- A window's rectangle. -/
def whole (x y : Int) : Rc := ⟨0, 0, x, y⟩
def PlacesPost (T : Tr) (x y : Int) (w : World) (e : Ending) (w' : World) : Prop :=
  ∃ v u, e = .returned (.tuple #[v, u, .bool true]) ∧ SpotsAt w' v (T.spots (whole x y)) ∧ RectsAt w' u (T.borders (whole x y)) ∧ Below w.heap.size w w'
theorem places_of {T : Tr} {x y : Int} {w0 w : World} {e : Ending} {w' : World} (h : PPost (T.spots (whole x y)).length ((T.spots (whole x y)).flatMap Sp.cells) (T.borders (whole x y)).length ((T.borders (whole x y)).flatMap Rc.cells) w e w') (hB : Below w0.heap.size w0 w) : PlacesPost T x y w0 e w' := by
  obtain ⟨v, u, rfl, h1, h2, h3⟩ := h
  exact ⟨v, u, rfl, Rd.own h1, Rd.own h2, hB.trans (h3.mono hB.size)⟩
theorem PPost.form {n m : Nat} {xs ys : List Value} {w w' : World} {e : Ending} (h : PPost n xs m ys w e w') (hn : 0 < n) : ∃ g c A k, e = .returned (.tuple #[.slice (some ⟨g, 0, none⟩) n c, .slice A m k, .bool true]) := by
  obtain ⟨v, u, rfl, h1, h2, _⟩ := h
  obtain ⟨g, c, rfl, _⟩ := h1.form hn
  obtain ⟨A, k, rfl⟩ := own_val h2
  exact ⟨_, _, _, _, rfl⟩

set_option maxRecDepth 100000 in
set_option maxHeartbeats 1000000 in
theorem Try.rplaces2_ok (T : Tr) (hT : Whole T) (v : Value) (x y : Int) (w : World) (hf : T.fits x y) (h3 : x ≤ 1000) (h4 : y ≤ 1000) (hv : NodesAt w v (T.nodes 0)) :
    Calls Try.prog 11 #[.agg #[v], .int .i64 x, .int .i64 y] w (PlacesPost T x y w) := by
  have hp := Tr.fits_pos hf
  have hOk := Lib.hid (fun w' (hW : Below w.heap.size w w') => Try.rok2_ok T hT v w' (hv.below hW))
  have hNo := Lib.hid (fun w' => Try.rnone_ok 0 0 x y (by omega) (by omega) (by omega) (by omega) (by omega) (by omega) h3 h4 w')
  have h0 : 0 < (T.spots (whole x y)).length := by rw [Tr.spots_length]; have := T.panes_length; have := T.size_pos; omega
  obtain ⟨b, off, c, rfl, hb, hN⟩ := hv
  rw [Tr.nodes_length] at *
  have hPl := Lib.hid (fun w' (hW : Below w.heap.size w w') => Try.rplaces_ok T.size c b off hT.size T 0 0 (whole x y) w' rfl hT.good hf ⟨Int.le_refl _, Int.le_refl _, by show 0 ≤ x; omega, by show 0 ≤ y; omega, by show 0 + x ≤ 1000; omega, by show 0 + y ≤ 1000; omega⟩ (by omega) (Nat.lt_of_lt_of_le hb hW.size) (hN.below hb hW))
  clear hN hT hf
  go_enter Try.func11, Try.ntmps11
  go_wp2_with fail
  go_at_call 34
  refine (hOk.out _ (((Below.refl _ w).alloc (Nat.le_refl _) _).alloc (by simp) _)).mono ?_
  rintro e w1 ⟨rfl, hb1⟩
  obtain ⟨t1, t2, t3, t4⟩ := two_new w (.cells #[.slice (some ⟨b, off, none⟩) T.size c] 26) (.cells #[.int .i64 0, .int .i64 0, .int .i64 x, .int .i64 y] 37)
  have f1 := (hb1.block (w.heap.size + 1) (by rw [t4]; omega)).trans t1
  have f0 := (hb1.block w.heap.size (by rw [t4]; omega)).trans t2
  have HB1 : Below w.heap.size w w1 := t3.trans (hb1.mono (by rw [t4]; omega))
  have hs1 : w.heap.size + 2 ≤ w1.heap.size := by have := hb1.size; rw [t4] at this; exact this
  have c0 := cell_block f0 0
  have d0 := cell_block f1 0; have d1 := cell_block f1 1; have d2 := cell_block f1 2; have d3 := cell_block f1 3
  have q0 : w.heap.size < w1.heap.size := by omega
  have q1 : w.heap.size + 1 < w1.heap.size := by omega
  clear t1 t2 t3 t4 hb1 f0 f1
  go_wp2_with fail
  go_at_call 35
  refine (hNo.out _).mono ?_
  rintro e w2 ⟨rfl, rfl⟩
  go_wp2_with fail
  go_at_call 36
  refine (hPl.out _ (HB1.alloc HB1.size _)).mono ?_
  intro e w3 hpp
  obtain ⟨g, cc, A, kk, rfl⟩ := hpp.form h0
  have HP := Lib.hid (places_of hpp (HB1.alloc HB1.size _))
  clear hpp
  go_wp2
  go_ret3
  exact HP.out

set_option maxRecDepth 100000 in
set_option maxHeartbeats 1000000 in
theorem Try.tplaces_ok (T : Tr) (hT : Whole T) (v : Value) (x y : Int) (w : World) (hf : T.fits x y) (h3 : x ≤ 1000) (h4 : y ≤ 1000) (hv : NodesAt w v (T.nodes 0)) :
    Calls Try.prog 14 #[.agg #[v], .int .i64 x, .int .i64 y] w (PlacesPost T x y w) := by
  have hp := Tr.fits_pos hf
  have hP := Lib.hid (fun w' (hW : Below w.heap.size w w') => Try.parse_ok T hT v w' (hv.below hW))
  have hOk := Lib.hid (fun w' => Try.rok_ok 0 0 x y (by omega) (by omega) (by omega) (by omega) (by omega) (by omega) h3 h4 w')
  have h0 : 0 < (T.spots (whole x y)).length := by rw [Tr.spots_length]; have := T.panes_length; have := T.size_pos; omega
  have hPl := Lib.hid (fun w' k S h => Try.places_ok T k S (whole x y) w' hT.size hT.good hf ⟨Int.le_refl _, Int.le_refl _, by show 0 ≤ x; omega, by show 0 ≤ y; omega, by show 0 + x ≤ 1000; omega, by show 0 + y ≤ 1000; omega⟩ h)
  obtain ⟨b, off, c, rfl, hb⟩ := nodes_slice hv
  clear hv hT hf
  go_enter Try.func14, Try.ntmps14
  go_wp2_with fail
  go_at_call 27
  refine (hP.out _ ((Below.refl _ w).alloc (Nat.le_refl _) _)).mono ?_
  rintro e w1 ⟨k, S, rfl, hpa, _, _, hb1⟩
  have HB1 : Below w.heap.size w w1 := ((Below.refl _ w).alloc (Nat.le_refl _) _).trans (hb1.mono (by simp))
  have hs1 : w.heap.size < w1.heap.size := by have := hb1.size; simp at this; omega
  have hpl := Lib.hid (fun w' (h : Below w1.heap.size w1 w') => hPl.out w' k S (hpa.below h))
  clear hpa hb1
  go_wp2_with fail
  go_at_call 40
  refine (hOk.out _).mono ?_
  rintro e w2 ⟨rfl, rfl⟩
  go_wp2_with fail
  go_at_call 41
  refine (hpl.out _ (((Below.refl _ w1).alloc (Nat.le_refl _) _).alloc (by simp) _)).mono ?_
  intro e w3 hpp
  obtain ⟨g, cc, A, kk, rfl⟩ := hpp.form h0
  have HP := Lib.hid (places_of hpp ((HB1.alloc HB1.size _).alloc (by have := HB1.size; simp; omega) _))
  clear hpp
  go_wp2
  go_ret3
  exact HP.out
end Go.Proofs
