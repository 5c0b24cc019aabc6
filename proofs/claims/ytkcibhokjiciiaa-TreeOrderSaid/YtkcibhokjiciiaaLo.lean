/-
  TreeOrder. TreeOrder: for every input of the types of its arguments the law returns true; the arguments read behind the call as they read before. No condition.
-/
import Derived.Test.YtkcibhokjiciiaaBm
import Derived.Test.YtkcibhokjiciiaaBj
import Derived.Maps.Own
import Derived.Maps.Views
import Derived.Deep.DeepCutAuto
import Derived.Test.YtkcibhokjiciiaaRows
import Derived.Test.YtkcibhokjiciiaaBk
import Derived.Test.YtkcibhokjiciiaaBl
import Derived.WalkKit
import Derived.Below
import Derived.ProofKit
import Derived.OpenShut
namespace Go.Proofs
open Go.RowKit Go.Lib Go.Sort Go.Maps Tp
attribute [local go_sem ↓] Go.wp_at_zero Go.wp_at_succ

theorem Try.keyInt : Keyed Try.prog 3 := int_keyed Try.underlying3
theorem Try.zeroBool (w : World) : (zeroValue 4).run Try.prog w = .ok (.bool false) w := by kernel_rfl
/-- A set of numbers that the call keeps: what was not put in is not there. -/
def Try.SetAt (b n : Nat) (left : Int → Prop) (w : World) : Prop := ∃ D : DataW Unit, w.ownsMap Try.prog 3 (plainElem Try.prog 4) b n D ∧ ∀ x, left x → D.atKey (.int .i64 x) (.lit (.bool false)) = .lit (.bool false)
theorem bool_of {P : Program} {e : TypeId} (he : P.underlying e = some .bool) {v : Value} {x : Bool} {ps : List MemPlace} (h : plainElem (H := Unit) P e v = some (.lit (.bool x), ps)) : v = .bool x := by
  unfold plainElem at h
  rw [he] at h
  cases v with
  | bool y => simp at h; rw [h.1]
  | _ => simp at h
/-- A store into a map whose run is known. -/
theorem wpList_mapUpdate_run {P : Program} (w : World) {ops : Array Oper} {rest : List Oper} {o : Oper} {a : Act} {Q : Exit → Act → World → Prop} (hg : o.guard = none) (m x v : Operand) (t : TypeId) (hop : o.op = Op.mapUpdate t m x v)
    (vm vx vv : Value) (hm : a.eval m = vm) (hx : a.eval x = vx) (hv : a.eval v = vv) (w' : World) (hrun : (Instr.mapUpdate t vm vx vv).run P w = .ok () w') (h : wpList P ops Q rest (a.put o.dst undef) w') : wpList P ops Q (o :: rest) a w := by
  refine wpList_plain hg fun K' hK' => ?_
  unfold Oper.wp
  simp [execOp, hop, hm, hx, hv, hrun, Result.andThen]
  exact hK' _ _ h
theorem drop_next {l : List Int} (hn : l.Nodup) (i : Nat) (hi : i < l.length) : l[i] ∈ l.drop i ∧ ∀ y, y ∈ l.drop (i + 1) → y ∈ l.drop i ∧ y ≠ l[i] := by
  have e : l.drop i = l[i] :: l.drop (i + 1) := List.drop_eq_getElem_cons hi
  have h2 : (l.drop i).Nodup := hn.sublist (List.drop_sublist _ _)
  rw [e, List.nodup_cons] at h2
  refine ⟨by rw [e]; exact List.mem_cons_self, fun y hy => ⟨by rw [e]; exact List.mem_cons_of_mem _ hy, fun h => h2.1 (h ▸ hy)⟩⟩
/-- What a split answers, and where. -/
def OrdU (T : Tr) (p fresh d n : Int) (w : World) (e : Ending) (w' : World) : Prop := ∃ (o : Option Addr) (l c : Nat) (okb : Bool), e = .returned (.tuple #[.agg #[.slice o l c], .bool okb]) ∧ Below w.heap.size w w' ∧
  Aside (okb = false ∨ (okb = true ∧ ∃ f b' o', 1 ≤ f ∧ f ≤ n - 2 ∧ o = some ⟨b', o', none⟩ ∧ l = (T.put p fresh d f).size ∧ (w.heap.size ≤ b' ∧ b' < w'.heap.size) ∧ NodesAt w' (.slice o l c) ((T.put p fresh d f).nodes 0)))
theorem ordU {T : Tr} {p fresh d n : Int} {w : World} {e : Ending} {w' : World} (h : SplitPost T p fresh d n w e w') : OrdU T p fresh d n w e w' := by
  rcases h with ⟨hn, rfl, hb⟩ | ⟨hn, f, h1, h2, b', o', c', rfl, hl, hN, hb⟩
  · exact ⟨none, 0, 0, false, rfl, hb, .inl rfl⟩
  · have hlt : b' < w'.heap.size := by obtain ⟨_, _, _, e, h, _⟩ := hN; injection e with e1 e2 e3; injection e1 with e1; injection e1 with e1; rw [e1]; exact h
    exact ⟨some ⟨b', o', none⟩, _, c', true, rfl, hb, .inr ⟨rfl, f, b', o', h1, h2, rfl, rfl, ⟨hl, hlt⟩, hN⟩⟩
/-- Panes, with what is behind them. -/
def CapPost (l : List Int) (w : World) (e : Ending) (w' : World) : Prop := ∃ b o c, e = .returned (.slice (some ⟨b, o, none⟩) l.length c) ∧ (l.length ≤ c ∧ c ≤ maxLen) ∧ IntsAt w' (.slice (some ⟨b, o, none⟩) l.length c) l ∧ Below w.heap.size w w'
set_option maxRecDepth 100000 in
theorem Try.tpanes_cap (T : Tr) (hT : Whole T) (v : Value) (w : World) (hv : NodesAt w v (T.nodes 0)) :
    Calls Try.prog 9 #[.agg #[v]] w (CapPost T.panes w) := by
  have hP := Lib.hid (fun w' (hW : Below w.heap.size w w') => Try.parse_ok T hT v w' (hv.below hW))
  have hn : T.panes.length ≤ 1000 := by have := hT.size; have := T.panes_length; omega
  have hn1 : T.panes.length ≠ 0 := by have := T.size_pos; have := T.panes_length; omega
  have hn1 := Lib.hid hn1
  obtain ⟨b, off, c, rfl, hb, hN⟩ := hv
  clear hN hT
  go_enter Try.func9, Try.ntmps9
  go_wp2_with (first
    | (go_at_call 27; refine (hP.out _ ((Below.refl _ _).alloc (Nat.le_refl _) _)).mono ?_; rintro e w1 ⟨k, S, rfl, hpa, _, _, hb1⟩; have HB1 := ((Below.refl _ w).alloc (Nat.le_refl _) _).trans (hb1.mono (by simp)); have hpan := Lib.hid (Try.panes_ok T k S w1 hn hpa); clear hpa)
    | (go_at_call 28; refine (hpan.out).mono ?_; rintro e w2 ⟨v2, rfl, ho, hb2⟩; have ho := Lib.hid ho))
  go_ret
  have hi := Rd.own ho.out
  rcases ho.out.2 with ⟨_, h0⟩ | ⟨g, cap, cur, rfl, _, _, h1, h2, _, _⟩
  · exact absurd h0 hn1.out
  · exact ⟨g, 0, cap, rfl, ⟨h1, h2⟩, by simpa [IntsAt] using hi, HB1.trans (hb2.mono HB1.size)⟩
theorem rd_take {w : World} {b o n c k : Nat} {l : List Int} (h : Rd w 1 (.slice (some ⟨b, o, none⟩) n c) n (l.map (Value.int .i64))) (hk : k ≤ n) (c' : Nat) : Rd w 1 (.slice (some ⟨b, o, none⟩) k c') k ((l.take k).map (Value.int .i64)) := by
  have hl : l.length = n := by simpa using h.1
  rcases h.2 with ⟨e, _⟩ | ⟨b', o', c2, e, hb, hc⟩
  · cases e
  · injection e with e1 _ _; injection e1 with e1; injection e1 with e1 e2
    subst e1 e2
    refine ⟨by simp; omega, .inr ⟨b, o, c', rfl, hb, fun j u hu => hc j u ?_⟩⟩
    rw [List.map_take] at hu
    rw [List.getElem?_take] at hu
    split at hu
    · exact hu
    · cases hu
theorem rd_drop {w : World} {b o n c k : Nat} {l : List Int} (h : Rd w 1 (.slice (some ⟨b, o, none⟩) n c) n (l.map (Value.int .i64))) (hk : k ≤ n) (o' c' : Nat) (ho : k < n → o' = o + k) : Rd w 1 (.slice (some ⟨b, o', none⟩) (n - k) c') (n - k) ((l.drop k).map (Value.int .i64)) := by
  have hl : l.length = n := by simpa using h.1
  rcases h.2 with ⟨e, _⟩ | ⟨b', o2, c2, e, hb, hc⟩
  · cases e
  · injection e with e1 _ _; injection e1 with e1; injection e1 with e1 e2
    subst e1 e2
    refine ⟨by simp; omega, .inr ⟨b, o', c', rfl, hb, fun j u hu => ?_⟩⟩
    have hj : j < (l.drop k).length := by
      rcases Nat.lt_or_ge j (l.drop k).length with h | h
      · exact h
      · rw [List.getElem?_eq_none (by simpa using h)] at hu; cases hu
    have hkn : k < n := by simp at hj; omega
    rw [ho hkn, Nat.add_assoc]
    rw [List.map_drop, List.getElem?_drop] at hu
    exact hc _ _ hu
theorem int_cells (l : List Int) : ∀ u ∈ l.map (Value.int .i64), u.oneCell' = true := fun u hu => by
  obtain ⟨x, _, rfl⟩ := List.mem_map.1 hu; rfl
/-- A row of numbers of the call's own, appended to. -/
theorem Try.app_ints {w0 W : World} {V : Value} {nV : Nat} {xV : List Value} (hb : Below w0.heap.size w0 W) (hV : W.ownsRow w0.heap.size 3 1 V nV xV) {x : Value} {m : Nat} {news : List Int} (hx : Rd W 1 x m (news.map (Value.int .i64))) (hn : nV + m ≤ 1000) :
    ∃ v' W', (Builtin.append_ #[22, 22] 22 #[V, x]).run Try.prog W = .ok v' W' ∧ Below w0.heap.size w0 W' ∧ W'.ownsRow w0.heap.size 3 1 v' (nV + m) (xV ++ news.map (Value.int .i64)) ∧ W.grownBy W' V.ownBlock := by
  obtain ⟨i0, hi0, hz0, hz1, hz2⟩ := info_parts Try.infoInt
  obtain ⟨v', W', hrun, hown, hgrow, _⟩ := app_run (P := Try.prog) W w0.heap.size 22 22 3 i0 _ 1 8 Try.underlying22 hi0 hz0 hz1 hz2 rfl (by decide) V nV xV hV x m _ hx (int_cells news) (by simp only [maxLen]; omega) (by omega) hb.size
  exact ⟨v', W', hrun, hb.grown hgrow hb.size (fun k e => (hV.lt k e).1), hown, hgrow⟩
theorem flat_none {p fresh : Int} : ∀ {l : List Int}, p ∉ l → (l.flatMap fun q => if q = p then [q, fresh] else [q]) = l
  | [], _ => rfl
  | b :: m, h => by
    simp only [List.mem_cons, not_or] at h
    rw [List.flatMap_cons, if_neg (fun e => h.1 e.symm), flat_none h.2]; rfl
theorem flat_at {p fresh : Int} : ∀ {l : List Int} {k : Nat}, l.Nodup → l[k]? = some p → (l.flatMap fun q => if q = p then [q, fresh] else [q]) = l.take (k + 1) ++ [fresh] ++ l.drop (k + 1)
  | [], k, _, h => by simp at h
  | a :: m, 0, hn, h => by
    rw [List.nodup_cons] at hn
    simp only [List.getElem?_cons_zero, Option.some.injEq] at h
    subst h
    rw [List.flatMap_cons, flat_none hn.1, if_pos rfl]; rfl
  | a :: m, k + 1, hn, h => by
    rw [List.nodup_cons] at hn
    simp only [List.getElem?_cons_succ] at h
    have hmem : p ∈ m := List.mem_of_getElem? h
    rw [List.flatMap_cons, if_neg (fun e : a = p => hn.1 (by rw [e]; exact hmem)), flat_at hn.2 h]; rfl
theorem put_at {T : Tr} {p fresh d f : Int} {k : Nat} (hn : T.panes.Nodup) (hk : T.panes[k]? = some p) : (T.put p fresh d f).panes = T.panes.take (k + 1) ++ [fresh] ++ T.panes.drop (k + 1) := by
  rw [Tr.put_panes]; exact flat_at hn hk
/-- At a step of a region that draws its order: an append; what it comes to is told by R. -/
theorem step_append_all {P : Program} (R : World → Value → World → Prop) (w : World) {ops : Array Oper} {o : Oper} {a : Act} {K : Act → World → Prop} {Q : Exit → Act → World → Prop} {E : Prop} (hgd : o.guard = none) (s x : Operand) (t : TypeId)
    (ho : o.op = .call { callee := .builtin .append, args := #[s, x], argTypes := #[t, t] }) (vs vx : Value) (hs : a.eval s = vs) (hx : a.eval x = vx) (hr : ∃ v' w', (Builtin.append_ #[t, t] o.type #[vs, vx]).run P w = .ok v' w' ∧ R w v' w') (h : ∀ v' w', R w v' w' → K (a.put o.dst v') w') :
    if Region.wanted o (yielded ops a.tmps) = true then Oper.wp P o a w K Q else E := by
  obtain ⟨v', w', hr, hR⟩ := hr
  exact step_append_run w hgd s x t ho vs vx hs hx v' w' hr (h v' w' hR)
/-- A row of the call's own in a world that is far. -/
def Rw2 (w0 : World) (n : Nat) (xs : List Value) (v : Value) (w : World) : Prop := Below w0.heap.size w0 w ∧ w.ownsRow w0.heap.size 3 1 v n xs
theorem Try.app_row {w0 W : World} {V : Value} {nV : Nat} {xV : List Value} (hb : Below w0.heap.size w0 W) (hV : W.ownsRow w0.heap.size 3 1 V nV xV) {x : Value} {m : Nat} {news : List Int} (hx : Rd W 1 x m (news.map (Value.int .i64))) (hn : nV + m ≤ 1000) (k : Nat) (hk : nV + m = k) :
    ∃ v' W', (Builtin.append_ #[22, 22] 22 #[V, x]).run Try.prog W = .ok v' W' ∧ Rw2 w0 k (xV ++ news.map (Value.int .i64)) v' W' := by
  subst hk
  obtain ⟨v', W', h1, h2, h3, _⟩ := Try.app_ints hb hV hx hn
  exact ⟨v', W', h1, h2, h3⟩
/-- The same, and literals of one number stay. -/
def Rw3 (w0 : World) (n : Nat) (xs : List Value) (u : Int) (W : World) (v : Value) (w : World) : Prop := Rw2 w0 n xs v w ∧ ∀ g : Nat, W.heap[g]? = some (Obj.cells #[.int .i64 u] 3) → w.heap[g]? = some (Obj.cells #[.int .i64 u] 3)
theorem Try.app_first {w0 W : World} {g : Nat} (hb : Below w0.heap.size w0 W) (hg : w0.heap.size ≤ g) (hE : W.heap[g]? = some (.cells #[] 3)) {x : Value} {m : Nat} {news : List Int} (hx : Rd W 1 x m (news.map (Value.int .i64))) (hn : m ≤ 1000) (u : Int) :
    ∃ v' W', (Builtin.append_ #[22, 22] 22 #[.slice (some ⟨g, 0, none⟩) 0 0, x]).run Try.prog W = .ok v' W' ∧ Rw3 w0 m (news.map (Value.int .i64)) u W v' W' := by
  have hV : W.ownsRow w0.heap.size 3 1 (.slice (some ⟨g, 0, none⟩) 0 0) 0 [] := ⟨rfl, .inr ⟨g, 0, #[], rfl, hg, hE, Nat.le_refl _, by simp [maxLen], rfl, rfl⟩⟩
  obtain ⟨v', W', h1, h2, h3, h4⟩ := Try.app_ints hb hV hx (by omega)
  rw [Nat.zero_add] at h3
  refine ⟨v', W', h1, ⟨h2, by simpa using h3⟩, fun g2 e => ?_⟩
  have hlt : g2 < W.heap.size := (Array.getElem?_eq_some_iff.1 e).1
  have hne : some g2 ≠ (Value.slice (some ⟨g, 0, none⟩) 0 0).ownBlock := fun e2 => by
    simp only [Value.ownBlock, Option.some.injEq] at e2
    subst e2
    rw [hE] at e; injection e with e; injection e with e; cases e
  exact (h4.block g2 hlt hne).trans e
theorem Rw2.form {w0 : World} {n : Nat} {xs : List Value} {v : Value} {w : World} (h : Rw2 w0 n xs v w) (h0 : 0 < n) : ∃ g cc, v = .slice (some ⟨g, 0, none⟩) n cc := by
  rcases h.2.2 with ⟨_, e⟩ | ⟨g, cap, _, e, _⟩
  · omega
  · exact ⟨g, cap, e⟩
theorem small_wf {x : Int} (h : 1 ≤ x ∧ x ≤ 1000000) : (Lit.int .i64 x).wf = true := WalkArith.wf_i64 (by omega)
theorem Try.set_look {b n : Nat} {left : Int → Prop} {w : World} (h : Try.SetAt b n left w) {x : Int} (hx : 1 ≤ x ∧ x ≤ 1000000) (hl : left x) : (Instr.lookup 49 (.map (some b)) (.int .i64 x) false).run Try.prog w = .ok (.bool false) w := by
  obtain ⟨D, hD, hat⟩ := h
  obtain ⟨v, ps, hrun, hv⟩ := hD.lookup Try.keyInt Try.underlying49 (Try.zeroBool w) (plainElem_bool Try.underlying4 false) (keyOf_int_mk Try.underlying3 (small_wf hx))
  rw [hat x hl] at hv
  have : v = .bool false := by
    exact bool_of Try.underlying4 hv
  rw [← this]; exact hrun
theorem Try.set_put {b n : Nat} {left left' : Int → Prop} {w : World} (h : Try.SetAt b n left w) (hn : n < 1000) {x : Int} (hx : 1 ≤ x ∧ x ≤ 1000000) (hl : ∀ y, left' y → left y ∧ y ≠ x) :
    ∃ w', (Instr.mapUpdate 49 (.map (some b)) (.int .i64 x) (.bool true)).run Try.prog w = .ok () w' ∧ Try.SetAt b (n + 1) left' w' ∧ w.grownBy w' (some b) := by
  obtain ⟨D, hD, hat⟩ := h
  obtain ⟨w', hrun, hown, hg⟩ := hD.update Try.keyInt Try.underlying49 (by unfold maxLen; omega) (keyOf_int_mk Try.underlying3 (small_wf hx)) (plainElem_bool Try.underlying4 true)
  refine ⟨w', hrun, ⟨_, hown, fun y hy => ?_⟩, hg⟩
  rw [atKey_put_other (fun e => (hl y hy).2 (by injection e))]
  exact hat y (hl y hy).1

set_option maxRecDepth 100000 in
set_option maxHeartbeats 4000000 in
theorem Try.order_ok (hA : Try.Awake) (xs : List Int) (v : Value) (a1 a2 : Int) (w : World) (hx : xs.length ≤ maxLen) (hv : IntsIn w v xs) :
    Calls Try.prog 5 #[v, .int .i64 a1, .int .i64 a2] w fun e w' => e = .returned (.bool true) ∧ Below w.heap.size w w' := by
  have hTree := Lib.hid (fun w' h => Try.tree_ok xs v w' hx h)
  have hA := Lib.hid hA
  have HV := Lib.hid hv
  obtain ⟨LA, lc, rfl, _⟩ := hv
  have h255 := i64_and255
  have h1 := i64_and1
  have hmm := @run_makeMap Try.prog
  go_enter Try.func5, Try.ntmps5
  go_wp2_with fail
  go_at_call 8
  refine (hTree.out _ HV.out).mono ?_
  rintro e w1 ⟨T, b, off, c, GR, rfl, hN, hb1⟩
  have GR := Lib.hid GR
  have N1 := Lib.hid hN
  have WT := Lib.hid GR.out.whole
  have BW1 := Lib.hid hb1
  clear hN hb1
  -- panes
  go_wp2_with fail
  go_at_call 9
  refine (Try.tpanes_cap T WT.out _ _ (N1.out.below (by (repeat (first | with_reducible assumption | with_reducible exact Below.refl _ _ | with_reducible refine Below.drew ?_ | with_reducible refine below_drewN ?_ _ | (with_reducible refine Below.setCell ?_ ?_ _; rotate_left; (first | omega | (simp <;> omega))) | (with_reducible refine Below.alloc ?_ ?_ _; rotate_left; (first | omega | (simp <;> omega)))))))).mono ?_
  rintro e w2 ⟨pb, po, pc, rfl, hcap, hvp, hb2⟩
  obtain ⟨B12, F7, s12⟩ := step_alloc hb2
  have N7 := Lib.hid (N1.out.below B12)
  have G7 := Lib.hid F7
  have BW2 := Lib.hid (BW1.out.trans (B12.mono BW1.out.size))
  obtain ⟨_, _, _, _, m5, m6, m7, m8⟩ := GR.out.bounds
  obtain ⟨_, _, _, e0, hpb, hpc⟩ := hvp.at m5
  injection e0 with e1 _ e3; injection e1 with e1; injection e1 with e1 e2
  subst e1 e2 e3
  have HCAP := Lib.hid hcap
  have HPI := Lib.hid hvp
  have HPC := Lib.hid hpc
  have c7 := cell_block G7.out 0
  clear hb2 N1 BW1 F7 B12 hvp hpc hcap
  -- places
  go_wp2_with fail
  go_at_call 14
  refine (Try.tplaces_ok T WT.out _ 30 20 _ GR.out.fits (by omega) (by omega) N7.out).mono ?_
  rintro e w3 ⟨vq, um, rfl, hvq, hum, B23⟩
  have s23 := B23.size
  have l0 : 0 < (T.spots (whole 30 20)).length := by rw [Tr.spots_length]; omega
  obtain ⟨qb, qo, qc, rfl, hqb, hqc⟩ := hvq.at l0
  obtain ⟨U1, uc1, rfl, _⟩ := Rd.val hum
  have HQ := Lib.hid hqc
  have N7 := Lib.hid (N7.out.below B23)
  have G7 := Lib.hid ((B23.block _ s12).trans G7.out)
  have BW3 := Lib.hid (BW2.out.trans (B23.mono BW2.out.size))
  have HPI := Lib.hid (Rd.below HPI.out B23 (Nat.le_refl _))
  have HPC := Lib.hid (fun j (hj : j < T.panes.length) => (B23.cell (p := ⟨pb, po + j, none⟩) hpb).trans (HPC.out j hj))
  have hpb : pb < w3.heap.size := by omega
  have PQ := Lib.hid (fun j hj => Tr.spots_pane T (whole 30 20) j hj)
  obtain ⟨n, hn⟩ : ∃ n, n = (T.borders (whole 30 20)).length := ⟨_, rfl⟩
  have hl1 : (T.spots (whole 30 20)).length = n + 1 := by rw [hn, Tr.borders_length, Tr.spots_length]
  have hl2 : T.panes.length = n + 1 := by rw [hn, Tr.borders_length]
  have L1 := Lib.hid hl1
  have L2 := Lib.hid hl2
  rw [hl1, hl2, ← hn]
  have hn62 : n ≤ 62 := by omega
  clear hl1 hl2 hn c7 l0 m5 m6 hvq hum hqc B23 BW2
  go_wp2_with fail
  have hs3 : w1.heap.size < w3.heap.size := by omega
  have S0 := Lib.hid (show Try.SetAt w3.heap.size 0 (fun x => x ∈ T.panes.drop 0) (w3.alloc (.map #[] 0)) from ⟨.map [], World.ownsMap_made _ _ _ _, fun x _ => rfl⟩)
  go_loopg [13, 53] (n + 1) (fun gg s13 s53 wr => ∃ i : Nat, i ≤ n + 1 ∧ n + 1 - i ≤ gg ∧ s53 = .int .i64 i ∧ Aside (Try.SetAt w3.heap.size i (fun x => x ∈ T.panes.drop i) wr) ∧ Aside (Below w3.heap.size w3 wr))
  case atStart => exact ⟨0, Nat.zero_le _, by omega, rfl, S0.out, (Below.refl _ w3).alloc (Nat.le_refl _) _⟩
  case round =>
    obtain ⟨i, hi, hg, rfl, SA, BW⟩ := hrel
    have BWo := Lib.hid BW.out
    have SAo := Lib.hid SA.out
    by_cases hlt : i < n + 1
    · have hltz : (i : Int) < ((n + 1 : Nat) : Int) := by omega
      have hltz2 : (i : Int) < (n : Int) + 1 := by omega
      have i0 : (0 : Int) ≤ (i : Int) := by omega
      have hR : i < T.panes.length := by have := L2.out; omega
      have hR2 : i < (T.spots (whole 30 20)).length := by have := L1.out; omega
      have c1 := (BW.out.cell (p := ⟨pb, po + i, none⟩) hpb).trans (HPC.out i hR)
      have c2 := (BW.out.cell (p := ⟨qb, qo + i * 5, none⟩) hqb).trans (HQ.out i hR2).1
      rw [PQ.out i hR2] at c2
      have hgd := GR.out.panes _ (List.getElem_mem hR)
      obtain ⟨d1, d2⟩ := drop_next WT.out.nodup i hR
      have LK := fun k => Try.set_look (w := wr.drewN k) SAo.out (x := T.panes[i]) (by omega) d1
      have PT := Lib.hid (fun k => Try.set_put (w := wr.drewN k) (left' := fun x => x ∈ T.panes.drop (i + 1)) SAo.out (by omega) (x := T.panes[i]) (by omega) d2)
      clear d1 d2 hgd
      generalize T.panes[i] = x at *
      clear hR hR2
      go_wp2_with fail
      go_quiet (fail)
      obtain ⟨w5, hrun, SA5, hgrow⟩ := PT.out nq
      have BG : Below w3.heap.size w3 w5 := (below_drewN BWo.out nq).grown hgrow BWo.out.size (fun k e => by injection e with e; omega)
      have SA5 := Lib.hid SA5
      have BG := Lib.hid BG
      clear LK PT hgrow
      go_wp2_with ((at_mapUpdate; refine wpList_mapUpdate_run _ rfl _ _ _ _ rfl _ _ _ rfl rfl rfl w5 hrun ?_))
      go_roundg (n + 1 - (i + 1))
      case measure => omega
      case rel => exact ⟨i + 1, by omega, by omega, by go_num, SA5.out, BG.out⟩
    · have hltz : ¬ (i : Int) < ((n + 1 : Nat) : Int) := by omega
      have hltz2 : ¬ (i : Int) < (n : Int) + 1 := by omega
      have m5 : 1 ≤ T.panes.length := by have := L2.out; omega
      obtain ⟨k1, k2, k3, k4⟩ := pick_at T.panes a1 m5
      have hl := L2.out
      obtain ⟨kk, hkk⟩ : ∃ kk : Nat, a1 % 256 % (T.panes.length : Int) = (kk : Int) := Int.eq_ofNat_of_zero_le k1
      rw [hkk] at k2 k3 k4
      rw [hl] at k2 k4
      have kn : kk < n + 1 := by omega
      have k5 : (a1 % 256).tmod ((n : Int) + 1) = (kk : Int) := by rw [← k4]; rfl
      have kz : (kk : Int) < (n : Int) + 1 := by omega
      have kz2 : (kk : Int) < ((n + 1 : Nat) : Int) := by omega
      have hkl : kk < T.panes.length := by omega
      have M1' : T.panes[kk] ∈ T.panes := List.getElem_mem hkl
      have M1 := Lib.hid M1'
      have pk := (BWo.out.cell (p := ⟨pb, po + kk, none⟩) hpb).trans (HPC.out kk hkl)
      obtain ⟨pa, hpa⟩ : ∃ pa, T.panes[kk] = pa := ⟨_, rfl⟩
      rw [hpa] at M1 pk
      have TK := Lib.hid (show T.panes[kk]? = some pa by rw [List.getElem?_eq_getElem hkl, hpa])
      have hfr : (60 : Int) ∉ T.panes := GR.out.apart (by omega)
      have hd : a2 % 2 + 1 = 1 ∨ a2 % 2 + 1 = 2 := by omega
      have G7r := Lib.hid ((BWo.out.block _ hs3).trans G7.out)
      have N7r := Lib.hid (N7.out.below BWo.out)
      have HPr := Lib.hid (Rd.below HPI.out BWo.out (Nat.le_refl _))
      have BWr := Lib.hid (BW3.out.trans (BWo.out.mono BW3.out.size))
      have hSp := Lib.hid (fun w' h => (Try.tsplit_ok T WT.out (.slice (some ⟨b, off, none⟩) T.size c) 30 20 pa 60 (a2 % 2 + 1) 4602678819172646912 w' GR.out.fits (by omega) (by omega) M1.out hfr (by omega) (by have := GR.out.size; omega) hd h).mono fun e w'' h => ordU h)
      have hPW := Lib.hid (fun f (h1 : 1 ≤ f) (h2 : f ≤ lng (T.spots (whole 30 20)) pa (a2 % 2 + 1) - 2) => (put_whole (fresh := 60) WT.out GR.out.fits (by omega) (by omega) M1.out hfr ⟨by omega, by omega⟩ hd h1 h2 (by have := GR.out.size; omega)).1)
      have c7 := cell_block G7r.out 0
      have hpbr : pb < wr.heap.size := Nat.lt_of_lt_of_le hpb BWo.out.size
      have hs3r : w1.heap.size < wr.heap.size := Nat.lt_of_lt_of_le hs3 BWo.out.size
      have K := Lib.hid (fun w' (h : Below wr.heap.size wr w') => (show Below wr.heap.size wr w' ∧ w'.cell? ⟨w1.heap.size, 0, none⟩ = some (.slice (some ⟨b, off, none⟩) T.size c) ∧ w'.cell? ⟨pb, po + kk, none⟩ = some (.int .i64 pa) from
        ⟨h, (h.cell (p := ⟨w1.heap.size, 0, none⟩) hs3r).trans c7, (h.cell (p := ⟨pb, po + kk, none⟩) hpbr).trans pk⟩))
      clear k1 k3 hl hkk M1' hpa hfr c7 pk hkl BW SA
      go_wp2_with fail
      go_cut [15, 16] (fun s15 s16 wx => ∃ (gu : Nat) (okb : Bool), s15 = .pointer (some ⟨gu, 0, none⟩) ∧ s16 = .bool okb ∧ wr.heap.size ≤ gu ∧ Aside (Below wr.heap.size wr wx) ∧
        Aside (okb = false ∨ (okb = true ∧ ∃ f b' o' c', 1 ≤ f ∧ f ≤ lng (T.spots (whole 30 20)) pa (a2 % 2 + 1) - 2 ∧ wx.cell? ⟨gu, 0, none⟩ = some (.slice (some ⟨b', o', none⟩) (T.put pa 60 (a2 % 2 + 1) f).size c') ∧ gu < wx.heap.size ∧ NodesAt wx (.slice (some ⟨b', o', none⟩) (T.put pa 60 (a2 % 2 + 1) f).size c') ((T.put pa 60 (a2 % 2 + 1) f).nodes 0))))
      case first =>
        have hw2 : IntKind.i64.wrap (a2 % 2 + 1) = a2 % 2 + 1 := IntWalk.i64_in _ (by omega)
        clear hPW hA GR WT BWr HPr HPI HPC HQ PQ L1 L2 TK M1 G7r G7 N7 BW3 S0 hTree HV hmm hg
        go_region_held3 (fun w' => Below wr.heap.size wr w' ∧ w'.cell? ⟨w1.heap.size, 0, none⟩ = some (.slice (some ⟨b, off, none⟩) T.size c) ∧ w'.cell? ⟨pb, po + kk, none⟩ = some (.int .i64 pa))
          ((refine K.out _ ?_; (repeat (first | with_reducible assumption | with_reducible exact Below.refl _ _ | with_reducible refine Below.drew ?_ | with_reducible refine below_drewN ?_ _ | (with_reducible refine Below.setCell ?_ ?_ _; rotate_left; (first | omega | (simp <;> omega))) | (with_reducible refine Below.alloc ?_ ?_ _; rotate_left; (first | omega | (simp <;> omega)))))))
          ((go_at_call 10; refine (hSp.out _ (N7r.out.below (by (repeat (first | with_reducible assumption | with_reducible exact Below.refl _ _ | with_reducible refine Below.drew ?_ | with_reducible refine below_drewN ?_ _ | (with_reducible refine Below.setCell ?_ ?_ _; rotate_left; (first | omega | (simp <;> omega))) | (with_reducible refine Below.alloc ?_ ?_ _; rotate_left; (first | omega | (simp <;> omega)))))))).mono ?_; rintro e w6 ⟨o3, l3, c3, okb, rfl, hb6, hU⟩
            obtain ⟨hc6, hz6⟩ := bcell hb6
            have hs6' := hb6.size
            try simp at hs6'
            have hB6 : Below wr.heap.size wr w6 := Below.trans (by (repeat (first | with_reducible assumption | with_reducible exact Below.refl _ _ | with_reducible refine Below.drew ?_ | with_reducible refine below_drewN ?_ _ | (with_reducible refine Below.setCell ?_ ?_ _; rotate_left; (first | omega | (simp <;> omega))) | (with_reducible refine Below.alloc ?_ ?_ _; rotate_left; (first | omega | (simp <;> omega)))))) (hb6.mono (by first | omega | (simp <;> omega)))
            have hs6 := hB6.size
            try (have qr : wr.heap.size < w6.heap.size := by omega)))
        all_goals (go_wp2_with fail)
        all_goals go_meet
        all_goals refine ⟨_, okb, rfl, rfl, (by first | omega | (simp; omega)), (show Below _ _ _ from by (repeat (first | with_reducible assumption | with_reducible exact Below.refl _ _ | with_reducible refine Below.drew ?_ | with_reducible refine below_drewN ?_ _ | (with_reducible refine Below.setCell ?_ ?_ _; rotate_left; (first | omega | (simp <;> omega))) | (with_reducible refine Below.alloc ?_ ?_ _; rotate_left; (first | omega | (simp <;> omega)))))), ?_⟩
        all_goals (rcases hU.out with rfl | ⟨rfl, f, b', o', f1, f2, rfl, rfl, hb', hN⟩; exact .inl rfl; refine .inr ⟨rfl, f, b', o', c3, f1, f2, ?_, ?_, ?_⟩)
        all_goals try (first | exact cell_block (heap_alloc_new w6 _) 0 | exact hN.below ((Below.refl _ w6).alloc (Nat.le_refl _) _) | (show w6.heap.size < (w6.alloc _).heap.size; simp))
        all_goals try (refine nodes_set hN (fun b2 o2 c2 e => ?_) _ _; injection e with e1 e2 e3; injection e1 with e1; injection e1 with e1; rw [← e1]; first | omega | (simp; omega) | (have := hb'.1; simp at this; omega))
        all_goals (first
          | exact cell_block (heap_set ((hb6.block wr.heap.size (by simp)).trans (heap_alloc_new wr _)) _) 0
          | exact cell_block (heap_set ((hb6.block wr.heap.size (by simp)).trans (heap_alloc_new wr.drew _)) _) 0
          | (simp [World.setCell]; omega))
      case rest =>
        obtain ⟨gu, okb, rfl, rfl, hgu, BC, hcase⟩ := hcut
        have BCo := Lib.hid BC.out
        have BWx := Lib.hid (BWr.out.trans (BC.out.mono BWr.out.size))
        rcases hcase.out with rfl | ⟨rfl, f, b', o', c', f1, f2, hcl, hgl, hN'⟩
        · go_wp2_with ((go_at_call 12; refine (hA.out _).mono ?_; rintro e w7 ⟨rfl, hb7⟩))
          go_ret
          exact ⟨rfl, BWx.out.trans (hb7.mono BWx.out.size)⟩
        · have NX := Lib.hid hN'
          go_wp2_with fail
          have hcap := HCAP.out
          rw [L2.out] at hcap
          obtain ⟨hcap1, hcap2⟩ := hcap
          unfold maxLen at hcap2
          go_cut [17] (fun s17 wx => ∃ g cc, s17 = .slice (some ⟨g, 0, none⟩) (n + 2) cc ∧ Aside (Below wc.heap.size wc wx) ∧ Aside (IntsAt wx (.slice (some ⟨g, 0, none⟩) (n + 2) cc) (T.panes.take (kk + 1) ++ [60] ++ T.panes.drop (kk + 1))))
          case first =>
            have hw1 : IntKind.i64.wrap ((kk : Int) + 1) = (kk : Int) + 1 := IntWalk.i64_in _ (by omega)
            have hk1 : (0 : Int) ≤ (kk : Int) + 1 := by omega
            have hk2 : ((kk : Int) + 1).toNat = kk + 1 := by omega
            have hk3 : (kk : Int) + 1 ≤ (pc : Int) := by omega
            have hk4 : kk + 1 ≤ pc := by omega
            have hk5 : kk + 1 ≤ n + 1 := by omega
            have hk6 : (kk : Int) + 1 ≤ (n : Int) + 1 := by omega
            have HPx := Lib.hid (Rd.below HPr.out BCo.out (Nat.le_refl _))
            have hl2 := L2.out
            have HPy := Lib.hid (show Rd wc 1 (.slice (some ⟨pb, po, none⟩) (n + 1) pc) (n + 1) (T.panes.map (Value.int .i64)) from by have := HPx.out; unfold IntsAt at this; rwa [hl2] at this)
            clear hl2
            have RT := Lib.hid (fun W (h : Below wc.heap.size wc W) => rd_take (Rd.below HPy.out h (Nat.le_refl _)) hk5 pc)
            have hsub : n + 1 - (kk + 1) = n - kk := by omega
            have RD := Lib.hid (fun W (h : Below wc.heap.size wc W) (o' c' : Nat) (ho : kk + 1 < n + 1 → o' = po + (kk + 1)) => (show Rd W 1 (.slice (some ⟨pb, o', none⟩) (n - kk) c') (n - kk) ((T.panes.drop (kk + 1)).map (Value.int .i64)) from by
              have := rd_drop (Rd.below HPy.out h (Nat.le_refl _)) hk5 o' c' ho
              rwa [hsub] at this))
            clear hsub
            clear HPx HPr HPI HPC HQ PQ hA GR WT BWr BW3 S0 hTree HV hmm hg hPW hSp N7r N7 G7r G7 K NX TK BWo SAo BCo BWx hN' hcase BC
            have Fa := Lib.hid (show (wc.alloc (.cells #[] 3)).drew.heap[wc.heap.size]? = some (.cells #[] 3) from heap_alloc_new wc _)
            have Fb := Lib.hid (show ((wc.alloc (.cells #[] 3)).alloc (.cells #[.int .i64 60] 3)).drew.heap[wc.heap.size]? = some (.cells #[] 3) from (two_new wc _ _).2.1)
            have Fb2 := Lib.hid (show ((wc.alloc (.cells #[] 3)).alloc (.cells #[.int .i64 60] 3)).drew.heap[wc.heap.size + 1]? = some (.cells #[.int .i64 60] 3) from (two_new wc _ _).1)
            have Fc := Lib.hid (show ((wc.alloc (.cells #[.int .i64 60] 3)).alloc (.cells #[] 3)).drew.heap[wc.heap.size + 1]? = some (.cells #[] 3) from (two_new wc _ _).1)
            have Fc2 := Lib.hid (show ((wc.alloc (.cells #[.int .i64 60] 3)).alloc (.cells #[] 3)).drew.heap[wc.heap.size]? = some (.cells #[.int .i64 60] 3) from (two_new wc _ _).2.1)
            have CL := Lib.hid (fun v w' (h : w'.ownsRow wc.heap.size 3 1 v (n + 2) (((T.panes.take (kk + 1)).map (Value.int .i64) ++ ([60] : List Int).map (Value.int .i64)) ++ (T.panes.drop (kk + 1)).map (Value.int .i64))) => (show IntsAt w' v (T.panes.take (kk + 1) ++ [60] ++ T.panes.drop (kk + 1)) from by
              have h2 := Rd.own h
              unfold IntsAt
              rw [List.map_append, List.map_append]
              have hlen : (T.panes.take (kk + 1) ++ [60] ++ T.panes.drop (kk + 1)).length = n + 2 := by
                have := L2.out
                simp only [List.length_append, List.length_take, List.length_drop, List.length_cons, List.length_nil]; omega
              rw [hlen]
              exact h2))
            clear L2 L1
            by_cases hpk : pc = kk + 1
            · subst hpk
              have RD0 := Lib.hid (fun W (h : Below wc.heap.size wc W) => (show Rd W 1 (.slice (some ⟨pb, po, none⟩) 0 0) 0 ((T.panes.drop (kk + 1)).map (Value.int .i64)) from by
                have := RD.out W h po 0 (by omega)
                have e0 : n - kk = 0 := by omega
                rwa [e0] at this))
              go_region_held3 (fun w' => Below wc.heap.size wc w') ((repeat (first | with_reducible assumption | with_reducible exact Below.refl _ _ | with_reducible refine Below.drew ?_ | with_reducible refine below_drewN ?_ _ | (with_reducible refine Below.setCell ?_ ?_ _; rotate_left; (first | omega | (simp <;> omega))) | (with_reducible refine Below.alloc ?_ ?_ _; rotate_left; (first | omega | (simp <;> omega))))))
                (first
                  | ((have tV := H5
                      refine step_append_all (fun _ => Rw2 wc (n + 2) (((T.panes.take (kk + 1)).map (Value.int .i64) ++ ([60] : List Int).map (Value.int .i64)) ++ (T.panes.drop (kk + 1)).map (Value.int .i64))) _ (by rfl) (.tmp 107) (.tmp 111) 22 (by rfl) v2 (.slice (some ⟨pb, po, none⟩) 0 0) (by rfl) (by rfl) ?_ ?_
                      · exact Try.app_row hB5 H5.out.2 (RD0.out _ hB5) (by omega) _ (by omega)
                      intro v3 w6 h3
                      have hB6 := h3.1
                      have hs6 := hB6.size
                      have H6 := Lib.hid h3
                      clear h3))
                  | ((have tV := H4
                      first
                        | (refine step_append_all (fun _ => Rw2 wc (kk + 2) ((T.panes.take (kk + 1)).map (Value.int .i64) ++ ([60] : List Int).map (Value.int .i64))) _ (by rfl) (.tmp 105) (.tmp 106) 22 (by rfl) v1 (.slice (some ⟨w4.heap.size, 0, none⟩) 1 1) (by rfl) (by rfl) (by exact Try.app_row (x := .slice (some ⟨w4.heap.size, 0, none⟩) 1 1) (news := [60]) (hB4.alloc hB4.size (.cells #[.int .i64 60] 3)) (own_below H4.out.1.2 ((Below.refl _ w4).alloc (Nat.le_refl _) _)) (Rd.of_block (heap_alloc_new w4 _) rfl) (by omega) _ (by omega)) ?_)
                        | (refine step_append_all (fun _ => Rw2 wc (kk + 2) ((T.panes.take (kk + 1)).map (Value.int .i64) ++ ([60] : List Int).map (Value.int .i64))) _ (by rfl) (.tmp 105) (.tmp 106) 22 (by rfl) v1 (.slice (some ⟨wc.heap.size + 1, 0, none⟩) 1 1) (by rfl) (by rfl) (by exact Try.app_row (x := .slice (some ⟨wc.heap.size + 1, 0, none⟩) 1 1) (news := [60]) hB4 H4.out.1.2 (Rd.of_block (H4.out.2 _ Fb2.out) rfl) (by omega) _ (by omega)) ?_)
                        | (refine step_append_all (fun _ => Rw2 wc (kk + 2) ((T.panes.take (kk + 1)).map (Value.int .i64) ++ ([60] : List Int).map (Value.int .i64))) _ (by rfl) (.tmp 105) (.tmp 106) 22 (by rfl) v1 (.slice (some ⟨wc.heap.size, 0, none⟩) 1 1) (by rfl) (by rfl) (by exact Try.app_row (x := .slice (some ⟨wc.heap.size, 0, none⟩) 1 1) (news := [60]) hB4 H4.out.1.2 (Rd.of_block (H4.out.2 _ Fc2.out) rfl) (by omega) _ (by omega)) ?_)
                      intro v2 w5 h2
                      have hB5 := h2.1
                      have hs5 := hB5.size
                      have H5 := Lib.hid h2
                      clear h2))
                  | ((first
                        | (refine step_append_all (Rw3 wc (kk + 1) ((T.panes.take (kk + 1)).map (Value.int .i64)) 60) _ (by rfl) (.tmp 100) (.tmp 104) 22 (by rfl) (.slice (some ⟨wc.heap.size, 0, none⟩) 0 0) (.slice (some ⟨pb, po, none⟩) (kk + 1) (kk + 1)) (by rfl) (by rfl) (by exact Try.app_first (by (repeat (first | with_reducible assumption | with_reducible exact Below.refl _ _ | with_reducible refine Below.drew ?_ | with_reducible refine below_drewN ?_ _ | (with_reducible refine Below.setCell ?_ ?_ _; rotate_left; (first | omega | (simp <;> omega))) | (with_reducible refine Below.alloc ?_ ?_ _; rotate_left; (first | omega | (simp <;> omega)))))) (by first | omega | (simp; omega) | (simp)) (by first | with_reducible exact Fa.out | with_reducible exact Fb.out | with_reducible exact Fc.out) (RT.out _ (by (repeat (first | with_reducible assumption | with_reducible exact Below.refl _ _ | with_reducible refine Below.drew ?_ | with_reducible refine below_drewN ?_ _ | (with_reducible refine Below.setCell ?_ ?_ _; rotate_left; (first | omega | (simp <;> omega))) | (with_reducible refine Below.alloc ?_ ?_ _; rotate_left; (first | omega | (simp <;> omega))))))) (by omega) 60) ?_)
                        | (refine step_append_all (Rw3 wc (kk + 1) ((T.panes.take (kk + 1)).map (Value.int .i64)) 60) _ (by rfl) (.tmp 100) (.tmp 104) 22 (by rfl) (.slice (some ⟨(wc.heap.size + 1), 0, none⟩) 0 0) (.slice (some ⟨pb, po, none⟩) (kk + 1) (kk + 1)) (by rfl) (by rfl) (by exact Try.app_first (by (repeat (first | with_reducible assumption | with_reducible exact Below.refl _ _ | with_reducible refine Below.drew ?_ | with_reducible refine below_drewN ?_ _ | (with_reducible refine Below.setCell ?_ ?_ _; rotate_left; (first | omega | (simp <;> omega))) | (with_reducible refine Below.alloc ?_ ?_ _; rotate_left; (first | omega | (simp <;> omega)))))) (by first | omega | (simp; omega) | (simp)) (by first | with_reducible exact Fa.out | with_reducible exact Fb.out | with_reducible exact Fc.out) (RT.out _ (by (repeat (first | with_reducible assumption | with_reducible exact Below.refl _ _ | with_reducible refine Below.drew ?_ | with_reducible refine below_drewN ?_ _ | (with_reducible refine Below.setCell ?_ ?_ _; rotate_left; (first | omega | (simp <;> omega))) | (with_reducible refine Below.alloc ?_ ?_ _; rotate_left; (first | omega | (simp <;> omega))))))) (by omega) 60) ?_)
                      intro v1 w4 h1
                      have hB4 := h1.1.1
                      have hs4 := hB4.size
                      have H4 := Lib.hid h1
                      clear h1)))
              all_goals (go_wp2_with fail)
              all_goals go_meet
              all_goals (obtain ⟨g, cc, rfl⟩ := H6.out.form (by omega); exact ⟨g, cc, rfl, hB6, CL.out _ _ H6.out.2⟩)
            · have hpk1 : ¬ (pc : Int) = (kk : Int) + 1 := by omega
              have hpk2 : ¬ (kk : Int) + 1 = (pc : Int) := by omega
              have hpk3 : ¬ kk + 1 = pc := by omega
              go_region_held3 (fun w' => Below wc.heap.size wc w') ((repeat (first | with_reducible assumption | with_reducible exact Below.refl _ _ | with_reducible refine Below.drew ?_ | with_reducible refine below_drewN ?_ _ | (with_reducible refine Below.setCell ?_ ?_ _; rotate_left; (first | omega | (simp <;> omega))) | (with_reducible refine Below.alloc ?_ ?_ _; rotate_left; (first | omega | (simp <;> omega))))))
                (first
                  | ((have tV := H5
                      refine step_append_all (fun _ => Rw2 wc (n + 2) (((T.panes.take (kk + 1)).map (Value.int .i64) ++ ([60] : List Int).map (Value.int .i64)) ++ (T.panes.drop (kk + 1)).map (Value.int .i64))) _ (by rfl) (.tmp 107) (.tmp 111) 22 (by rfl) v2 (.slice (some ⟨pb, po + (kk + 1), none⟩) (n - kk) (pc - (kk + 1))) (by rfl) (by rfl) ?_ ?_
                      · exact Try.app_row hB5 H5.out.2 (RD.out _ hB5 _ _ (by omega)) (by omega) _ (by omega)
                      intro v3 w6 h3
                      have hB6 := h3.1
                      have hs6 := hB6.size
                      have H6 := Lib.hid h3
                      clear h3))
                  | ((have tV := H4
                      first
                        | (refine step_append_all (fun _ => Rw2 wc (kk + 2) ((T.panes.take (kk + 1)).map (Value.int .i64) ++ ([60] : List Int).map (Value.int .i64))) _ (by rfl) (.tmp 105) (.tmp 106) 22 (by rfl) v1 (.slice (some ⟨w4.heap.size, 0, none⟩) 1 1) (by rfl) (by rfl) (by exact Try.app_row (x := .slice (some ⟨w4.heap.size, 0, none⟩) 1 1) (news := [60]) (hB4.alloc hB4.size (.cells #[.int .i64 60] 3)) (own_below H4.out.1.2 ((Below.refl _ w4).alloc (Nat.le_refl _) _)) (Rd.of_block (heap_alloc_new w4 _) rfl) (by omega) _ (by omega)) ?_)
                        | (refine step_append_all (fun _ => Rw2 wc (kk + 2) ((T.panes.take (kk + 1)).map (Value.int .i64) ++ ([60] : List Int).map (Value.int .i64))) _ (by rfl) (.tmp 105) (.tmp 106) 22 (by rfl) v1 (.slice (some ⟨wc.heap.size + 1, 0, none⟩) 1 1) (by rfl) (by rfl) (by exact Try.app_row (x := .slice (some ⟨wc.heap.size + 1, 0, none⟩) 1 1) (news := [60]) hB4 H4.out.1.2 (Rd.of_block (H4.out.2 _ Fb2.out) rfl) (by omega) _ (by omega)) ?_)
                        | (refine step_append_all (fun _ => Rw2 wc (kk + 2) ((T.panes.take (kk + 1)).map (Value.int .i64) ++ ([60] : List Int).map (Value.int .i64))) _ (by rfl) (.tmp 105) (.tmp 106) 22 (by rfl) v1 (.slice (some ⟨wc.heap.size, 0, none⟩) 1 1) (by rfl) (by rfl) (by exact Try.app_row (x := .slice (some ⟨wc.heap.size, 0, none⟩) 1 1) (news := [60]) hB4 H4.out.1.2 (Rd.of_block (H4.out.2 _ Fc2.out) rfl) (by omega) _ (by omega)) ?_)
                      intro v2 w5 h2
                      have hB5 := h2.1
                      have hs5 := hB5.size
                      have H5 := Lib.hid h2
                      clear h2))
                  | ((first
                        | (refine step_append_all (Rw3 wc (kk + 1) ((T.panes.take (kk + 1)).map (Value.int .i64)) 60) _ (by rfl) (.tmp 100) (.tmp 104) 22 (by rfl) (.slice (some ⟨wc.heap.size, 0, none⟩) 0 0) (.slice (some ⟨pb, po, none⟩) (kk + 1) pc) (by rfl) (by rfl) (by exact Try.app_first (by (repeat (first | with_reducible assumption | with_reducible exact Below.refl _ _ | with_reducible refine Below.drew ?_ | with_reducible refine below_drewN ?_ _ | (with_reducible refine Below.setCell ?_ ?_ _; rotate_left; (first | omega | (simp <;> omega))) | (with_reducible refine Below.alloc ?_ ?_ _; rotate_left; (first | omega | (simp <;> omega)))))) (by first | omega | (simp; omega) | (simp)) (by first | with_reducible exact Fa.out | with_reducible exact Fb.out | with_reducible exact Fc.out) (RT.out _ (by (repeat (first | with_reducible assumption | with_reducible exact Below.refl _ _ | with_reducible refine Below.drew ?_ | with_reducible refine below_drewN ?_ _ | (with_reducible refine Below.setCell ?_ ?_ _; rotate_left; (first | omega | (simp <;> omega))) | (with_reducible refine Below.alloc ?_ ?_ _; rotate_left; (first | omega | (simp <;> omega))))))) (by omega) 60) ?_)
                        | (refine step_append_all (Rw3 wc (kk + 1) ((T.panes.take (kk + 1)).map (Value.int .i64)) 60) _ (by rfl) (.tmp 100) (.tmp 104) 22 (by rfl) (.slice (some ⟨(wc.heap.size + 1), 0, none⟩) 0 0) (.slice (some ⟨pb, po, none⟩) (kk + 1) pc) (by rfl) (by rfl) (by exact Try.app_first (by (repeat (first | with_reducible assumption | with_reducible exact Below.refl _ _ | with_reducible refine Below.drew ?_ | with_reducible refine below_drewN ?_ _ | (with_reducible refine Below.setCell ?_ ?_ _; rotate_left; (first | omega | (simp <;> omega))) | (with_reducible refine Below.alloc ?_ ?_ _; rotate_left; (first | omega | (simp <;> omega)))))) (by first | omega | (simp; omega) | (simp)) (by first | with_reducible exact Fa.out | with_reducible exact Fb.out | with_reducible exact Fc.out) (RT.out _ (by (repeat (first | with_reducible assumption | with_reducible exact Below.refl _ _ | with_reducible refine Below.drew ?_ | with_reducible refine below_drewN ?_ _ | (with_reducible refine Below.setCell ?_ ?_ _; rotate_left; (first | omega | (simp <;> omega))) | (with_reducible refine Below.alloc ?_ ?_ _; rotate_left; (first | omega | (simp <;> omega))))))) (by omega) 60) ?_)
                      intro v1 w4 h1
                      have hB4 := h1.1.1
                      have hs4 := hB4.size
                      have H4 := Lib.hid h1
                      clear h1)))
              all_goals (go_wp2_with fail)
              all_goals go_meet
              all_goals (obtain ⟨g, cc, rfl⟩ := H6.out.form (by omega); exact ⟨g, cc, rfl, hB6, CL.out _ _ H6.out.2⟩)
          case rest =>
            obtain ⟨g, cc, rfl, BG, HI⟩ := hcut
            have c15 := (BG.out.cell (p := ⟨gu, 0, none⟩) hgl).trans hcl
            have NY := Lib.hid (NX.out.below BG.out)
            have PW := hPW.out f f1 f2
            have ep := put_at (fresh := 60) (d := a2 % 2 + 1) (f := f) WT.out.nodup TK.out
            have hlen : (T.panes.take (kk + 1) ++ [60] ++ T.panes.drop (kk + 1)).length = n + 2 := by
              have := L2.out
              simp only [List.length_append, List.length_take, List.length_drop, List.length_cons, List.length_nil]; omega
            have hP := Lib.hid (fun w' h => (show Calls Try.prog 9 _ w' (IntsPost (T.panes.take (kk + 1) ++ [60] ++ T.panes.drop (kk + 1)) w') from by
              have := Try.tpanes_ok (T.put pa 60 (a2 % 2 + 1) f) PW (.slice (some ⟨b', o', none⟩) (T.put pa 60 (a2 % 2 + 1) f).size c') w' h
              rwa [ep] at this))
            have hSI := Lib.hid (fun w' u v h1 h2 => Try.sameints_ok (T.panes.take (kk + 1) ++ [60] ++ T.panes.drop (kk + 1)) u v w' (by omega) (by omega) h1 h2)
            have HIo := Lib.hid HI.out
            have BX := Lib.hid (BWx.out.trans (BG.out.mono BWx.out.size))
            clear PW ep hlen hcl hN' hcase BC BG HI
            generalize T.panes.take (kk + 1) ++ [60] ++ T.panes.drop (kk + 1) = want at *
            go_wp2_with fail
            go_at_call 9
            refine (hP.out _ NY.out).mono ?_
            rintro e w8 ⟨vz, rfl, hvz, hb8⟩
            have hs8 := hb8.size
            have HZ := Lib.hid hvz
            have HW := Lib.hid (Rd.below HIo.out hb8 (Nat.le_refl _))
            clear hvz
            go_wp2_with (first
              | ((go_at_call 20; refine (hSI.out _ _ _ HZ.out HW.out).mono ?_; rintro e w9 ⟨rfl, hb9⟩; have hs9 := hb9.size))
              | ((go_at_call 12; refine (hA.out _).mono ?_; rintro e w10 ⟨rfl, hb10⟩)))
            go_ret
            exact ⟨rfl, BX.out.trans ((hb8.trans ((hb9.trans (hb10.mono hs9)).mono hs8)).mono BX.out.size)⟩
end Go.Proofs
namespace Go.Proofs.Ytkcibhokjiciiaa.treeOrder
open Go.ChangeShapes Go.WideShapes Go.ChangeAt Go.RowKit

theorem own : ownKnob Try.prog.godebug = none := by kernel_rfl
theorem tidy : Cm.Tidy Try.prog := Cm.tidy_of Try.prog (by kernel_rfl) (by kernel_rfl) (by kernel_rfl) (by kernel_rfl)
theorem fnIs (H : Type) : ∀ ds : List (DataW H), ds.length = Try.f5.params.size → Rows.treeOrderSpec.fn H ds = { results := [.lit (.bool true)], args := ds }
  | [_, _, _], _ => rfl
  | [], h => by cases h
  | [_], h => by cases h
  | [_, _], h => by cases h
  | _ :: _ :: _ :: _ :: _, h => by
    have : Try.f5.params.size = 3 := rfl
    simp only [List.length_cons, this] at h
    omega

theorem law (cs : List Value) (hcs : Cm.HasArgs [.slice (.int .i64), .int .i64, .int .i64] cs) (W : World) (args : Array Value) (hc : Cm.Colds (fun b => W.heap[b]?) cs args.toList) :
    Calls Try.prog 5 args W fun e W' => e = .returned (.bool true) ∧ Below W.heap.size W W' := by
  obtain ⟨x0, r0, h0, ⟨x1, r1, h1, ⟨x2, r2, h2, hr, rfl⟩, rfl⟩, rfl⟩ := hcs
  have hr : r2 = [] := hr
  subst hr
  obtain ⟨al⟩ := args
  cases hc with
  | cons _ y0 _ l0 c0 hl0 =>
    cases hl0 with
    | cons _ y1 _ l1 c1 hl1 =>
      cases hl1 with
      | cons _ y2 _ l2 c2 hl2 =>
        cases hl2
        obtain ⟨xs0, b0, e0⟩ := Cl.ints_in h0 c0
        obtain ⟨a1, w1, rfl⟩ := Cl.int_in h1 c1
        obtain ⟨a2, w2, rfl⟩ := Cl.int_in h2 c2
        exact Try.order_ok Cl.awake xs0 y0 a1 a2 W b0 e0

set_option maxRecDepth 100000 in
theorem lifted (os : Os) (started : os.Started) (H : Type) (enc : TypeId × Value → H) :
    ReturnsInHanded {} Try.checked os 5 .any (Rows.treeOrderSpec.pre6 enc Try.prog Try.f5 Rows.treeOrderRow.domain false) (Rows.treeOrderSpec.post enc Try.prog Try.f5 false true false false) := by
  refine returnsInHanded_of_change (C := Try.checked) own started (by kernel_rfl) Try.func5
    (ChangeSpec.witness6 (enc := enc) (C := Try.checked) false ⟨#[], #[.slice none 0 0, .int .i64 0, .int .i64 0], []⟩ 8 (by kernel_rfl) (by kernel_rfl) (by kernel_rfl) (by kernel_rfl)) ?_
  intro W base args ds gs before hval0 hW hcnd _
  exact Cm.law_post tidy [.slice (.int .i64), .int .i64, .int .i64] rfl (fnIs H) rfl Try.underlying4 (by kernel_rfl) (by kernel_rfl) law W base args ds gs before hval0 hW

theorem fa : (Rows.treeOrderRow.inPlace == Try.pinned.checked.prog.inPlace 5) = true := by kernel_rfl
theorem fb : (Rows.treeOrderRow.unfollowed == Try.pinned.checked.prog.unfollowed 5) = true := by kernel_rfl
theorem fc : (Rows.treeOrderRow.recurses == Try.pinned.checked.prog.recurses 5) = true := by kernel_rfl
theorem fd : (Rows.treeOrderRow.named == Try.pinned.checked.prog.varsNamed 5) = true := by kernel_rfl
set_option maxHeartbeats 4000000 in
theorem facts : joinedFacts Try.pinned.checked.prog 5 Try.f5 Rows.treeOrderSpec Rows.treeOrderRow = true := by
  unfold joinedFacts
  simp only [Bool.and_eq_true]
  repeat' apply And.intro
  all_goals first
    | with_reducible exact fa
    | with_reducible exact fb
    | with_reducible exact fc
    | with_reducible exact fd
    | kernel_rfl

theorem over : Rows.treeOrderRow.holds Try.pinned (OpenSpec.ofChange Rows.treeOrderSpec) :=
  OpenClaim.holds_of_wide 5 Try.f5 rfl rfl rfl rfl rfl rfl rfl ⟨rfl, rfl, rfl, rfl, rfl⟩ rfl rfl rfl rfl rfl (by kernel_rfl) Try.func5 facts
    (of_decide_eq_true (by kernel_rfl)) (by unfold Func.isWrapper; first | (rw [if_pos (by decide +kernel)]; kernel_rfl) | (rw [if_neg (by decide +kernel)]; exact ⟨rfl, rfl⟩))
    (fun os started H enc _ => lifted os started H enc)

/-- ████ THE STATEMENT ████ -/
theorem proved : Rows.TreeOrderSaid :=
  over
end Go.Proofs.Ytkcibhokjiciiaa.treeOrder
