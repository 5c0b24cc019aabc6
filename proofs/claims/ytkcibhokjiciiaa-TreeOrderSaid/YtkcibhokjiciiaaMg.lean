/-
  An operation in its region, of any order: one step. What of code is asked before it runs; and a region that draws no order. A region that draws an order: what was done, operation by operation; and what was done last. A region that draws an order: whatever the order, the same comes of it.
-/
import Derived.Test.YtkcibhokjiciiaaMf
import Derived.Orders
import Derived.Scope
import Derived.CheckFast
namespace Go.Cm
open Go Go.RowKit

/-- The globals that are looked at are rows of their own. -/
def Globs (E : Env) (μ : Mu) : Prop := (∀ g, E.glob g = true → ∃ e z ty, μ g = some ⟨g, 0, e, z, ty⟩) ∧ μ.sy = E.sy ∧ ∀ b o, E.fz b = some o → μ.fz b = some o
theorem Globs.mono {E : Env} {μ μ' : Mu} (h : Globs E μ) (hm : μ.le μ') : Globs E μ' := ⟨fun g hg => let ⟨e, z, ty, hz⟩ := h.1 g hg; ⟨e, z, ty, hm _ _ hz⟩, hm.sy.trans h.2.1, fun b o e => hm.fz b o (h.2.2 b o e)⟩

/-- What a call answers, the model's answers. -/
def CallSim (E : Env) (base : Nat) (call : FuncId → List Value → M Value) : Prop :=
  (∀ f args, Loc (call f args)) ∧
  ∀ f args v s s' μ w args', call f args s = some (v, s') → VRels μ args args'.toList → SRel base μ s.rows.get w → Globs E μ → (∀ r, s.next ≤ r → r < s'.next → μ r = none) →
    Calls E.P f args' w fun e w' => ∃ v' μ', e = .returned v' ∧ VRel μ' v v' ∧ SRel base μ' s'.rows.get w' ∧ Grew base μ μ' s.next s'.next w w'

theorem dst_some {fr fr' : Fr} {d : Option Tmp} {v : Value} {s s' : St} : fr.dst d v s = some (fr', s') ↔ s' = s ∧ ((d = none ∧ fr' = fr) ∨ ∃ t, d = some t ∧ t < fr.n ∧ fr' = fr.put t v) := by
  unfold Fr.dst
  cases d with
  | none => simp only [pure_some]; constructor
            · rintro ⟨rfl, rfl⟩; exact ⟨rfl, .inl ⟨trivial, rfl⟩⟩
            · rintro ⟨rfl, ⟨_, rfl⟩ | ⟨t, h, _⟩⟩
              · exact ⟨rfl, rfl⟩
              · cases h
  | some t =>
    cases hb : Nat.blt t fr.n with
    | false =>
      simp only [hb, cond_false, fail_some, false_iff]
      rintro ⟨_, ⟨h, _⟩ | ⟨u, h, hu, _⟩⟩
      · cases h
      · injection h with h; subst h
        have : Nat.blt t fr.n = true := Nat.ble_eq_true_of_le hu
        rw [this] at hb; cases hb
    | true =>
      simp only [hb, cond_true, pure_some]
      constructor
      · rintro ⟨rfl, rfl⟩; exact ⟨rfl, .inr ⟨t, rfl, blt_lt hb, rfl⟩⟩
      · rintro ⟨rfl, ⟨h, _⟩ | ⟨u, h, hu, rfl⟩⟩
        · cases h
        · injection h with h; subst h; exact ⟨rfl, rfl⟩

section
variable {E : Env} (ok : E.Ok) {base : Nat} {μ : Mu} {w : World} {s s' : St}

theorem evOp_sure {call : FuncId → List Value → M Value} {ops : Array Oper} {o : Oper} {fr fr' : Fr} {s s' : St} (h : evOp E call ops o fr s = some (fr', s')) : sureA ops fr o = true := by
  unfold evOp at h
  cases hsu : sureA ops fr o with
  | false => rw [hsu, Bool.not_false, cond_true, fail_some] at h; exact h.elim
  | true => rfl
theorem known_wp {o : Oper} {f : FuncId} {args : Array Value} {v : Value} {a : Act} {K : Act → World → Prop} {Q : Exit → Act → World → Prop}
    (h : Known E.P f args v w) (hr : (execOp a.eval o).run E.P w = (callFunc f args).run E.P w) (hs : SRel base μ s.rows.get w)
    (hK : ∀ w', SRel base μ s.rows.get w' → Grew base μ μ s.next s.next w w' → K (a.put o.dst v) w') : o.wp E.P a w K Q := by
  unfold Oper.wp
  rw [hr]
  have fin : ∀ w', Below w.heap.size w w' → K (a.put o.dst v) w' := fun w' hb =>
    hK w' (hs.grow hb) ⟨Mu.le_refl _, fun _ h h' => absurd h h', fun _ h h' => absurd h h', hb.mono hs.ge⟩
  rcases h with ⟨w', h1, h2⟩ | ⟨h1, h2⟩
  · rw [h1]; exact fin w' h2
  · rw [h1]
    refine Calls.mono h2 fun e w' ⟨he, hb⟩ => ?_
    subst he
    exact fin w' hb

include ok
theorem sim_op {call : FuncId → List Value → M Value} (hcall : CallSim E base call) {ops : Array Oper} {o : Oper} {fr fr' : Fr} {a : Act} {i : Nat} (ho : ops[i]? = some o)
    (h : evOp E call ops o fr s = some (fr', s')) (hops : ∀ x ∈ o.op.operands, VRel μ (fr.eval x) (a.eval x)) (hg : wantedA ops fr o = Region.wanted o (yielded ops a.tmps))
    (hs : SRel base μ s.rows.get w) (hgl : Globs E μ) (hf : ∀ r, s.next ≤ r → r < s'.next → μ r = none) {K : Act → World → Prop} {Q : Exit → Act → World → Prop}
    (hK : ∀ v v' μ' w', ((o.dst = none ∧ fr' = fr) ∨ ∃ t, o.dst = some t ∧ t < fr.n ∧ fr' = fr.put t v) → VRel μ' v v' → SRel base μ' s'.rows.get w' → Grew base μ μ' s.next s'.next w w' → K (a.put o.dst v') w') :
    wpOp E.P ops Q i K a w := by
  unfold wpOp
  rw [ho]
  simp only
  unfold evOp at h
  cases hsu : sureA ops fr o with
  | false => rw [hsu, Bool.not_false, cond_true, fail_some] at h; exact h.elim
  | true =>
  rw [hsu, Bool.not_true, cond_false] at h
  rw [← hg]
  cases hw : wantedA ops fr o with
  | false =>
    rw [hw] at h
    simp only [cond_false, dst_some] at h
    obtain ⟨rfl, h⟩ := h
    simp only [Bool.false_eq_true, if_false]
    exact hK undef undef μ w h (.plain _ rfl) hs (Grew.refl _ _ _ _ _)
  | true =>
    rw [hw] at h
    simp only [cond_true] at h
    simp only [if_true]
    left
    rw [bind_some] at h
    obtain ⟨nx, s1, h1, h2⟩ := h
    have hl1 : s1.next ≤ s'.next := by
      obtain ⟨L, W, r1⟩ := Loc.execA E fr.eval o s nx s1 h1
      cases nx with
      | value v => simp only [dst_some] at h2; obtain ⟨rfl, _⟩ := h2; exact Nat.le_refl _
      | skip => simp only [dst_some] at h2; obtain ⟨rfl, _⟩ := h2; exact Nat.le_refl _
      | known f args v => simp only [dst_some] at h2; obtain ⟨rfl, _⟩ := h2; exact Nat.le_refl _
      | enter f args =>
        simp only at h2
        rw [bind_some] at h2
        obtain ⟨v, s2, h3, h4⟩ := h2
        obtain ⟨L2, W2, r2⟩ := hcall.1 f args s1 v s2 h3
        rw [dst_some] at h4
        obtain ⟨rfl, _⟩ := h4
        exact r2.next
    have hx := does_exec ok h1 hops hs (fun r hr hr' => hf r hr (by omega)) hgl.2.1 hgl.2.2
    cases nx with
    | value v =>
      simp only [dst_some] at h2
      obtain ⟨rfl, h2⟩ := h2
      obtain ⟨b, w', μ', hr, hn, hs', hgr⟩ := hx
      cases b with
      | value v' =>
        show Oper.wp _ _ _ _ _ _
        unfold Oper.wp
        rw [hr]
        exact hK v v' μ' w' h2 hn hs' hgr
      | _ => exact hn.elim
    | skip =>
      simp only [dst_some] at h2
      obtain ⟨rfl, h2⟩ := h2
      obtain ⟨b, w', μ', hr, hn, hs', hgr⟩ := hx
      cases b with
      | skip =>
        unfold Oper.wp
        rw [hr]
        exact hK undef undef μ' w' h2 (.plain _ rfl) hs' hgr
      | _ => exact hn.elim
    | known f args v =>
      simp only [dst_some] at h2
      obtain ⟨rfl, h2⟩ := h2
      obtain ⟨⟨_, v', hp, hk, hr⟩, hrows, hnext⟩ := hx
      refine known_wp (base := base) (μ := μ) (s := s) hk hr hs fun w' hs' hgr => ?_
      refine hK v v' μ w' h2 hp (by rw [hrows]; exact hs') ⟨hgr.le, fun r h h' => absurd h h', hgr.fzn, hgr.below⟩
    | enter f args =>
      simp only at h2
      rw [bind_some] at h2
      obtain ⟨v, s2, h3, h4⟩ := h2
      rw [dst_some] at h4
      obtain ⟨rfl, h4⟩ := h4
      obtain ⟨b, w', μ', hr, hn, hs', hgr⟩ := hx
      obtain ⟨L, W, r1⟩ := Loc.execA E fr.eval o s _ s1 h1
      obtain ⟨L2, W2, r2⟩ := hcall.1 f args s1 v s' h3
      cases b with
      | enter g args' =>
        obtain ⟨rfl, hn⟩ := hn
        unfold Oper.wp
        rw [hr]
        have hc := hcall.2 f args v s1 s' μ' w' args' h3 hn hs' (hgl.mono hgr.le) (fun r hr1 hr2 => by
          have n1 := r1.next
          have h0 := hf r (by omega) hr2
          rcases hμ : μ' r with _ | L
          · rfl
          · have := hgr.new r h0 (by rw [hμ]; simp)
            omega)
        refine Calls.mono hc fun e w'' ⟨v', μ'', he, hv, hs2, hg2⟩ => ?_
        subst he
        refine hK v v' μ'' w'' h4 hv hs2 (hgr.trans hg2 r1.next r2.next)
      | _ => exact hn.elim
end
end Go.Cm
namespace Go.Cm
open Go Go.RowKit

noncomputable def operOk (E : Env) : Operand → Bool
  | .tmp _ => true
  | .const v => plain v
  | .global g => E.glob g
  | .func _ => true
noncomputable def opOk (E : Env) (o : Oper) : Bool := o.op.operands.toList.all (operOk E)

noncomputable def orderOkAt (ops : Array Oper) (before : Array Nat) (o : Oper) (j : Nat) : List Oper → Nat → Bool
  | [], _ => true
  | p :: l, i => bif Nat.blt i j then (bif ordered before i j then true else p.apart ops o) && orderOkAt ops before o j l (Nat.succ i) else true
noncomputable def orderOk (ops : Array Oper) (before : Array Nat) : List Oper → Nat → Bool
  | [], _ => true
  | o :: l, j => orderOkAt ops before o j ops.toList 0 && (o.after.toList.all fun e => !Region.binds .any e || Nat.blt e.on j) && orderOk ops before l (Nat.succ j)

noncomputable def codeOk (E : Env) : Code → Bool
  | .region _ ops draw => ops.toList.all (opOk E) && (bif draw then orderOk ops (Region.before ops) ops.toList 0 else true)
  | .seq a b => codeOk E a && codeOk E b
  | .cond c a b => operOk E c && codeOk E a && codeOk E b
  | .block _ c => codeOk E c
  | .loop c => codeOk E c
  | .scope c => codeOk E c
  | _ => true

section
variable {E : Env} {base : Nat} {μ : Mu} {w : World} {s s' : St}

theorem eval_rel {fr : Fr} {a : Act} {x : Operand} (hx : operOk E x = true) (hgl : Globs E μ) (ht : ∀ t, x = .tmp t → VRel μ (fr.get t) (a.tmps.getD t undef)) : VRel μ (fr.eval x) (a.eval x) := by
  cases x with
  | tmp t => exact ht t rfl
  | const v => exact .plain v hx
  | global g =>
    obtain ⟨e, z, ty, hz⟩ := hgl.1 g hx
    exact .ptr g 0 ⟨g, 0, e, z, ty⟩ hz
  | func f => exact .func _ _ _ _ _ .nil .nil

theorem wanted_same {fr : Fr} {a : Act} {ops : Array Oper} {o : Oper} (hsu : sureA ops fr o = true) (h : ∀ j want g d, o.guard = some (j, want) → ops[j]? = some g → g.dst = some d → VRel μ (fr.get d) (a.tmps.getD d undef)) :
    wantedA ops fr o = Region.wanted o (yielded ops a.tmps) := by
  unfold wantedA Region.wanted
  cases hg : o.guard with
  | none => rfl
  | some p =>
    obtain ⟨j, want⟩ := p
    simp only
    unfold yielded
    cases ho : ops[j]? with
    | none => simp
    | some g =>
      simp only [Option.bind_some]
      cases hd : g.dst with
      | none => simp
      | some d =>
        simp only [Option.bind_some]
        have hr := h j want g d hg ho hd
        cases ht : a.tmps[d]? with
        | none =>
          have : a.tmps.getD d undef = undef := by simp [Array.getD_eq_getD_getElem?, ht]
          rw [this] at hr
          split
          · rename_i b hb
            rw [hb] at hr
            have := hr.ofBool
            cases this
          · simp
        | some u =>
          have : a.tmps.getD d undef = u := by simp [Array.getD_eq_getD_getElem?, ht]
          rw [this] at hr
          split
          · rename_i b hb
            rw [hb] at hr
            have := hr.ofBool
            subst this
            cases b <;> cases want <;> rfl
          · rename_i hne
            cases u with
            | bool b => exact absurd (hr.toBool (by unfold sureA at hsu; simp only [hg, ho, hd, Bool.not_eq_true'] at hsu; exact hsu)) (hne b)
            | _ => simp

theorem FRel.dst {fr fr' : Fr} {a : Act} {d : Option Tmp} {v v' : Value} (h : FRel μ fr a.tmps) (hv : VRel μ v v') (hd : (d = none ∧ fr' = fr) ∨ ∃ t, d = some t ∧ t < fr.n ∧ fr' = fr.put t v) : FRel μ fr' (a.put d v').tmps := by
  rcases hd with ⟨rfl, rfl⟩ | ⟨t, rfl, ht, rfl⟩
  · exact h
  · exact h.put ht hv

theorem put_defers (a : Act) (d : Option Tmp) (v : Value) : (a.put d v).defers = a.defers := by cases d <;> rfl

theorem sim_ops (ok : E.Ok) {call : FuncId → List Value → M Value} (hcall : CallSim E base call) {ops : Array Oper} {Q : Exit → Act → World → Prop} :
    ∀ (l : List Oper) (k : Nat) (fr fr' : Fr) (a : Act) (s s' : St) (μ : Mu) (w : World), ops.toList.drop k = l → evOps E call ops l fr s = some (fr', s') → (∀ o ∈ l, opOk E o = true) → FRel μ fr a.tmps →
      SRel base μ s.rows.get w → Globs E μ → (∀ r, s.next ≤ r → r < s'.next → μ r = none) →
      (∀ μ' a' w', FRel μ' fr' a'.tmps → a'.defers = a.defers → SRel base μ' s'.rows.get w' → Grew base μ μ' s.next s'.next w w' → Q .normal a' w') →
      wpOps E.P ops Q (List.range' k l.length) a w
  | [], k, fr, fr', a, s, s', μ, w, _, h, _, hfr, hs, hgl, hf, hQ => by
    unfold evOps at h
    rw [pure_some] at h
    obtain ⟨rfl, rfl⟩ := h
    exact hQ μ a w hfr rfl hs (Grew.refl _ _ _ _ _)
  | o :: l, k, fr, fr', a, s, s', μ, w, hk, h, hok, hfr, hs, hgl, hf, hQ => by
    unfold evOps at h
    rw [bind_some] at h
    obtain ⟨fr1, s1, h1, h2⟩ := h
    obtain ⟨L, W, r1⟩ := Loc.evOp E hcall.1 ops o fr s fr1 s1 h1
    obtain ⟨L2, W2, r2⟩ := Loc.evOps E hcall.1 ops l fr1 s1 fr' s' h2
    have n1 := r1.next
    have n2 := r2.next
    have hk0 : ops[k]? = some o := by
      have : (ops.toList.drop k)[0]? = some o := by rw [hk]; rfl
      simpa using this
    have hk1 : ops.toList.drop (k + 1) = l := by
      rw [← List.tail_drop, hk]; rfl
    show wpOps E.P ops Q (k :: List.range' (k + 1) l.length) a w
    rw [wpOps_cons]
    refine sim_op ok hcall hk0 h1 ?_ ?_ hs hgl (fun r hr hr' => hf r hr (by omega)) fun v v' μ1 w1 hd hv hs1 hg1 => ?_
    · intro x hx
      have := hok o (by simp)
      unfold opOk at this
      rw [List.all_eq_true] at this
      exact eval_rel (this x (by simpa using hx)) hgl fun t _ => hfr.get t
    · exact wanted_same (μ := μ) (evOp_sure h1) fun j want g d _ _ _ => hfr.get d
    · refine sim_ops ok hcall l (k + 1) fr1 fr' _ s1 s' μ1 w1 hk1 h2 (fun o ho => hok o (by simp [ho])) ((hfr.mono hg1.le).dst hv hd) hs1 (hgl.mono hg1.le) ?_ ?_
      · intro r hr hr'
        have h0 := hf r (by omega) hr'
        rcases hμ : μ1 r with _ | L
        · rfl
        · have := hg1.new r h0 (by rw [hμ]; simp)
          omega
      · intro μ' a' w' h1 h2 h3 h4
        exact hQ μ' a' w' h1 (by rw [h2, put_defers]) h3 (hg1.trans h4 n1 n2)
end
end Go.Cm
namespace Go.Cm
open Go Go.RowKit

/-- What was done at one operation. -/
structure Stp (E : Env) (call : FuncId → List Value → M Value) (ops : Array Oper) (o : Oper) (fr fr' : Fr) (R R' : Nat → Option Row) (n n' : Nat) (L W : List Nat) : Prop where
  mono : n ≤ n'
  sub : ∀ r, r ∈ W → r ∈ L
  lt : ∀ r, r ∈ L → r < n'
  same : ∀ r, r ∉ W → (r < n ∨ n' ≤ r) → R' r = R r
  dst : ∃ v, (o.dst = none ∧ fr' = fr) ∨ ∃ t, o.dst = some t ∧ t < fr.n ∧ fr' = fr.put t v
  again : ∀ s2 : St, s2.next = n → (∀ r, r ∈ L → r < n → s2.rows.get r = R r) →
    ∃ s2', evOp E call ops o fr s2 = some (fr', s2') ∧ s2'.next = n' ∧ ∀ r, s2'.rows.get r = if (r ∈ W ∨ n ≤ r) ∧ r < n' then R' r else s2.rows.get r

noncomputable def didOf (n n' : Nat) (L W : List Nat) : Did := { lo := n, hi := n', log := below n L, wlog := below n W }

section
variable {E : Env} {call : FuncId → List Value → M Value} {ops : Array Oper} {before : Array Nat}

theorem evOp_dst {o : Oper} {fr fr' : Fr} {s s' : St} (h : evOp E call ops o fr s = some (fr', s')) : ∃ v, (o.dst = none ∧ fr' = fr) ∨ ∃ t, o.dst = some t ∧ t < fr.n ∧ fr' = fr.put t v := by
  have hsu := evOp_sure h
  unfold evOp at h
  rw [hsu, Bool.not_true, cond_false] at h
  cases hw : wantedA ops fr o with
  | false => rw [hw, cond_false, dst_some] at h; exact ⟨_, h.2⟩
  | true =>
    rw [hw, cond_true, bind_some] at h
    obtain ⟨nx, s1, _, h⟩ := h
    cases nx with
    | value v => simp only [dst_some] at h; exact ⟨_, h.2⟩
    | skip => simp only [dst_some] at h; exact ⟨_, h.2⟩
    | known f args v => simp only [dst_some] at h; exact ⟨_, h.2⟩
    | enter f args =>
      simp only at h
      rw [bind_some] at h
      obtain ⟨v, s2, _, h⟩ := h
      rw [dst_some] at h; exact ⟨_, h.2⟩

theorem settled_spec {j : Nat} {b : Did} : ∀ {ds : List (Nat × Did)}, settled before j b ds = true → ∀ a, a ∈ ds → clash a.2 b = true → ordered before a.1 j = true
  | [], _, a, ha, _ => by simp at ha
  | d :: l, h, a, ha, hc => by
    unfold settled at h
    simp only [List.mem_cons] at ha
    cases hd : clash d.2 b with
    | false =>
      rw [hd, cond_false] at h
      rcases ha with rfl | ha
      · rw [hd] at hc; cases hc
      · exact settled_spec h a ha hc
    | true =>
      rw [hd, cond_true] at h
      cases ho : ordered before d.1 j with
      | false => rw [ho] at h; cases h
      | true =>
        rw [ho, cond_true] at h
        rcases ha with rfl | ha
        · exact ho
        · exact settled_spec h a ha hc

theorem meets_spec : ∀ {l k : List Nat}, meets l k = true ↔ ∃ x, x ∈ l ∧ x ∈ k
  | [], k => by simp [meets]
  | x :: l, k => by
    unfold meets
    cases h : k.any (Nat.beq x) with
    | true =>
      simp only [cond_true, true_iff]
      rw [List.any_eq_true] at h
      obtain ⟨y, hy, he⟩ := h
      have := Nat.eq_of_beq_eq_true he
      subst this
      exact ⟨x, by simp, hy⟩
    | false =>
      simp only [cond_false, meets_spec (l := l) (k := k)]
      constructor
      · rintro ⟨y, h1, h2⟩; exact ⟨y, by simp [h1], h2⟩
      · rintro ⟨y, h1, h2⟩
        simp only [List.mem_cons] at h1
        rcases h1 with rfl | h1
        · have : k.any (Nat.beq y) = true := List.any_eq_true.2 ⟨y, h2, Nat.beq_refl y⟩
          rw [this] at h; cases h
        · exact ⟨y, h1, h2⟩
theorem hasIn_spec {lo hi : Nat} : ∀ {l : List Nat}, hasIn lo hi l = true ↔ ∃ x, x ∈ l ∧ lo ≤ x ∧ x < hi
  | [] => by simp [hasIn]
  | x :: l => by
    unfold hasIn
    cases h : Nat.ble lo x && Nat.blt x hi with
    | true =>
      simp only [cond_true, true_iff]
      simp only [Bool.and_eq_true] at h
      exact ⟨x, by simp, Nat.le_of_ble_eq_true h.1, blt_lt h.2⟩
    | false =>
      simp only [cond_false, hasIn_spec (l := l)]
      constructor
      · rintro ⟨y, h1, h2⟩; exact ⟨y, by simp [h1], h2⟩
      · rintro ⟨y, h1, h2, h3⟩
        simp only [List.mem_cons] at h1
        rcases h1 with rfl | h1
        · have : (Nat.ble lo y && Nat.blt y hi) = true := by simp only [Bool.and_eq_true]; exact ⟨Nat.ble_eq_true_of_le h2, Nat.ble_eq_true_of_le h3⟩
          rw [this] at h; cases h
        · exact ⟨y, h1, h2, h3⟩

theorem clash_of {a b : Did} (h : (∃ x, x ∈ a.wlog ∧ x ∈ b.log) ∨ (∃ x, x ∈ b.wlog ∧ x ∈ a.log) ∨ ∃ x, x ∈ b.log ∧ a.lo ≤ x ∧ x < a.hi) : clash a b = true := by
  unfold clash
  rcases h with h | h | h
  · rw [meets_spec.2 h]; rfl
  · cases meets a.wlog b.log
    · rw [meets_spec.2 h]; rfl
    · rfl
  · cases meets a.wlog b.log
    · cases meets b.wlog a.log
      · have : Nat.beq a.lo a.hi = false := by
          obtain ⟨x, _, h1, h2⟩ := h
          cases hb : Nat.beq a.lo a.hi
          · rfl
          · have := Nat.eq_of_beq_eq_true hb; omega
        simp only [cond_false, this]
        exact hasIn_spec.2 h
      · rfl
    · rfl

theorem keep_old {i : Nat} {d : Did} {ds : List (Nat × Did)} {a : Nat × Did} (h : a ∈ ds) : a ∈ keep i d ds := by
  unfold keep
  split
  · cases Nat.beq d.lo d.hi <;> simp [h]
  · simp [h]
theorem keep_new {i : Nat} {d b : Did} {ds : List (Nat × Did)} (hsub : ∀ x, x ∈ d.wlog → x ∈ d.log) (hc : clash d b = true) : (i, d) ∈ keep i d ds := by
  unfold keep
  split
  · rename_i hl
    cases hb : Nat.beq d.lo d.hi with
    | false => simp
    | true =>
      exfalso
      unfold clash at hc
      have hw : d.wlog = [] := by
        cases hw : d.wlog with
        | nil => rfl
        | cons x l => have := hsub x (by rw [hw]; simp); rw [hl] at this; simp at this
      rw [hw, hl, hb] at hc
      have h1 : meets [] b.log = false := rfl
      have h2 : meets b.wlog [] = false := by
        cases h : meets b.wlog [] with
        | false => rfl
        | true => obtain ⟨x, _, hx⟩ := meets_spec.1 h; simp at hx
      rw [h1, h2] at hc
      cases hc
  · simp

theorem trace (hc : ∀ f args, Loc (call f args)) : ∀ (l : List Oper) (k : Nat) (ds : List (Nat × Did)) (fr fr' : Fr) (s s' : St), evDraw E call ops before l k ds fr s = some (fr', s') →
    ∃ (F : Nat → Fr) (R : Nat → Nat → Option Row) (N : Nat → Nat) (L W : Nat → List Nat),
      (F k = fr ∧ R k = s.rows.get ∧ N k = s.next) ∧ (F (k + l.length) = fr' ∧ R (k + l.length) = s'.rows.get ∧ N (k + l.length) = s'.next) ∧
      ∀ i o, l[i]? = some o → Stp E call ops o (F (k + i)) (F (k + i + 1)) (R (k + i)) (R (k + i + 1)) (N (k + i)) (N (k + i + 1)) (L (k + i)) (W (k + i)) ∧
        (∀ a, a ∈ ds → clash a.2 (didOf (N (k + i)) (N (k + i + 1)) (L (k + i)) (W (k + i))) = true → ordered before a.1 (k + i) = true) ∧
        (∀ j, j < i → clash (didOf (N (k + j)) (N (k + j + 1)) (L (k + j)) (W (k + j))) (didOf (N (k + i)) (N (k + i + 1)) (L (k + i)) (W (k + i))) = true → ordered before (k + j) (k + i) = true)
  | [], k, ds, fr, fr', s, s', h => by
    unfold evDraw at h
    rw [pure_some] at h
    obtain ⟨rfl, rfl⟩ := h
    exact ⟨fun _ => fr', fun _ => s'.rows.get, fun _ => s'.next, fun _ => [], fun _ => [], ⟨rfl, rfl, rfl⟩, ⟨rfl, rfl, rfl⟩, fun i o h => by simp at h⟩
  | o :: l, k, ds, fr, fr', s, s', h => by
    unfold evDraw at h
    rw [bind_some] at h
    obtain ⟨⟨fr1, d⟩, s1, h1, h2⟩ := h
    simp only at h2
    cases hst : settled before k d ds with
    | false => rw [hst, cond_false, fail_some] at h2; exact h2.elim
    | true =>
      rw [hst, cond_true] at h2
      obtain ⟨F, R, N, L, W, ⟨f1, f2, f3⟩, ⟨e1, e2, e3⟩, hall⟩ := trace hc l (k + 1) (keep k d ds) fr1 fr' s1 s' h2
      rw [M.watch_eq] at h1
      cases h3 : evOp E call ops o fr { s with log := [], wlog := [] } with
      | none => rw [h3] at h1; cases h1
      | some p =>
        obtain ⟨fr2, s2⟩ := p
        rw [h3] at h1
        simp only [Option.some.injEq, Prod.mk.injEq] at h1
        obtain ⟨⟨rfl, rfl⟩, rfl⟩ := h1
        obtain ⟨L0, W0, r⟩ := Loc.evOp E hc ops o fr _ _ _ h3
        have hlog : s2.log = L0 := by have := r.log; simpa using this
        have hwlog : s2.wlog = W0 := by have := r.wlog; simpa using this
        have hd : ({ lo := s.next, hi := s2.next, log := below s.next s2.log, wlog := below s.next s2.wlog } : Did) = didOf s.next s2.next L0 W0 := by rw [hlog, hwlog]; rfl
        rw [hd] at hst hall
        have hstp : Stp E call ops o fr fr2 s.rows.get s2.rows.get s.next s2.next L0 W0 := by
          refine ⟨r.next, r.sub, r.lt, r.same, evOp_dst h3, fun t hn hs => ?_⟩
          obtain ⟨t', a1, a2, _, _, a3⟩ := r.again t hn hs
          exact ⟨t', a1, a2, a3⟩
        have kl : k + (o :: l).length = k + 1 + l.length := by simp only [List.length_cons]; omega
        have hf1 : F (k + 1) = fr2 := f1
        have hf2 : R (k + 1) = s2.rows.get := f2
        have hf3 : N (k + 1) = s2.next := f3
        have nk : ∀ i, k + 1 + i ≠ k := fun i => by omega
        have nk2 : ∀ i, k + 1 + i + 1 ≠ k := fun i => by omega
        have n1 : k + 1 ≠ k := by omega
        refine ⟨fun i => if i = k then fr else F i, fun i => if i = k then s.rows.get else R i, fun i => if i = k then s.next else N i, fun i => if i = k then L0 else L i, fun i => if i = k then W0 else W i,
          ⟨by simp, by simp, by simp⟩, ⟨by rw [kl]; simp only [if_neg (nk _)]; exact e1, by rw [kl]; simp only [if_neg (nk _)]; exact e2, by rw [kl]; simp only [if_neg (nk _)]; exact e3⟩, fun i o' hi => ?_⟩
        cases i with
        | zero =>
          simp only [List.getElem?_cons_zero, Option.some.injEq] at hi
          subst hi
          simp only [Nat.add_zero, if_true, if_neg n1, hf1, hf2, hf3]
          exact ⟨hstp, fun a ha hcl => settled_spec hst a ha hcl, fun j hj => absurd hj (by omega)⟩
        | succ i =>
          rw [List.getElem?_cons_succ] at hi
          obtain ⟨g1, g2, g3⟩ := hall i o' hi
          have ki : k + (i + 1) = k + 1 + i := by omega
          simp only [ki, if_neg (nk i), if_neg (nk2 i)]
          refine ⟨g1, fun a ha hcl => g2 a (keep_old ha) hcl, fun j hj hcl => ?_⟩
          cases j with
          | zero =>
            simp only [Nat.add_zero, if_true, if_neg n1, hf3] at hcl ⊢
            exact g2 (k, _) (keep_new (fun x hx => by
              simp only [didOf, mem_below] at hx ⊢; exact ⟨r.sub x hx.1, hx.2⟩) hcl) hcl
          | succ j =>
            have kj : k + (j + 1) = k + 1 + j := by omega
            simp only [kj, if_neg (nk j), if_neg (nk2 j)] at hcl ⊢
            exact g3 j (by omega) hcl
end

/-- Of what stands now, that it is what the last of those did that were done. -/
def Last {α : Type} (X Wr : Nat → Prop) (V : Nat → α) (P : α → Prop) : Prop :=
  ((∀ j, X j → ¬ Wr j) → P (V 0)) ∧ ∀ j, X j → Wr j → (∀ k, X k → Wr k → k ≤ j) → P (V (j + 1))

theorem Last.at_ {α : Type} {X Wr : Nat → Prop} {V : Nat → α} {P : α → Prop} (h : Last X Wr V P) {m i : Nat} (hi : i ≤ m) (hs : ∀ j, j < m → ¬ Wr j → V (j + 1) = V j)
    (hx : ∀ j, j < m → Wr j → (X j ↔ j < i)) (hm : ∀ j, X j → j < m) : P (V i) := by
  have key : ∀ k, k ≤ i → (∀ j, X j → Wr j → j < k) → V k = V i → P (V i) := by
    intro k
    induction k with
    | zero => intro _ hw he; rw [← he]; exact h.1 fun j hj hwr => absurd (hw j hj hwr) (by omega)
    | succ k ih =>
      intro hk hw he
      by_cases hwk : Wr k
      · rw [← he]
        exact h.2 k ((hx k (by omega) hwk).2 (by omega)) hwk fun j hj hwr => by have := hw j hj hwr; omega
      · refine ih (by omega) (fun j hj hwr => ?_) (by rw [← he, hs k (by omega) hwk])
        have := hw j hj hwr
        rcases Nat.lt_or_ge j k with h | h
        · exact h
        · have : j = k := by omega
          subst this; exact absurd hwr hwk
  exact key i (Nat.le_refl _) (fun j hj hwr => (hx j (hm j hj) hwr).1 hj) rfl

theorem Last.step {α : Type} {X Wr : Nat → Prop} {V : Nat → α} {P P' : α → Prop} (h : Last X Wr V P) {i : Nat} (h1 : Wr i → P' (V (i + 1))) (h2 : ¬ Wr i → ∀ x, P x → P' x)
    (h3 : Wr i → ∀ j, X j → Wr j → j < i) : Last (fun j => X j ∨ j = i) Wr V P' := by
  constructor
  · intro hn
    exact h2 (hn i (Or.inr rfl)) _ (h.1 fun j hj => hn j (Or.inl hj))
  · intro j hj hwr hmax
    rcases hj with hj | rfl
    · by_cases hwi : Wr i
      · have a := hmax i (Or.inr rfl) hwi
        have b := h3 hwi j hj hwr
        omega
      · exact h2 hwi _ (h.2 j hj hwr fun k hk => hmax k (Or.inl hk))
    · exact h1 hwr
end Go.Cm
namespace Go.Cm
open Go Go.RowKit

/-! ### Before -/
def beforeStep (acc : Array Nat) (o : Oper) : Array Nat := acc.push (o.after.foldl (fun s e => if Region.binds .any e then s ||| 2 ^ e.on ||| acc.getD e.on 0 else s) 0)
theorem before_def (ops : Array Oper) : Region.before ops = ops.toList.foldl beforeStep #[] := by
  unfold Region.before; rw [← Array.foldl_toList]; rfl

theorem foldl_old : ∀ (l : List Oper) (A : Array Nat) (k : Nat), k < A.size → (l.foldl beforeStep A).getD k 0 = A.getD k 0
  | [], A, k, _ => rfl
  | o :: l, A, k, h => by
    rw [List.foldl_cons, foldl_old l _ k (by simp [beforeStep]; omega)]
    simp only [beforeStep, Array.getD_eq_getD_getElem?, Array.getElem?_push]
    rw [if_neg (by omega)]

theorem before_at : ∀ (l : List Oper) (A : Array Nat) (i : Nat) (o : Oper), l[i]? = some o → ∃ B : Array Nat, B.size = A.size + i ∧ (∀ k, k < B.size → B.getD k 0 = (l.foldl beforeStep A).getD k 0) ∧
    (l.foldl beforeStep A).getD (A.size + i) 0 = o.after.foldl (fun s e => if Region.binds .any e then s ||| 2 ^ e.on ||| B.getD e.on 0 else s) 0
  | [], A, i, o, h => by simp at h
  | p :: l, A, 0, o, h => by
    simp only [List.getElem?_cons_zero, Option.some.injEq] at h
    subst h
    refine ⟨A, rfl, fun k hk => (foldl_old _ _ k hk).symm, ?_⟩
    rw [List.foldl_cons, Nat.add_zero, foldl_old l _ A.size (by simp [beforeStep])]
    simp [beforeStep, Array.getD_eq_getD_getElem?]
  | p :: l, A, i + 1, o, h => by
    rw [List.getElem?_cons_succ] at h
    obtain ⟨B, b1, b2, b3⟩ := before_at l (beforeStep A p) i o h
    have hs : (beforeStep A p).size = A.size + 1 := by simp [beforeStep]
    refine ⟨B, by rw [b1, hs]; omega, fun k hk => by rw [List.foldl_cons]; exact b2 k hk, ?_⟩
    rw [List.foldl_cons, show A.size + (i + 1) = (beforeStep A p).size + i by rw [hs]; omega]
    exact b3

theorem fold_bit {B : Array Nat} {j : Nat} : ∀ (l : List Edge) (s : Nat), (l.foldl (fun s e => if Region.binds .any e then s ||| 2 ^ e.on ||| B.getD e.on 0 else s) s).testBit j = true →
    s.testBit j = true ∨ ∃ e, e ∈ l ∧ Region.binds .any e = true ∧ (e.on = j ∨ (B.getD e.on 0).testBit j = true)
  | [], s, h => Or.inl h
  | e :: l, s, h => by
    rw [List.foldl_cons] at h
    rcases fold_bit l _ h with h1 | ⟨e', h1, h2, h3⟩
    · cases hb : Region.binds .any e with
      | false => rw [hb] at h1; exact Or.inl (by simpa using h1)
      | true =>
        rw [hb] at h1
        simp only [if_true, Nat.testBit_or, Bool.or_eq_true] at h1
        rcases h1 with (h1 | h1) | h1
        · exact Or.inl h1
        · rw [Nat.testBit_two_pow] at h1
          exact Or.inr ⟨e, by simp, hb, Or.inl (of_decide_eq_true h1)⟩
        · exact Or.inr ⟨e, by simp, hb, Or.inr h1⟩
    · exact Or.inr ⟨e', by simp [h1], h2, h3⟩

theorem ordered_edge {ops : Array Oper} {i j : Nat} {o : Oper} (ho : ops[i]? = some o) (h : ordered (Region.before ops) j i = true) :
    ∃ e, e ∈ o.after ∧ Region.binds .any e = true ∧ (e.on = j ∨ (e.on < i ∧ ordered (Region.before ops) j e.on = true)) := by
  unfold ordered at h ⊢
  rw [before_def] at h ⊢
  obtain ⟨B, b1, b2, b3⟩ := before_at ops.toList #[] i o (by simpa using ho)
  simp only [Array.size_empty, Nat.zero_add] at b1 b3
  rw [b3, ← Array.foldl_toList] at h
  rcases fold_bit _ _ h with h1 | ⟨e, h1, h2, h3⟩
  · simp at h1
  · refine ⟨e, Array.mem_toList_iff.1 h1, h2, h3.imp id fun h3 => ?_⟩
    rcases Nat.lt_or_ge e.on i with hlt | hge
    · exact ⟨hlt, by rw [← b2 e.on (by omega)]; exact h3⟩
    · have : B.getD e.on 0 = 0 := by simp [Array.getD_eq_getD_getElem?, Array.getElem?_eq_none (by omega : B.size ≤ e.on)]
      rw [this] at h3; simp at h3

theorem ordered_closed {ops : Array Oper} {X : Nat → Prop} (hcl : ∀ j o, X j → ops[j]? = some o → ∀ e, e ∈ o.after → Region.binds .any e = true → X e.on) (hlt : ∀ j, X j → j < ops.size) {j : Nat} :
    ∀ (n i : Nat), i < n → X i → ordered (Region.before ops) j i = true → X j
  | 0, i, h, _, _ => absurd h (by omega)
  | n + 1, i, h, hx, ho => by
    obtain ⟨o, hoi⟩ : ∃ o, ops[i]? = some o := ⟨ops[i]'(hlt i hx), Array.getElem?_eq_getElem (hlt i hx)⟩
    obtain ⟨e, he, hb, hj⟩ := ordered_edge hoi ho
    have hxe := hcl i o hx hoi e he hb
    rcases hj with rfl | ⟨h1, h2⟩
    · exact hxe
    · exact ordered_closed hcl hlt n e.on (by omega) hxe h2

/-! ### What is asked of the order -/
theorem orderOkAt_spec {ops : Array Oper} {before : Array Nat} {o : Oper} {j : Nat} : ∀ (l : List Oper) (k : Nat), orderOkAt ops before o j l k = true →
    ∀ i p, l[i]? = some p → k + i < j → ordered before (k + i) j = true ∨ p.apart ops o = true
  | [], k, _, i, p, h, _ => by simp at h
  | q :: l, k, h, i, p, hi, hlt => by
    unfold orderOkAt at h
    have hb : Nat.blt k j = true := lt_blt0 (by omega)
    rw [hb, cond_true, Bool.and_eq_true] at h
    cases i with
    | zero =>
      simp only [List.getElem?_cons_zero, Option.some.injEq] at hi
      subst hi
      cases ho : ordered before k j with
      | true => exact Or.inl rfl
      | false => rw [ho] at h; exact Or.inr h.1
    | succ i =>
      rw [List.getElem?_cons_succ] at hi
      have := orderOkAt_spec l (k + 1) h.2 i p hi (by omega)
      rwa [show k + 1 + i = k + (i + 1) by omega] at this

theorem orderOk_spec {ops : Array Oper} {before : Array Nat} : ∀ (l : List Oper) (k : Nat), orderOk ops before l k = true →
    ∀ j o, l[j]? = some o → (∀ i p, ops[i]? = some p → i < k + j → ordered before i (k + j) = true ∨ p.apart ops o = true) ∧ ∀ e, e ∈ o.after → Region.binds .any e = true → e.on < k + j
  | [], k, _, j, o, h => by simp at h
  | q :: l, k, h, j, o, hj => by
    unfold orderOk at h
    simp only [Bool.and_eq_true] at h
    obtain ⟨⟨h1, h2⟩, h3⟩ := h
    cases j with
    | zero =>
      simp only [List.getElem?_cons_zero, Option.some.injEq] at hj
      subst hj
      refine ⟨fun i p hi hlt => ?_, fun e he hb => ?_⟩
      · have := orderOkAt_spec ops.toList 0 h1 i p (by simpa using hi) (by omega)
        simpa using this
      · rw [List.all_eq_true] at h2
        have := h2 e (by simpa using he)
        rw [hb] at this
        exact blt_lt0 this
    | succ j =>
      rw [List.getElem?_cons_succ] at hj
      have := orderOk_spec l (k + 1) h3 j o hj
      rwa [show k + 1 + j = k + (j + 1) by omega] at this

theorem Fr.get_put {fr : Fr} {d t : Nat} {v : Value} (hd : d < fr.n) (hle : fr.n ≤ 1024) : (fr.put d v).get t = if t = d then v else fr.get t := by
  rw [Fr.get_eq, Fr.get_eq, Fr.put_eq]
  show (bif Nat.blt t fr.n then FT.get 5 (FT.put 5 fr.t d v) t else undef) = _
  cases hb : Nat.blt t fr.n with
  | true =>
    have := blt_lt0 hb
    simp only [cond_true]
    rw [FT.get_put 5 fr.t d t v (by show d < 1024; omega) (by show t < 1024; omega)]
  | false =>
    have : t ≠ d := by rintro rfl; rw [lt_blt0 hd] at hb; cases hb
    rw [if_neg this]; rfl
end Go.Cm
