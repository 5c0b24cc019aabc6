/-
  Any operation, calls too.
-/
import Derived.Test.YtigeegdnhmgkbaaGreatCmO
namespace Go.Cm
open Go Go.RowKit

def NextRel (μ : Mu) : Nx → Next → Prop
  | .value v, .value v' => VRel μ v v'
  | .skip, .skip => True
  | .enter f args, .enter g args' => f = g ∧ VRels μ args args'.toList
  | _, _ => False

def ExecSim (E : Env) (base : Nat) (μ : Mu) (w : World) (s s' : St) (e : Sem Next) : Nx → Prop
  | .known f _ v => (∃ args v', VRel μ v v' ∧ Known E.P f args v' w ∧ e.run E.P w = (callFunc f args).run E.P w) ∧ s'.rows = s.rows ∧ s'.next = s.next
  | nx => Does E base μ w s s' e fun μ' b => NextRel μ' nx b

section
variable {E : Env} (ok : E.Ok) {base : Nat} {μ : Mu} {w : World} {s s' : St}

theorem sim_value {e : Sem Value} {m : M Value} {nx : Nx} (h : asV m s = some (nx, s')) (hd : ∀ v, m s = some (v, s') → Does E base μ w s s' e fun μ' b => VRel μ' v b) :
    ExecSim E base μ w s s' (do pure (.value (← e))) nx := by
  unfold asV at h
  rw [bind_some] at h
  obtain ⟨v, s1, h1, h2⟩ := h
  rw [pure_some] at h2
  obtain ⟨rfl, rfl⟩ := h2
  obtain ⟨b, w', μ', hr, hv, a, c⟩ := hd v h1
  exact ⟨.value b, w', μ', by simp only [Sem.run_bind, hr, Result.andThen_ok, Sem.run_pure], hv, a, c⟩

theorem sim_unit {e : Sem Unit} {m : M Unit} {nx : Nx} (h : asU m s = some (nx, s')) (hd : m s = some ((), s') → Does E base μ w s s' e fun _ _ => True) :
    ExecSim E base μ w s s' (do e; pure .skip) nx := by
  unfold asU at h
  rw [bind_some] at h
  obtain ⟨⟨⟩, s1, h1, h2⟩ := h
  rw [pure_some] at h2
  obtain ⟨rfl, rfl⟩ := h2
  obtain ⟨b, w', μ', hr, hv, a, c⟩ := hd h1
  exact ⟨.skip, w', μ', by simp only [Sem.run_bind, hr, Result.andThen_ok, Sem.run_pure], trivial, a, c⟩

theorem one_some {f : TypeId → Value → M Value} {ts : List TypeId} {args : List Value} {p : Value × St} (h : one f ts args s = some p) : ∃ t x, ts[0]? = some t ∧ args[0]? = some x ∧ f t x s = some p := by
  unfold one at h
  split at h
  · split at h
    · exact ⟨_, _, rfl, rfl, h⟩
    · rw [fail_some] at h; exact h.elim
  · rw [fail_some] at h; exact h.elim
theorem two_some {f : TypeId → TypeId → Value → Value → M Value} {ts : List TypeId} {args : List Value} {p : Value × St} (h : two f ts args s = some p) :
    ∃ t u x y, ts[0]? = some t ∧ ts[1]? = some u ∧ args[0]? = some x ∧ args[1]? = some y ∧ f t u x y s = some p := by
  unfold two at h
  split at h
  · split at h
    · exact ⟨_, _, _, _, rfl, rfl, rfl, rfl, h⟩
    · rw [fail_some] at h; exact h.elim
  · rw [fail_some] at h; exact h.elim

include ok
theorem sim_builtin {b : Builtin} {ts : Array TypeId} {ty : TypeId} {consts : Array Bool} {args : List Value} {args' : Array Value} {nx : Nx} (h : asV (builtinA E b ts ty args) s = some (nx, s')) (hv : VRels μ args args'.toList)
    (hs : SRel base μ s.rows.get w) (hf : ∀ r, s.next ≤ r → r < s'.next → μ r = none) (hsy : μ.sy = E.sy) : ExecSim E base μ w s s' (builtin b ts ty consts args') nx := by
  have arg : ∀ (i : Nat) (x : Value), args[i]? = some x → ∃ x', args'[i]? = some x' ∧ VRel μ x x' := by
    intro i x hx
    obtain ⟨x', h1, h2⟩ := hv.get i x hx
    exact ⟨x', by rwa [Array.getElem?_toList] at h1, h2⟩
  have pl : ∀ v, Does E base μ w s s' (pure v) (fun μ' b => VRel μ' v b) → True := fun _ _ => trivial
  clear pl
  unfold builtin
  cases b <;> (try (unfold asV builtinA at h; rw [bind_some] at h; obtain ⟨_, _, h, _⟩ := h; rw [fail_some] at h; exact h.elim)) <;> simp only
  · refine sim_value h fun v h => ?_
    obtain ⟨t, u, x, y, h1, h2, h3, h4, h5⟩ := two_some h
    obtain ⟨x', a1, a2⟩ := arg 0 x h3
    obtain ⟨y', b1, b2⟩ := arg 1 y h4
    exact does_append ok h5 (by rwa [Array.getElem?_toList] at h1) (by rwa [Array.getElem?_toList] at h2) a1 b1 a2 b2 hs hf
  · refine sim_value h fun v h => ?_
    obtain ⟨t, x, h1, h2, h3⟩ := one_some h
    obtain ⟨x', a1, a2⟩ := arg 0 x h2
    obtain ⟨hc, rfl⟩ := lift_some.1 h3
    obtain ⟨v', hr, hvr⟩ := does_cap ok (w := w) (ty := ty) hc (by rwa [Array.getElem?_toList] at h1) a1 a2
    exact ⟨v', w, μ, hr, hvr, hs, Grew.refl _ _ _ _ _⟩
  · refine sim_value h fun v h => ?_
    obtain ⟨t, x, h1, h2, h3⟩ := one_some h
    obtain ⟨x', a1, a2⟩ := arg 0 x h2
    exact does_clear ok h3 (by rwa [Array.getElem?_toList] at h1) a1 a2 hs
  · refine sim_value h fun v h => ?_
    obtain ⟨t, u, x, y, h1, h2, h3, h4, h5⟩ := two_some h
    obtain ⟨x', a1, a2⟩ := arg 0 x h3
    obtain ⟨y', b1, b2⟩ := arg 1 y h4
    exact does_copy ok h5 (by rwa [Array.getElem?_toList] at h1) a1 b1 a2 b2 hs
  · refine sim_value h fun v h => ?_
    obtain ⟨t, u, x, y, h1, h2, h3, h4, h5⟩ := two_some h
    obtain ⟨x', a1, a2⟩ := arg 0 x h3
    obtain ⟨y', b1, b2⟩ := arg 1 y h4
    exact does_delete ok h5 (by rwa [Array.getElem?_toList] at h1) a1 b1 a2 b2 hs
  · refine sim_value h fun v h => ?_
    obtain ⟨t, x, h1, h2, h3⟩ := one_some h
    obtain ⟨x', a1, a2⟩ := arg 0 x h2
    exact does_len ok h3 (by rwa [Array.getElem?_toList] at h1) a1 a2 hs hsy
  · refine sim_value h fun v h => ?_
    simp only [builtinA, guard_bind, lift_some, plainly_some] at h
    obtain ⟨hp, ⟨h1, h2⟩, rfl⟩ := h
    have := VRels.eq hp hv
    have he : args' = ⟨args⟩ := by cases args'; simp at this; rw [this]
    subst he
    exact ⟨v, w, μ, pureRun_ok _ _ h1 w, .plain v h2, hs, Grew.refl _ _ _ _ _⟩
  · refine sim_value h fun v h => ?_
    simp only [builtinA, guard_bind, lift_some, plainly_some] at h
    obtain ⟨hp, ⟨h1, h2⟩, rfl⟩ := h
    have := VRels.eq hp hv
    have he : args' = ⟨args⟩ := by cases args'; simp at this; rw [this]
    subst he
    exact ⟨v, w, μ, pureRun_ok _ _ h1 w, .plain v h2, hs, Grew.refl _ _ _ _ _⟩

theorem sim_call {f : FuncId} {args : List Value} {args' : Array Value} {nx : Nx} (h : callA E f args s = some (nx, s')) (hv : VRels μ args args'.toList) (hs : SRel base μ s.rows.get w) (hsy : μ.sy = E.sy) :
    ExecSim E base μ w s s' (callFunc f args') nx := by
  unfold callA at h
  cases he : E.ext f with
  | some e =>
    simp only [he, guard_bind, lift_bind, pure_some] at h
    obtain ⟨hp, v, hv2, rfl, rfl⟩ := h
    have := VRels.eq hp hv
    have ha : args' = ⟨args⟩ := by cases args'; simp at this; rw [this]
    subst ha
    obtain ⟨h1, h2⟩ := ok.ext f e args v he hp hv2
    exact ⟨⟨_, v, .plain _ h1, h2 w, rfl⟩, rfl, rfl⟩
  | none =>
    simp only [he] at h
    cases hk : (E.kt f).bind (fun e => e args) with
    | some v =>
      simp only [hk, pure_some] at h
      obtain ⟨rfl, rfl⟩ := h
      rw [Option.bind_eq_some_iff] at hk
      obtain ⟨e, he1, he2⟩ := hk
      obtain ⟨v', h1, h2⟩ := ok.kt f e args v μ args' w he1 he2 hsy hs.cold hv
      exact ⟨⟨_, v', (hsy ▸ h1 : TokV μ.sy v v').rel, h2, rfl⟩, rfl, rfl⟩
    | none =>
    simp only [hk, lift_bind, pure_some] at h
    obtain ⟨fn, hfn, rfl, rfl⟩ := h
    obtain ⟨h1, h2, h3⟩ := ok.fn f fn hfn
    refine ⟨.enter f args', w, μ, ?_, ⟨rfl, hv⟩, hs, Grew.refl _ _ _ _ _⟩
    unfold callFunc
    have hname : (fn.name == "runtime.NumGoroutine") = false := by simpa using h2
    have hbody : fn.body.isNone = false := by cases hb : fn.body <;> simp_all
    simp only [Sem.run_bind, run_program, Result.andThen_ok, h1, hname, Bool.false_eq_true, if_false, hbody, Sem.run_pure]

theorem does_exec {ρ ρ' : Operand → Value} {o : Oper} {nx : Nx} (h : execA E ρ o s = some (nx, s')) (hρ : ∀ x ∈ o.op.operands, VRel μ (ρ x) (ρ' x)) (hs : SRel base μ s.rows.get w) (hf : ∀ r, s.next ≤ r → r < s'.next → μ r = none) (hsy : μ.sy = E.sy) (hez : ∀ b o, E.fz b = some o → μ.fz b = some o) :
    ExecSim E base μ w s s' (execOp ρ' o) nx := by
  have other : (asV (M.lift (valueA E ρ o.op)) : M Nx) s = some (nx, s') → ExecSim E base μ w s s' (execOp ρ' o) nx := by
    intro h
    unfold asV at h
    simp only [lift_bind, pure_some] at h
    obtain ⟨v, hv, rfl, rfl⟩ := h
    obtain ⟨v', hr, hv'⟩ := does_value ok (w := w) hv hρ hsy
    exact ⟨.value v', w, μ, hr, hv', hs, Grew.refl _ _ _ _ _⟩
  obtain ⟨dst, op, ty, pos, after, guard⟩ := o
  simp only at hρ other
  unfold execA at h
  unfold execOp at other ⊢
  simp only at h other ⊢
  cases op
  case alloc t =>
    exact sim_value h fun v h => does_alloc ok h hs hf
  case box t x =>
    simp only at h
    cases hj : isJunk (ρ x) with
    | true => rw [hj, cond_true, fail_some] at h; exact h.elim
    | false =>
      rw [hj, cond_false] at h
      exact sim_value h fun v h => does_box hj h (hρ x (by simp [Op.operands])) hs hf
  case buildSlice t len ps =>
    refine sim_value h fun v h => does_buildSlice ok h ?_ hs hf
    rw [Array.toList_map]
    exact prels_of ps.toList fun p hp => hρ p.2 (by simp only [Op.operands, List.mem_toArray, List.mem_map]; exact ⟨p, hp, rfl⟩)
  case load t a =>
    exact sim_value h fun v h => does_load ok h (hρ a (by simp [Op.operands])) hs
  case store t a x =>
    exact sim_unit h fun h => does_store ok h (hρ a (by simp [Op.operands])) (hρ x (by simp [Op.operands])) hs
  case lookup t x i c =>
    exact sim_value h fun v h => does_lookup ok h (hρ x (by simp [Op.operands])) (hρ i (by simp [Op.operands])) hs
  case mapUpdate t m k v =>
    exact sim_unit h fun h => does_update ok h (hρ m (by simp [Op.operands])) (hρ k (by simp [Op.operands])) (hρ v (by simp [Op.operands])) hs
  case makeMap t r =>
    cases r with
    | none => exact sim_value h fun v h => does_makeMap h hs hf
    | some r => exact other h
  case convert a d x =>
    exact sim_value h fun v h => does_convert ok h (hρ x (by simp [Op.operands])) hs hf hsy hez
  case makeSlice t l c =>
    refine sim_value h fun v h => ?_
    have h' := h
    unfold makeSliceA at h'
    simp only [lift_bind] at h'
    obtain ⟨e, _, i, _, m, hm, n, hn, _⟩ := h'
    obtain ⟨k1, hk1⟩ := idx_some.1 hm
    obtain ⟨k2, hk2⟩ := idx_some.1 hn
    have e1 := hρ l (by simp [Op.operands])
    have e2 := hρ c (by simp [Op.operands])
    rw [hk1] at e1; rw [hk2] at e2
    rw [e1.ofInt, e2.ofInt]
    rw [hk1, hk2] at h
    exact does_makeSlice ok h hs hf
  case range t x =>
    exact sim_value h fun v h => does_range ok h (hρ x (by simp [Op.operands])) hs hf
  case next it b =>
    exact sim_value h fun v h => does_next h (hρ it (by simp [Op.operands])) hs
  case call c =>
    unfold opCallA at h
    have hargs : VRels μ (c.args.toList.map ρ) (c.args.map ρ').toList := by
      rw [Array.toList_map]
      exact vrels_of _ fun x hx => hρ x (by simp only [Op.operands, Call.operands, Array.mem_append]; exact Or.inr (Array.mem_toList_iff.1 hx))
    cases hb : c.callee with
    | builtin b =>
      simp only [hb] at h
      have hres : resolve ρ' c ty = pure { target := .builtin b c.argTypes ty (c.args.map fun | .const _ => true | _ => false), args := c.args.map ρ' } := by
        unfold resolve; rw [hb]; rfl
      show ExecSim E base μ w s s' (do let d ← resolve ρ' c ty; invoke d.target d.args) nx
      rw [hres]
      exact sim_builtin ok h hargs hs hf hsy
    | value f =>
      simp only [hb, lift_bind] at h
      obtain ⟨⟨g, first, captured⟩, hg, h⟩ := h
      have hfv := hρ f (by simp only [Op.operands, Call.operands, hb, Array.mem_append]; exact Or.inl (by simp))
      have : ∃ a c2, ρ f = .func (.func g) a c2 ∧ first = a.toList ∧ captured = c2.toList := by
        unfold asFunc at hg
        split at hg
        · rename_i g' a c2 he
          simp only [Option.some.injEq, Prod.mk.injEq] at hg
          obtain ⟨rfl, rfl, rfl⟩ := hg
          exact ⟨a, c2, he, rfl, rfl⟩
        · cases hg
      obtain ⟨a, c2, he, rfl, rfl⟩ := this
      rw [he] at hfv
      obtain ⟨a', c', hfv', ha, hc⟩ := hfv.ofFunc
      have hall : VRels μ (a.toList ++ (c.args.toList.map ρ ++ c2.toList)) ((a' ++ c.args.map ρ') ++ c').toList := by
        simp only [Array.toList_append, List.append_assoc]
        exact ha.append (hargs.append hc)
      have hres : resolve ρ' c ty = pure { target := .fn (.func g) c', args := a' ++ c.args.map ρ' } := by
        unfold resolve; rw [hb]; simp only; rw [hfv']; rfl
      show ExecSim E base μ w s s' (do let d ← resolve ρ' c ty; invoke d.target d.args) nx
      rw [hres]
      exact sim_call ok h hall hs hsy
    | invoke r n => simp only [hb] at h; rw [fail_some] at h; exact h.elim
  all_goals exact other h
end
end Go.Cm
