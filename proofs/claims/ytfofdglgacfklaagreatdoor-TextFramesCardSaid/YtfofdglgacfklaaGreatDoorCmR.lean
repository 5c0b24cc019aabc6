/-
  What of code is asked before it runs; and a region that draws no order.
-/
import Derived.Test.YtfofdglgacfklaaGreatDoorCmQ
import Derived.Orders
import Derived.Scope
namespace Go.Cm
open Go Go.RowKit

noncomputable def operOk (E : Env) : Operand → Bool
  | .tmp _ => true
  | .const v => plain v
  | .global g => E.glob g
  | .func _ => true
noncomputable def opOk (E : Env) (o : Oper) : Bool := o.op.operands.toList.all (operOk E)

noncomputable def orderOkAt (ops : Array Oper) (before : Array Nat) (o : Oper) (j : Nat) : List Oper → Nat → Bool
  | [], _ => true
  | p :: l, i => bif Nat.blt i j then (bif ordered before i j then true else p.apart ops o) && orderOkAt ops before o j l (Nat.succ i) else true
noncomputable def orderOk (ops : Array Oper) (before : Array Nat) : List Oper → Nat → Bool
  | [], _ => true
  | o :: l, j => orderOkAt ops before o j ops.toList 0 && (o.after.toList.all fun e => !Region.binds .any e || Nat.blt e.on j) && orderOk ops before l (Nat.succ j)

noncomputable def codeOk (E : Env) : Code → Bool
  | .region _ ops draw => ops.toList.all (opOk E) && (bif draw then orderOk ops (Region.before ops) ops.toList 0 else true)
  | .seq a b => codeOk E a && codeOk E b
  | .cond c a b => operOk E c && codeOk E a && codeOk E b
  | .block _ c => codeOk E c
  | .loop c => codeOk E c
  | .scope c => codeOk E c
  | _ => true

section
variable {E : Env} {base : Nat} {μ : Mu} {w : World} {s s' : St}

theorem eval_rel {fr : Fr} {a : Act} {x : Operand} (hx : operOk E x = true) (hgl : Globs E μ) (ht : ∀ t, x = .tmp t → VRel μ (fr.get t) (a.tmps.getD t undef)) : VRel μ (fr.eval x) (a.eval x) := by
  cases x with
  | tmp t => exact ht t rfl
  | const v => exact .plain v hx
  | global g =>
    obtain ⟨e, z, ty, hz⟩ := hgl.1 g hx
    exact .ptr g 0 ⟨g, 0, e, z, ty⟩ hz
  | func f => exact .func _ _ _ _ _ .nil .nil

theorem wanted_same {fr : Fr} {a : Act} {ops : Array Oper} {o : Oper} (hsu : sureA ops fr o = true) (h : ∀ j want g d, o.guard = some (j, want) → ops[j]? = some g → g.dst = some d → VRel μ (fr.get d) (a.tmps.getD d undef)) :
    wantedA ops fr o = Region.wanted o (yielded ops a.tmps) := by
  unfold wantedA Region.wanted
  cases hg : o.guard with
  | none => rfl
  | some p =>
    obtain ⟨j, want⟩ := p
    simp only
    unfold yielded
    cases ho : ops[j]? with
    | none => simp
    | some g =>
      simp only [Option.bind_some]
      cases hd : g.dst with
      | none => simp
      | some d =>
        simp only [Option.bind_some]
        have hr := h j want g d hg ho hd
        cases ht : a.tmps[d]? with
        | none =>
          have : a.tmps.getD d undef = undef := by simp [Array.getD_eq_getD_getElem?, ht]
          rw [this] at hr
          split
          · rename_i b hb
            rw [hb] at hr
            have := hr.ofBool
            cases this
          · simp
        | some u =>
          have : a.tmps.getD d undef = u := by simp [Array.getD_eq_getD_getElem?, ht]
          rw [this] at hr
          split
          · rename_i b hb
            rw [hb] at hr
            have := hr.ofBool
            subst this
            cases b <;> cases want <;> rfl
          · rename_i hne
            cases u with
            | bool b => exact absurd (hr.toBool (by unfold sureA at hsu; simp only [hg, ho, hd, Bool.not_eq_true'] at hsu; exact hsu)) (hne b)
            | _ => simp

theorem FRel.dst {fr fr' : Fr} {a : Act} {d : Option Tmp} {v v' : Value} (h : FRel μ fr a.tmps) (hv : VRel μ v v') (hd : (d = none ∧ fr' = fr) ∨ ∃ t, d = some t ∧ t < fr.n ∧ fr' = fr.put t v) : FRel μ fr' (a.put d v').tmps := by
  rcases hd with ⟨rfl, rfl⟩ | ⟨t, rfl, ht, rfl⟩
  · exact h
  · exact h.put ht hv

theorem put_defers (a : Act) (d : Option Tmp) (v : Value) : (a.put d v).defers = a.defers := by cases d <;> rfl

theorem sim_ops (ok : E.Ok) {call : FuncId → List Value → M Value} (hcall : CallSim E base call) {ops : Array Oper} {Q : Exit → Act → World → Prop} :
    ∀ (l : List Oper) (k : Nat) (fr fr' : Fr) (a : Act) (s s' : St) (μ : Mu) (w : World), ops.toList.drop k = l → evOps E call ops l fr s = some (fr', s') → (∀ o ∈ l, opOk E o = true) → FRel μ fr a.tmps →
      SRel base μ s.rows.get w → Globs E μ → (∀ r, s.next ≤ r → r < s'.next → μ r = none) →
      (∀ μ' a' w', FRel μ' fr' a'.tmps → a'.defers = a.defers → SRel base μ' s'.rows.get w' → Grew base μ μ' s.next s'.next w w' → Q .normal a' w') →
      wpOps E.P ops Q (List.range' k l.length) a w
  | [], k, fr, fr', a, s, s', μ, w, _, h, _, hfr, hs, hgl, hf, hQ => by
    unfold evOps at h
    rw [pure_some] at h
    obtain ⟨rfl, rfl⟩ := h
    exact hQ μ a w hfr rfl hs (Grew.refl _ _ _ _ _)
  | o :: l, k, fr, fr', a, s, s', μ, w, hk, h, hok, hfr, hs, hgl, hf, hQ => by
    unfold evOps at h
    rw [bind_some] at h
    obtain ⟨fr1, s1, h1, h2⟩ := h
    obtain ⟨L, W, r1⟩ := Loc.evOp E hcall.1 ops o fr s fr1 s1 h1
    obtain ⟨L2, W2, r2⟩ := Loc.evOps E hcall.1 ops l fr1 s1 fr' s' h2
    have n1 := r1.next
    have n2 := r2.next
    have hk0 : ops[k]? = some o := by
      have : (ops.toList.drop k)[0]? = some o := by rw [hk]; rfl
      simpa using this
    have hk1 : ops.toList.drop (k + 1) = l := by
      rw [← List.tail_drop, hk]; rfl
    show wpOps E.P ops Q (k :: List.range' (k + 1) l.length) a w
    rw [wpOps_cons]
    refine sim_op ok hcall hk0 h1 ?_ ?_ hs hgl (fun r hr hr' => hf r hr (by omega)) fun v v' μ1 w1 hd hv hs1 hg1 => ?_
    · intro x hx
      have := hok o (by simp)
      unfold opOk at this
      rw [List.all_eq_true] at this
      exact eval_rel (this x (by simpa using hx)) hgl fun t _ => hfr.get t
    · exact wanted_same (μ := μ) (evOp_sure h1) fun j want g d _ _ _ => hfr.get d
    · refine sim_ops ok hcall l (k + 1) fr1 fr' _ s1 s' μ1 w1 hk1 h2 (fun o ho => hok o (by simp [ho])) ((hfr.mono hg1.le).dst hv hd) hs1 (hgl.mono hg1.le) ?_ ?_
      · intro r hr hr'
        have h0 := hf r (by omega) hr'
        rcases hμ : μ1 r with _ | L
        · rfl
        · have := hg1.new r h0 (by rw [hμ]; simp)
          omega
      · intro μ' a' w' h1 h2 h3 h4
        exact hQ μ' a' w' h1 (by rw [h2, put_defers]) h3 (hg1.trans h4 n1 n2)
end
end Go.Cm
