/-
  An operation in its region, of any order: one step.
-/
import Derived.Test.YtfofdglgacfklaaGreatDoorCmP
namespace Go.Cm
open Go Go.RowKit

/-- The globals that are looked at are rows of their own. -/
def Globs (E : Env) (μ : Mu) : Prop := (∀ g, E.glob g = true → ∃ e z ty, μ g = some ⟨g, 0, e, z, ty⟩) ∧ μ.sy = E.sy ∧ ∀ b o, E.fz b = some o → μ.fz b = some o
theorem Globs.mono {E : Env} {μ μ' : Mu} (h : Globs E μ) (hm : μ.le μ') : Globs E μ' := ⟨fun g hg => let ⟨e, z, ty, hz⟩ := h.1 g hg; ⟨e, z, ty, hm _ _ hz⟩, hm.sy.trans h.2.1, fun b o e => hm.fz b o (h.2.2 b o e)⟩

/-- What a call answers, the model's answers. -/
def CallSim (E : Env) (base : Nat) (call : FuncId → List Value → M Value) : Prop :=
  (∀ f args, Loc (call f args)) ∧
  ∀ f args v s s' μ w args', call f args s = some (v, s') → VRels μ args args'.toList → SRel base μ s.rows.get w → Globs E μ → (∀ r, s.next ≤ r → r < s'.next → μ r = none) →
    Calls E.P f args' w fun e w' => ∃ v' μ', e = .returned v' ∧ VRel μ' v v' ∧ SRel base μ' s'.rows.get w' ∧ Grew base μ μ' s.next s'.next w w'

theorem dst_some {fr fr' : Fr} {d : Option Tmp} {v : Value} {s s' : St} : fr.dst d v s = some (fr', s') ↔ s' = s ∧ ((d = none ∧ fr' = fr) ∨ ∃ t, d = some t ∧ t < fr.n ∧ fr' = fr.put t v) := by
  unfold Fr.dst
  cases d with
  | none => simp only [pure_some]; constructor
            · rintro ⟨rfl, rfl⟩; exact ⟨rfl, .inl ⟨trivial, rfl⟩⟩
            · rintro ⟨rfl, ⟨_, rfl⟩ | ⟨t, h, _⟩⟩
              · exact ⟨rfl, rfl⟩
              · cases h
  | some t =>
    cases hb : Nat.blt t fr.n with
    | false =>
      simp only [hb, cond_false, fail_some, false_iff]
      rintro ⟨_, ⟨h, _⟩ | ⟨u, h, hu, _⟩⟩
      · cases h
      · injection h with h; subst h
        have : Nat.blt t fr.n = true := Nat.ble_eq_true_of_le hu
        rw [this] at hb; cases hb
    | true =>
      simp only [hb, cond_true, pure_some]
      constructor
      · rintro ⟨rfl, rfl⟩; exact ⟨rfl, .inr ⟨t, rfl, blt_lt hb, rfl⟩⟩
      · rintro ⟨rfl, ⟨h, _⟩ | ⟨u, h, hu, rfl⟩⟩
        · cases h
        · injection h with h; subst h; exact ⟨rfl, rfl⟩

section
variable {E : Env} (ok : E.Ok) {base : Nat} {μ : Mu} {w : World} {s s' : St}

theorem evOp_sure {call : FuncId → List Value → M Value} {ops : Array Oper} {o : Oper} {fr fr' : Fr} {s s' : St} (h : evOp E call ops o fr s = some (fr', s')) : sureA ops fr o = true := by
  unfold evOp at h
  cases hsu : sureA ops fr o with
  | false => rw [hsu, Bool.not_false, cond_true, fail_some] at h; exact h.elim
  | true => rfl
theorem known_wp {o : Oper} {f : FuncId} {args : Array Value} {v : Value} {a : Act} {K : Act → World → Prop} {Q : Exit → Act → World → Prop}
    (h : Known E.P f args v w) (hr : (execOp a.eval o).run E.P w = (callFunc f args).run E.P w) (hs : SRel base μ s.rows.get w)
    (hK : ∀ w', SRel base μ s.rows.get w' → Grew base μ μ s.next s.next w w' → K (a.put o.dst v) w') : o.wp E.P a w K Q := by
  unfold Oper.wp
  rw [hr]
  have fin : ∀ w', Below w.heap.size w w' → K (a.put o.dst v) w' := fun w' hb =>
    hK w' (hs.grow hb) ⟨Mu.le_refl _, fun _ h h' => absurd h h', fun _ h h' => absurd h h', hb.mono hs.ge⟩
  rcases h with ⟨w', h1, h2⟩ | ⟨h1, h2⟩
  · rw [h1]; exact fin w' h2
  · rw [h1]
    refine Calls.mono h2 fun e w' ⟨he, hb⟩ => ?_
    subst he
    exact fin w' hb

include ok
theorem sim_op {call : FuncId → List Value → M Value} (hcall : CallSim E base call) {ops : Array Oper} {o : Oper} {fr fr' : Fr} {a : Act} {i : Nat} (ho : ops[i]? = some o)
    (h : evOp E call ops o fr s = some (fr', s')) (hops : ∀ x ∈ o.op.operands, VRel μ (fr.eval x) (a.eval x)) (hg : wantedA ops fr o = Region.wanted o (yielded ops a.tmps))
    (hs : SRel base μ s.rows.get w) (hgl : Globs E μ) (hf : ∀ r, s.next ≤ r → r < s'.next → μ r = none) {K : Act → World → Prop} {Q : Exit → Act → World → Prop}
    (hK : ∀ v v' μ' w', ((o.dst = none ∧ fr' = fr) ∨ ∃ t, o.dst = some t ∧ t < fr.n ∧ fr' = fr.put t v) → VRel μ' v v' → SRel base μ' s'.rows.get w' → Grew base μ μ' s.next s'.next w w' → K (a.put o.dst v') w') :
    wpOp E.P ops Q i K a w := by
  unfold wpOp
  rw [ho]
  simp only
  unfold evOp at h
  cases hsu : sureA ops fr o with
  | false => rw [hsu, Bool.not_false, cond_true, fail_some] at h; exact h.elim
  | true =>
  rw [hsu, Bool.not_true, cond_false] at h
  rw [← hg]
  cases hw : wantedA ops fr o with
  | false =>
    rw [hw] at h
    simp only [cond_false, dst_some] at h
    obtain ⟨rfl, h⟩ := h
    simp only [Bool.false_eq_true, if_false]
    exact hK undef undef μ w h (.plain _ rfl) hs (Grew.refl _ _ _ _ _)
  | true =>
    rw [hw] at h
    simp only [cond_true] at h
    simp only [if_true]
    left
    rw [bind_some] at h
    obtain ⟨nx, s1, h1, h2⟩ := h
    have hl1 : s1.next ≤ s'.next := by
      obtain ⟨L, W, r1⟩ := Loc.execA E fr.eval o s nx s1 h1
      cases nx with
      | value v => simp only [dst_some] at h2; obtain ⟨rfl, _⟩ := h2; exact Nat.le_refl _
      | skip => simp only [dst_some] at h2; obtain ⟨rfl, _⟩ := h2; exact Nat.le_refl _
      | known f args v => simp only [dst_some] at h2; obtain ⟨rfl, _⟩ := h2; exact Nat.le_refl _
      | enter f args =>
        simp only at h2
        rw [bind_some] at h2
        obtain ⟨v, s2, h3, h4⟩ := h2
        obtain ⟨L2, W2, r2⟩ := hcall.1 f args s1 v s2 h3
        rw [dst_some] at h4
        obtain ⟨rfl, _⟩ := h4
        exact r2.next
    have hx := does_exec ok h1 hops hs (fun r hr hr' => hf r hr (by omega)) hgl.2.1 hgl.2.2
    cases nx with
    | value v =>
      simp only [dst_some] at h2
      obtain ⟨rfl, h2⟩ := h2
      obtain ⟨b, w', μ', hr, hn, hs', hgr⟩ := hx
      cases b with
      | value v' =>
        show Oper.wp _ _ _ _ _ _
        unfold Oper.wp
        rw [hr]
        exact hK v v' μ' w' h2 hn hs' hgr
      | _ => exact hn.elim
    | skip =>
      simp only [dst_some] at h2
      obtain ⟨rfl, h2⟩ := h2
      obtain ⟨b, w', μ', hr, hn, hs', hgr⟩ := hx
      cases b with
      | skip =>
        unfold Oper.wp
        rw [hr]
        exact hK undef undef μ' w' h2 (.plain _ rfl) hs' hgr
      | _ => exact hn.elim
    | known f args v =>
      simp only [dst_some] at h2
      obtain ⟨rfl, h2⟩ := h2
      obtain ⟨⟨_, v', hp, hk, hr⟩, hrows, hnext⟩ := hx
      refine known_wp (base := base) (μ := μ) (s := s) hk hr hs fun w' hs' hgr => ?_
      refine hK v v' μ w' h2 hp (by rw [hrows]; exact hs') ⟨hgr.le, fun r h h' => absurd h h', hgr.fzn, hgr.below⟩
    | enter f args =>
      simp only at h2
      rw [bind_some] at h2
      obtain ⟨v, s2, h3, h4⟩ := h2
      rw [dst_some] at h4
      obtain ⟨rfl, h4⟩ := h4
      obtain ⟨b, w', μ', hr, hn, hs', hgr⟩ := hx
      obtain ⟨L, W, r1⟩ := Loc.execA E fr.eval o s _ s1 h1
      obtain ⟨L2, W2, r2⟩ := hcall.1 f args s1 v s' h3
      cases b with
      | enter g args' =>
        obtain ⟨rfl, hn⟩ := hn
        unfold Oper.wp
        rw [hr]
        have hc := hcall.2 f args v s1 s' μ' w' args' h3 hn hs' (hgl.mono hgr.le) (fun r hr1 hr2 => by
          have n1 := r1.next
          have h0 := hf r (by omega) hr2
          rcases hμ : μ' r with _ | L
          · rfl
          · have := hgr.new r h0 (by rw [hμ]; simp)
            omega)
        refine Calls.mono hc fun e w'' ⟨v', μ'', he, hv, hs2, hg2⟩ => ?_
        subst he
        refine hK v v' μ'' w'' h4 hv hs2 (hgr.trans hg2 r1.next r2.next)
      | _ => exact hn.elim
end
end Go.Cm
