/-
  What a run shows.
-/
import Derived.Test.YtfofdglgacfklaaGreatDoorCmW
namespace Go.Cm
open Go Go.RowKit

section
variable {E : Env} (ok : E.Ok) (cok : E.Coded) {base : Nat}

theorem two_fresh {base : Nat} {μ μ1 : Mu} {n n1 n' : Nat} {w w1 : World} (hf : ∀ r, n ≤ r → r < n' → μ r = none) (hg : Grew base μ μ1 n n1 w w1) (h : n ≤ n1) : ∀ r, n1 ≤ r → r < n' → μ1 r = none := by
  intro r h1 h2
  rcases hμ : μ1 r with _ | K
  · rfl
  · have := hg.new r (hf r (by omega) h2) (by rw [hμ]; simp)
    omega

include ok cok in
theorem sim_code : ∀ n, CodeSim E base n
  | 0 => fun c fr fr' x s s' μ a w Q h => by unfold ev at h; rw [fail_some] at h; exact h.elim
  | n + 1 => by
    have ih := sim_code n
    have hcall := sim_callF ok cok ih
    intro c fr fr' x s s' μ a w Q h hok hfr hs hgl hf hQ
    unfold ev at h
    cases c with
    | skip =>
      simp only [pure_some, Prod.mk.injEq] at h
      obtain ⟨⟨rfl, rfl⟩, rfl⟩ := h
      exact wp_skip (hQ μ a w .normal trivial hfr rfl hs (Grew.refl _ _ _ _ _))
    | label l =>
      simp only [pure_some, Prod.mk.injEq] at h
      obtain ⟨⟨rfl, rfl⟩, rfl⟩ := h
      exact wp_label (hQ μ a w .normal trivial hfr rfl hs (Grew.refl _ _ _ _ _))
    | ret =>
      simp only [pure_some, Prod.mk.injEq] at h
      obtain ⟨⟨rfl, rfl⟩, rfl⟩ := h
      exact wp_ret (hQ μ a w .ret trivial hfr rfl hs (Grew.refl _ _ _ _ _))
    | exit id =>
      simp only [pure_some, Prod.mk.injEq] at h
      obtain ⟨⟨rfl, rfl⟩, rfl⟩ := h
      exact wp_exit (hQ μ a w (.exit id) rfl hfr rfl hs (Grew.refl _ _ _ _ _))
    | region id ops draw =>
      simp only at h
      unfold codeOk at hok
      rw [Bool.and_eq_true] at hok
      cases draw with
      | true =>
        simp only [cond_true] at h hok
        rw [bind_some] at h
        obtain ⟨fr1, s1, h1, h2⟩ := h
        rw [pure_some] at h2
        simp only [Prod.mk.injEq] at h2
        obtain ⟨⟨rfl, rfl⟩, rfl⟩ := h2
        exact sim_draw ok hcall h1 hok.1 hok.2 hfr hs hgl hf fun μ' a' w' h1 h2 h3 h4 => hQ μ' a' w' .normal trivial h1 h2 h3 h4
      | false =>
        simp only [cond_false] at h
        rw [bind_some] at h
        obtain ⟨fr1, s1, h1, h2⟩ := h
        rw [pure_some] at h2
        simp only [Prod.mk.injEq] at h2
        obtain ⟨⟨rfl, rfl⟩, rfl⟩ := h2
        refine wp_region ?_
        have hall : ∀ o ∈ ops.toList, opOk E o = true := by have := hok.1; rw [List.all_eq_true] at this; exact this
        have := sim_ops ok hcall (Q := Q) ops.toList 0 fr fr' a s s' μ w (by simp) h1 hall hfr hs hgl hf fun μ' a' w' h1 h2 h3 h4 => hQ μ' a' w' .normal trivial h1 h2 h3 h4
        rw [Array.length_toList, ← List.range_eq_range'] at this
        exact this
    | seq c1 c2 =>
      simp only at h
      unfold codeOk at hok
      rw [Bool.and_eq_true] at hok
      rw [bind_some] at h
      obtain ⟨⟨x1, fr1⟩, s1, h1, h2⟩ := h
      obtain ⟨_, _, r1⟩ := Loc.ev E n c1 fr s _ s1 h1
      have hn1 := r1.next
      have hn2 : s1.next ≤ s'.next := by
        cases x1 with
        | normal => obtain ⟨_, _, r2⟩ := Loc.ev E n c2 fr1 s1 _ s' h2; exact r2.next
        | exit k => rw [pure_some] at h2; obtain ⟨_, rfl⟩ := h2; exact Nat.le_refl _
        | ret => rw [pure_some] at h2; obtain ⟨_, rfl⟩ := h2; exact Nat.le_refl _
      refine wp_seq ?_
      refine ih c1 fr fr1 x1 s s1 μ a w _ h1 hok.1 hfr hs hgl (fun r h1 h2 => hf r h1 (by omega)) fun μ1 a1 w1 e hx hfr1 hd1 hs1 hg1 => ?_
      cases x1 with
      | normal =>
        cases e with
        | normal =>
          simp only at h2
          refine ih c2 fr1 fr' x s1 s' μ1 a1 w1 Q h2 hok.2 hfr1 hs1 (hgl.mono hg1.le) (two_fresh hf hg1 hn1) fun μ2 a2 w2 e2 hx2 hfr2 hd2 hs2 hg2 => ?_
          exact hQ μ2 a2 w2 e2 hx2 hfr2 (hd2.trans hd1) hs2 (hg1.trans hg2 hn1 hn2)
        | _ => exact hx.elim
      | exit k =>
        simp only [pure_some, Prod.mk.injEq] at h2
        obtain ⟨⟨rfl, rfl⟩, rfl⟩ := h2
        cases e with
        | exit k' => exact hQ μ1 a1 w1 _ hx hfr1 hd1 hs1 hg1
        | _ => exact hx.elim
      | ret =>
        simp only [pure_some, Prod.mk.injEq] at h2
        obtain ⟨⟨rfl, rfl⟩, rfl⟩ := h2
        cases e with
        | ret => exact hQ μ1 a1 w1 _ hx hfr1 hd1 hs1 hg1
        | _ => exact hx.elim
    | cond o c1 c2 =>
      simp only at h
      unfold codeOk at hok
      rw [Bool.and_eq_true, Bool.and_eq_true] at hok
      have hrel : VRel μ (fr.eval o) (a.eval o) := eval_rel hok.1.1 hgl fun t _ => hfr.get t
      cases ht : fr.eval o with
      | bool t =>
        rw [ht] at hrel
        simp only [ht] at h
        have hb := hrel.ofBool
        cases t with
        | true => exact wp_cond_true hb (ih c1 fr fr' x s s' μ a w Q h hok.1.2 hfr hs hgl hf hQ)
        | false => exact wp_cond_false hb (ih c2 fr fr' x s s' μ a w Q h hok.2 hfr hs hgl hf hQ)
      | _ => simp only [ht] at h; rw [fail_some] at h; exact h.elim
    | block id c =>
      simp only at h
      unfold codeOk at hok
      rw [bind_some] at h
      obtain ⟨⟨x1, fr1⟩, s1, h1, h2⟩ := h
      refine wp_block ?_
      have hsn : s1 = s' := by
        cases x1 with
        | normal => rw [pure_some] at h2; exact h2.2.symm
        | ret => rw [pure_some] at h2; exact h2.2.symm
        | exit k => simp only at h2; cases hk : Nat.beq k id <;> rw [hk] at h2 <;> exact (pure_some.1 h2).2.symm
      subst hsn
      refine ih c fr fr1 x1 s s1 μ a w _ h1 hok hfr hs hgl hf fun μ1 a1 w1 e hx hfr1 hd1 hs1 hg1 => ?_
      cases x1 with
      | normal =>
        simp only [pure_some, Prod.mk.injEq] at h2
        obtain ⟨⟨rfl, rfl⟩, _⟩ := h2
        cases e with
        | normal => exact hQ μ1 a1 w1 .normal trivial hfr1 hd1 hs1 hg1
        | _ => exact hx.elim
      | ret =>
        simp only [pure_some, Prod.mk.injEq] at h2
        obtain ⟨⟨rfl, rfl⟩, _⟩ := h2
        cases e with
        | ret => exact hQ μ1 a1 w1 .ret trivial hfr1 hd1 hs1 hg1
        | _ => exact hx.elim
      | exit k =>
        cases e with
        | exit k' =>
          have : k = k' := hx
          subst this
          simp only at h2
          show (if k = id then Q .normal a1 w1 else Q (.exit k) a1 w1)
          cases hk : Nat.beq k id with
          | true =>
            rw [hk, cond_true, pure_some] at h2
            simp only [Prod.mk.injEq] at h2
            obtain ⟨⟨rfl, rfl⟩, _⟩ := h2
            rw [if_pos (Nat.eq_of_beq_eq_true hk)]
            exact hQ μ1 a1 w1 .normal trivial hfr1 hd1 hs1 hg1
          | false =>
            rw [hk, cond_false, pure_some] at h2
            simp only [Prod.mk.injEq] at h2
            obtain ⟨⟨rfl, rfl⟩, _⟩ := h2
            rw [if_neg (by rintro rfl; rw [Nat.beq_refl] at hk; cases hk)]
            exact hQ μ1 a1 w1 (.exit k) rfl hfr1 hd1 hs1 hg1
        | _ => exact hx.elim
    | scope c =>
      simp only at h
      unfold codeOk at hok
      refine wp_scope_straight (ih c fr fr' x s s' μ a w _ h hok hfr hs hgl hf fun μ1 a1 w1 e hx hfr1 hd1 hs1 hg1 => ?_)
      cases e with
      | goto l => cases x <;> exact hx.elim
      | _ => exact hQ μ1 a1 w1 _ hx hfr1 hd1 hs1 hg1
    | loop c =>
      have key : ∀ m (fr fr' : Fr) (x : X) (s s' : St) (μ : Mu) (a : Act) (w : World) (Q : Exit → Act → World → Prop), m ≤ n + 1 → (∀ k, k < m → CodeSim E base k) → ev E m (.loop c) fr s = some ((x, fr'), s') → FRel μ fr a.tmps → SRel base μ s.rows.get w → Globs E μ →
          (∀ r, s.next ≤ r → r < s'.next → μ r = none) →
          (∀ μ' a' w' e, XRel x e → FRel μ' fr' a'.tmps → a'.defers = a.defers → SRel base μ' s'.rows.get w' → Grew base μ μ' s.next s'.next w w' → Q e a' w') → Code.rounds E.P c Q m a w := by
        intro m
        induction m with
        | zero => intro fr fr' x s s' μ a w Q _ _ h; unfold ev at h; rw [fail_some] at h; exact h.elim
        | succ m ihm =>
          intro fr fr' x s s' μ a w Q hm hall h hfr hs hgl hf hQ
          unfold ev at h
          simp only at h
          rw [bind_some] at h
          obtain ⟨⟨x1, fr1⟩, s1, h1, h2⟩ := h
          obtain ⟨_, _, r1⟩ := Loc.ev E m c fr s _ s1 h1
          have hn1 := r1.next
          have hn2 : s1.next ≤ s'.next := by
            cases x1 with
            | normal => obtain ⟨_, _, r2⟩ := Loc.ev E m (.loop c) fr1 s1 _ s' h2; exact r2.next
            | exit k => rw [pure_some] at h2; obtain ⟨_, rfl⟩ := h2; exact Nat.le_refl _
            | ret => rw [pure_some] at h2; obtain ⟨_, rfl⟩ := h2; exact Nat.le_refl _
          rw [rounds_succ]
          refine hall m (Nat.lt_succ_self _) c fr fr1 x1 s s1 μ a w _ h1 (by unfold codeOk at hok; exact hok) hfr hs hgl (fun r h1 h2 => hf r h1 (by omega)) fun μ1 a1 w1 e hx hfr1 hd1 hs1 hg1 => ?_
          cases x1 with
          | normal =>
            cases e with
            | normal =>
              simp only at h2
              refine ihm fr1 fr' x s1 s' μ1 a1 w1 Q (by omega) (fun k hk => hall k (by omega)) h2 hfr1 hs1 (hgl.mono hg1.le) (two_fresh hf hg1 hn1) fun μ2 a2 w2 e2 hx2 hfr2 hd2 hs2 hg2 => ?_
              exact hQ μ2 a2 w2 e2 hx2 hfr2 (hd2.trans hd1) hs2 (hg1.trans hg2 hn1 hn2)
            | _ => exact hx.elim
          | exit k =>
            simp only [pure_some, Prod.mk.injEq] at h2
            obtain ⟨⟨rfl, rfl⟩, rfl⟩ := h2
            cases e with
            | exit k' => exact hQ μ1 a1 w1 _ hx hfr1 hd1 hs1 hg1
            | _ => exact hx.elim
          | ret =>
            simp only [pure_some, Prod.mk.injEq] at h2
            obtain ⟨⟨rfl, rfl⟩, rfl⟩ := h2
            cases e with
            | ret => exact hQ μ1 a1 w1 _ hx hfr1 hd1 hs1 hg1
            | _ => exact hx.elim
      refine wp_loop_rounds (n + 1) (key (n + 1) fr fr' x s s' μ a w Q (Nat.le_refl _) (fun k hk => ?_) (by unfold ev; exact h) hfr hs hgl hf hQ)
      exact sim_code k
    | goto l => simp only [fail_some] at h
    | rangeFunc g ps c1 c2 => simp only [fail_some] at h
    | refuse m => simp only [fail_some] at h

include ok cok in
/-- WHAT A RUN SHOWS: where the machine's call answers, the model's call answers alike, and of what there was before nothing turns. -/
theorem run_sound {n : Nat} {f : FuncId} {args : List Value} {s s' : St} {v : Value} (h : run E n f args s = some (v, s')) {μ : Mu} {w : World} {args' : Array Value} (hv : VRels μ args args'.toList)
    (hs : SRel base μ s.rows.get w) (hgl : Globs E μ) (hf : ∀ r, s.next ≤ r → r < s'.next → μ r = none) :
    Calls E.P f args' w fun e w' => ∃ v' μ', e = .returned v' ∧ VRel μ' v v' ∧ SRel base μ' s'.rows.get w' ∧ Grew base μ μ' s.next s'.next w w' :=
  (sim_callF ok cok (sim_code ok cok n)).2 f args v s s' μ w args' h hv hs hgl hf
end
end Go.Cm
