/-
  What the faster going answers, the machine answers.
-/
import Derived.Test.YtfofdglgacfklaaGreatDoorFmE
import Derived.Test.YtfofdglgacfklaaGreatDoorCmY
namespace Go.Cm
open Go

/-- From some number of turns on. -/
def Ev {α : Type} (m : Nat → M α) (s : St) (r : α × St) : Prop := ∃ m0, ∀ k, m0 ≤ k → m k s = some r
theorem Ev.const {α : Type} {m : M α} {s : St} {r : α × St} (h : m s = some r) : Ev (fun _ => m) s r := ⟨0, fun _ _ => h⟩
theorem Ev.bind {α β : Type} {m : Nat → M α} {f : Nat → α → M β} {s s1 : St} {a : α} {r : β × St} (h1 : Ev m s (a, s1)) (h2 : Ev (fun k => f k a) s1 r) : Ev (fun k => M.bind (m k) (f k)) s r := by
  obtain ⟨m1, h1⟩ := h1
  obtain ⟨m2, h2⟩ := h2
  exact ⟨max m1 m2, fun k hk => bind_some.2 ⟨a, s1, h1 k (by omega), h2 k (by omega)⟩⟩
theorem Ev.succ {α : Type} {m h : Nat → M α} {s : St} {r : α × St} (e : ∀ k, h (k + 1) = m k) (hm : Ev m s r) : Ev h s r := by
  obtain ⟨m0, hm⟩ := hm
  refine ⟨m0 + 1, fun k hk => ?_⟩
  obtain ⟨j, rfl⟩ : ∃ j, k = j + 1 := ⟨k - 1, by omega⟩
  rw [e]; exact hm j (by omega)
theorem Ev.cong {α : Type} {m h : Nat → M α} {s : St} {r : α × St} (e : ∀ k, h k = m k) (hm : Ev m s r) : Ev h s r := by
  obtain ⟨m0, hm⟩ := hm
  exact ⟨m0, fun k hk => by rw [e]; exact hm k hk⟩
theorem Ev.watch {α : Type} {m : Nat → M α} {m1 : M α} {s : St} {r : (α × Did) × St} (hm : ∀ s r, m1 s = some r → Ev m s r) (h : M.watch m1 s = some r) : Ev (fun k => M.watch (m k)) s r := by
  rw [M.watch_eq] at h
  cases h1 : m1 { s with log := [], wlog := [] } with
  | none => rw [h1] at h; cases h
  | some p =>
    obtain ⟨m0, hm⟩ := hm _ _ h1
    exact ⟨m0, fun k hk => by show M.watch (m k) s = some r; rw [M.watch_eq, hm k hk, ← h, h1]⟩
theorem Ev.within {α : Type} {m : Nat → M α} {m1 : M α} {s : St} {r : α × St} (hm : ∀ s r, m1 s = some r → Ev m s r) (h : M.within m1 s = some r) : Ev (fun k => M.within (m k)) s r := by
  rw [M.within_eq] at h
  cases h1 : m1 { s with log := [], wlog := [] } with
  | none => rw [h1] at h; cases h
  | some p =>
    obtain ⟨m0, hm⟩ := hm _ _ h1
    exact ⟨m0, fun k hk => by show M.within (m k) s = some r; rw [M.within_eq, hm k hk, ← h, h1]⟩

section
variable {E : Env} {call : CallFn} (H : ∀ f args s r, call f args s = some r → Ev (fun m => callF E (ev E m) f args) s r) {ops : Array Oper}
include H
theorem evOp_ev {o : Oper} {fr : Fr} {s : St} {r : Fr × St} (h : evOp E call ops o fr s = some r) : Ev (fun m => evOp E (callF E (ev E m)) ops o fr) s r := by
  refine Ev.cong (fun k => evOp_eq E _ ops o fr) ?_
  rw [evOp_eq] at h
  cases hs : sureA ops fr o with
  | false => rw [hs] at h; cases h
  | true =>
    rw [hs] at h
    simp only [Bool.not_true, cond_false] at h ⊢
    cases hw : wantedA ops fr o with
    | false => rw [hw] at h; exact Ev.const h
    | true =>
      rw [hw, cond_true, bind_some] at h
      obtain ⟨nx, s1, h1, h2⟩ := h
      simp only [cond_true]
      refine Ev.bind (Ev.const h1) ?_
      cases nx with
      | value v => exact Ev.const h2
      | skip => exact Ev.const h2
      | known f a v => exact Ev.const h2
      | enter f args =>
        have h2 : M.bind (call f args) (fun v => fr.dst o.dst v) s1 = some r := h2
        rw [bind_some] at h2
        obtain ⟨v, s2, h3, h4⟩ := h2
        exact Ev.bind (m := fun m => callF E (ev E m) f args) (f := fun _ v => fr.dst o.dst v) (H f args s1 _ h3) (Ev.const h4)
theorem evOps_ev : ∀ {l : List Oper} {fr : Fr} {s : St} {r : Fr × St}, evOps E call ops l fr s = some r → Ev (fun m => evOps E (callF E (ev E m)) ops l fr) s r
  | [], fr, s, r, h => Ev.const h
  | o :: l, fr, s, r, h => by
    have h : M.bind (evOp E call ops o fr) (fun fr => evOps E call ops l fr) s = some r := h
    rw [bind_some] at h
    obtain ⟨f1, s1, h1, h2⟩ := h
    exact Ev.bind (m := fun m => evOp E (callF E (ev E m)) ops o fr) (f := fun m fr => evOps E (callF E (ev E m)) ops l fr) (evOp_ev H h1) (evOps_ev h2)
theorem evDraw_ev {before : Array Nat} : ∀ {l : List Oper} {i : Nat} {ds : List (Nat × Did)} {fr : Fr} {s : St} {r : Fr × St}, evDraw E call ops before l i ds fr s = some r → Ev (fun m => evDraw E (callF E (ev E m)) ops before l i ds fr) s r
  | [], _, _, fr, s, r, h => Ev.const h
  | o :: l, i, ds, fr, s, r, h => by
    have h : M.bind (M.watch (evOp E call ops o fr)) (fun r => bif settled before i r.2 ds then evDraw E call ops before l (Nat.succ i) (keep i r.2 ds) r.1 else M.fail) s = some r := h
    rw [bind_some] at h
    obtain ⟨p, s1, h1, h2⟩ := h
    refine Ev.bind (m := fun m => M.watch (evOp E (callF E (ev E m)) ops o fr)) (f := fun m r => bif settled before i r.2 ds then evDraw E (callF E (ev E m)) ops before l (Nat.succ i) (keep i r.2 ds) r.1 else M.fail) (Ev.watch (fun s r h => evOp_ev H h) h1) ?_
    cases hs : settled before i p.2 ds with
    | false => rw [hs] at h2; cases h2
    | true => rw [hs] at h2; exact evDraw_ev h2

theorem evF_ev {lf : Nat} : ∀ (c : Code) (fr : Fr) (s : St) (r : (X × Fr) × St), evF E call lf c fr s = some r → Ev (fun m => ev E m c fr) s r := by
  intro c
  induction c with
  | skip => intro fr s r h; exact Ev.succ (m := fun _ => M.pure (X.normal, fr)) (fun _ => rfl) (Ev.const (m := M.pure (X.normal, fr)) h)
  | region id ops draw =>
    intro fr s r h
    cases draw with
    | true =>
      have h : M.bind (evDraw E call ops (Region.before ops) ops.toList 0 [] fr) (fun fr => M.pure (X.normal, fr)) s = some r := h
      rw [bind_some] at h
      obtain ⟨f1, s1, h1, h2⟩ := h
      exact Ev.succ (m := fun m => M.bind (evDraw E (callF E (ev E m)) ops (Region.before ops) ops.toList 0 [] fr) fun fr => M.pure (X.normal, fr)) (fun _ => rfl)
        (Ev.bind (m := fun m => evDraw E (callF E (ev E m)) ops (Region.before ops) ops.toList 0 [] fr) (f := fun _ fr => M.pure (X.normal, fr)) (evDraw_ev H h1) (Ev.const h2))
    | false =>
      have h : M.bind (evOps E call ops ops.toList fr) (fun fr => M.pure (X.normal, fr)) s = some r := h
      rw [bind_some] at h
      obtain ⟨f1, s1, h1, h2⟩ := h
      exact Ev.succ (m := fun m => M.bind (evOps E (callF E (ev E m)) ops ops.toList fr) fun fr => M.pure (X.normal, fr)) (fun _ => rfl)
        (Ev.bind (m := fun m => evOps E (callF E (ev E m)) ops ops.toList fr) (f := fun _ fr => M.pure (X.normal, fr)) (evOps_ev H h1) (Ev.const h2))
  | seq a b iha ihb =>
    intro fr s r h
    rw [evF_seq, bind_some] at h
    obtain ⟨⟨x, f1⟩, s1, h1, h2⟩ := h
    refine Ev.succ (m := fun m => M.bind (ev E m a fr) fun r => match r.1 with
      | .normal => ev E m b r.2
      | x => M.pure (x, r.2)) (fun _ => rfl) (Ev.bind (f := fun m r => match r.1 with
      | .normal => ev E m b r.2
      | x => M.pure (x, r.2)) (iha fr s _ h1) ?_)
    cases x with
    | normal => exact ihb f1 s1 r h2
    | exit id => exact Ev.const h2
    | ret => exact Ev.const h2
  | cond c a b iha ihb =>
    intro fr s r h
    rw [evF_cond] at h
    cases hv : fr.eval c with
    | bool t =>
      rw [hv] at h
      cases t with
      | true => exact Ev.succ (m := fun m => ev E m a fr) (fun k => by show (match fr.eval c with | .bool t => bif t then ev E k a fr else ev E k b fr | _ => M.fail) = _; rw [hv]; rfl) (iha fr s r h)
      | false => exact Ev.succ (m := fun m => ev E m b fr) (fun k => by show (match fr.eval c with | .bool t => bif t then ev E k a fr else ev E k b fr | _ => M.fail) = _; rw [hv]; rfl) (ihb fr s r h)
    | _ => rw [hv] at h; cases h
  | block id c ih =>
    intro fr s r h
    rw [evF_block, bind_some] at h
    obtain ⟨p, s1, h1, h2⟩ := h
    exact Ev.succ (m := fun m => M.bind (ev E m c fr) fun r => match r.1 with
      | .exit k => bif Nat.beq k id then M.pure (.normal, r.2) else M.pure (.exit k, r.2)
      | x => M.pure (x, r.2)) (fun _ => rfl) (Ev.bind (f := fun _ r => match r.1 with
      | .exit k => bif Nat.beq k id then M.pure (.normal, r.2) else M.pure (.exit k, r.2)
      | x => M.pure (x, r.2)) (ih fr s _ h1) (Ev.const h2))
  | loop c ih =>
    intro fr s r h
    rw [evF_loop] at h
    have key : ∀ n fr s r, loopF (evF E call lf c) n fr s = some r → Ev (fun m => ev E m (.loop c) fr) s r := by
      intro n
      induction n with
      | zero => intro fr s r h; cases h
      | succ n im =>
        intro fr s r h
        rw [loopF_succ, bind_some] at h
        obtain ⟨⟨x, f1⟩, s1, h1, h2⟩ := h
        refine Ev.succ (m := fun m => M.bind (ev E m c fr) fun r => match r.1 with
          | .normal => ev E m (.loop c) r.2
          | x => M.pure (x, r.2)) (fun _ => rfl) (Ev.bind (f := fun m r => match r.1 with
          | .normal => ev E m (.loop c) r.2
          | x => M.pure (x, r.2)) (ih fr s _ h1) ?_)
        cases x with
        | normal => exact im f1 s1 r h2
        | exit id => exact Ev.const h2
        | ret => exact Ev.const h2
    exact key lf fr s r h
  | exit id => intro fr s r h; exact Ev.succ (m := fun _ => M.pure (X.exit id, fr)) (fun _ => rfl) (Ev.const (m := M.pure (X.exit id, fr)) h)
  | scope c ih => intro fr s r h; exact Ev.succ (m := fun m => ev E m c fr) (fun _ => rfl) (ih fr s r h)
  | label l => intro fr s r h; exact Ev.succ (m := fun _ => M.pure (X.normal, fr)) (fun _ => rfl) (Ev.const (m := M.pure (X.normal, fr)) h)
  | ret => intro fr s r h; exact Ev.succ (m := fun _ => M.pure (X.ret, fr)) (fun _ => rfl) (Ev.const (m := M.pure (X.ret, fr)) h)
  | rangeFunc f p a b _ _ => intro fr s r h; cases h
  | goto l => intro fr s r h; cases h
  | refuse w => intro fr s r h; cases h
end

theorem resL_run (n : Nat) : ∀ (l : List ResultVar) (h : LstC) (t : FT 5) (E : Env) (s : St), resLC n l = some h → resultsA E ⟨n, t⟩ l s = some (h.run t, s)
  | [], h, t, E, s, e => by injection e with e; subst e; rfl
  | .tmp x :: l, h, t, E, s, e => by
    unfold resLC at e
    cases hl : resLC n l with
    | none => rw [hl] at e; cases e
    | some h' =>
      rw [hl] at e
      injection e with e
      subst e
      have ih := resL_run n l h' t E s hl
      show M.bind (M.pure (Fr.get ⟨n, t⟩ x)) (fun v => M.bind (resultsA E ⟨n, t⟩ l) fun vs => M.pure (v :: vs)) s = some (((operC n (.tmp x)).run t :: h'.run t), s)
      rw [bind_pure_l, M.bind_eq, ih, oper_run]; rfl
  | .cell a t :: l, h, _, _, _, e => by cases e
theorem resC_run (E : Env) (n : Nat) (l : List ResultVar) (t : FT 5) : (resC E n l).run t = M.bind (resultsA E ⟨n, t⟩ l) fun vs => M.pure (oneOf vs) := by
  unfold resC
  split
  · next h e =>
    funext s
    show some (oneOf (h.run t), s) = _
    rw [M.bind_eq, resL_run n l h t E s e]; rfl
  · rfl

theorem fill_run (n : Nat) : ∀ (k i : Nat) (l : List Value) (t : FT 5) (c : FT 5 → M Value) (s : St) (r : Value × St), (fillC n k i).run l t c s = some r → (l = [] ∨ i + l.length ≤ n) ∧ c (Fr.fill l i t) s = some r
  | 0, i, l, t, c, s, r, h => by cases h
  | k + 1, i, l, t, c, s, r, h => by
    unfold fillC at h
    cases hb : Nat.blt i n with
    | false =>
      rw [hb, cond_false] at h
      cases l with
      | nil => exact ⟨.inl rfl, h⟩
      | cons v l => cases h
    | true =>
      rw [hb, cond_true] at h
      cases l with
      | nil => exact ⟨.inl rfl, h⟩
      | cons v l =>
        have h : (fillC n k (i + 1)).run l ((slotC i).put t v) c s = some r := h
        rw [slot_put] at h
        obtain ⟨h1, h2⟩ := fill_run n k (i + 1) l _ c s r h
        have hi : i < n := blt_lt0 hb
        refine ⟨.inr ?_, h2⟩
        rcases h1 with rfl | h1
        · simp; omega
        · simp only [List.length_cons]; omega

theorem call_tr (E : Env) (lf : Nat) : ∀ d f args, Tr (callC E lf d f args) false false
  | 0, f, args => Tr.fail
  | d + 1, f, args => by
    show Tr ((funC E f).run (callC E lf d) lf args) false false
    unfold funC
    split
    · exact Tr.within _
    · split
      · exact Tr.within _
      split
      · exact Tr.within _
      cases E.fn f with
      | none => exact Tr.fail
      | some fn =>
        simp only
        cases fn.body with
        | none => exact Tr.fail
        | some c =>
          simp only
          cases Nat.ble fn.ntmps 1024 with
          | false => exact Tr.fail
          | true => exact Tr.within _

theorem callC_ev (E : Env) (lf : Nat) : ∀ d f args s r, callC E lf d f args s = some r → Ev (fun m => callF E (ev E m) f args) s r
  | 0, f, args, s, r, h => by cases h
  | d + 1, f, args, s, r, h => by
    have h : (funC E f).run (callC E lf d) lf args s = some r := h
    have H := callC_ev E lf d
    unfold funC at h
    unfold callF
    split at h
    · next F hF => simp only [hF]; exact Ev.const h
    · next hF =>
      simp only [hF]
      split at h
      · next g hg => simp only [hg]; exact Ev.const h
      next hg =>
      simp only [hg]
      split at h
      · next p hp => simp only [hp]; exact Ev.const h
      next hp =>
      simp only [hp]
      split at h
      · next fn hfn =>
        simp only [hfn]
        split at h
        · next c hc =>
          simp only [hc]
          cases hn : Nat.ble fn.ntmps 1024 with
          | false => rw [hn] at h; cases h
          | true =>
            rw [hn] at h
            have h : M.within ((fillC fn.ntmps 40 0).run args (FT.all undef 5) fun t => (evC E fn.ntmps c).run (callC E lf d) lf t fun x t => X.rec ((resC E fn.ntmps fn.results.toList).run t) (fun _ => M.fail) ((resC E fn.ntmps fn.results.toList).run t) x) s = some r := h
            refine Ev.within (fun s r h => ?_) h
            obtain ⟨h1, h2⟩ := fill_run _ _ _ _ _ _ _ _ h
            have hmax : max fn.ntmps args.length = fn.ntmps := by
              rcases h1 with rfl | h1
              · simp
              · simp only [Nat.zero_add] at h1; omega
            rw [hmax, hn]
            simp only [cond_true]
            rw [evC_run (call_tr E lf d), bind_some] at h2
            obtain ⟨⟨x, f1⟩, s1, h3, h4⟩ := h2
            have hn1 := evF_n E _ lf c _ _ _ _ h3
            have hi : Fr.init fn.ntmps args = ⟨fn.ntmps, Fr.fill args 0 (FT.all undef 5)⟩ := by unfold Fr.init; rw [hmax]
            rw [hi]
            refine Ev.bind (m := fun m => ev E m c ⟨fn.ntmps, Fr.fill args 0 (FT.all undef 5)⟩) (f := fun _ r => match r.1 with
              | .exit _ => M.fail
              | _ => M.bind (resultsA E r.2 fn.results.toList) fun vs => M.pure (oneOf vs)) (evF_ev H c _ _ _ h3) ?_
            have hf1 : (⟨fn.ntmps, f1.t⟩ : Fr) = f1 := fr_eta hn1
            cases x with
            | normal =>
              have h4 : (resC E fn.ntmps fn.results.toList).run f1.t s1 = some r := h4
              rw [resC_run, hf1] at h4; exact Ev.const h4
            | exit id => cases h4
            | ret =>
              have h4 : (resC E fn.ntmps fn.results.toList).run f1.t s1 = some r := h4
              rw [resC_run, hf1] at h4; exact Ev.const h4
        · cases h
      · cases h

/-- By pieces. -/
theorem goodAll_of {E : Env} {mask n : Nat} (c : Nat) (hc : 0 < c) (h : ∀ k, k * c < n → ((List.range c).all fun i => !Nat.testBit mask (k * c + i) || goodAt E (k * c + i)) = true) : goodAll E mask n = true := by
  unfold goodAll
  rw [List.all_eq_true]
  intro i hi
  rw [List.mem_range] at hi
  have h1 := h (i / c) (Nat.lt_of_le_of_lt (Nat.div_mul_le_self i c) hi)
  rw [List.all_eq_true] at h1
  have h2 := h1 (i % c) (List.mem_range.2 (Nat.mod_lt i hc))
  have e : i / c * c + i % c = i := Nat.div_add_mod' i c
  rw [e] at h2
  exact h2

section
variable (E : Env) (x : FuncId → Option (List Value → Option Value))
theorem operOk_same : operOk { E with ext := x } = operOk E := by funext o; cases o <;> rfl
theorem opOk_same : opOk { E with ext := x } = opOk E := by funext o; unfold opOk; rw [operOk_same]
theorem codeOk_same : ∀ c, codeOk { E with ext := x } c = codeOk E c := by
  intro c
  induction c with
  | region id ops draw => unfold codeOk; rw [opOk_same]
  | seq a b iha ihb => unfold codeOk; rw [iha, ihb]
  | cond v a b iha ihb => unfold codeOk; rw [iha, ihb, operOk_same]
  | block id c ih => unfold codeOk; exact ih
  | loop c ih => unfold codeOk; exact ih
  | scope c ih => unfold codeOk; exact ih
  | _ => rfl
theorem goodAt_same (i : Nat) : goodAt { E with ext := x } i = goodAt E i := by
  unfold goodAt
  simp only [codeOk_same]
theorem goodAll_same (mask n : Nat) : goodAll { E with ext := x } mask n = goodAll E mask n := by
  unfold goodAll
  simp only [goodAt_same]
end
theorem run_of_fast {E : Env} {lf d : Nat} {f : FuncId} {args : List Value} {s : St} {r : Value × St} (h : callC E lf d f args s = some r) : ∃ n, run E n f args s = some r := by
  obtain ⟨m0, h⟩ := callC_ev E lf d f args s r h
  exact ⟨m0, h m0 (Nat.le_refl _)⟩
theorem yes_of_fast {E : Env} {lf d : Nat} {f : FuncId} {args : List Value} {next : Nat} (h : yesC E lf d f args next = true) : ∃ n, yes E n f args next = true := by
  unfold yesC at h
  cases hr : callC E lf d f args (St.empty next) with
  | none => rw [hr] at h; cases h
  | some r =>
    obtain ⟨n, hn⟩ := run_of_fast hr
    refine ⟨n, ?_⟩
    unfold yes
    rw [hn, ← hr]; exact h
end Go.Cm
