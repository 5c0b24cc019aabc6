/-
  The faster going is the same one: bodies, calls.
-/
import Derived.Test.YtfofdglgacfklaaGreatDoorFmD
import Derived.Test.YtfofdglgacfklaaGreatDoorCmX
namespace Go.Cm
open Go

noncomputable def loopF (body : Fr → M (X × Fr)) : Nat → Fr → M (X × Fr)
  | 0, _ => M.fail
  | n + 1, fr => M.bind (body fr) fun r => match r.1 with
    | .normal => loopF body n r.2
    | x => M.pure (x, r.2)
/-- Code, the turns of a loop alone counted. -/
noncomputable def evF (E : Env) (call : CallFn) (lf : Nat) : Code → Fr → M (X × Fr)
  | .skip, fr => M.pure (.normal, fr)
  | .region _ ops draw, fr => bif draw
        then M.bind (evDraw E call ops (Region.before ops) ops.toList 0 [] fr) fun fr => M.pure (.normal, fr)
        else M.bind (evOps E call ops ops.toList fr) fun fr => M.pure (.normal, fr)
  | .seq a b, fr => M.bind (evF E call lf a fr) fun r => match r.1 with
      | .normal => evF E call lf b r.2
      | x => M.pure (x, r.2)
  | .cond c a b, fr => match fr.eval c with
      | .bool t => bif t then evF E call lf a fr else evF E call lf b fr
      | _ => M.fail
  | .block id c, fr => M.bind (evF E call lf c fr) fun r => match r.1 with
      | .exit k => bif Nat.beq k id then M.pure (.normal, r.2) else M.pure (.exit k, r.2)
      | x => M.pure (x, r.2)
  | .loop c, fr => loopF (evF E call lf c) lf fr
  | .exit id, fr => M.pure (.exit id, fr)
  | .scope c, fr => evF E call lf c fr
  | .label _, fr => M.pure (.normal, fr)
  | .ret, fr => M.pure (.ret, fr)
  | .rangeFunc _ _ _ _, _ => M.fail
  | .goto _, _ => M.fail
  | .refuse _, _ => M.fail

section
variable (E : Env) (call : CallFn) (lf : Nat) (a b c : Code) (fr : Fr)
theorem evF_seq : evF E call lf (.seq a b) fr = M.bind (evF E call lf a fr) fun r => match r.1 with
      | .normal => evF E call lf b r.2
      | x => M.pure (x, r.2) := rfl
theorem evF_cond (v : Operand) : evF E call lf (.cond v a b) fr = match fr.eval v with
      | .bool t => bif t then evF E call lf a fr else evF E call lf b fr
      | _ => M.fail := rfl
theorem evF_block (id : Nat) : evF E call lf (.block id c) fr = M.bind (evF E call lf c fr) fun r => match r.1 with
      | .exit k => bif Nat.beq k id then M.pure (.normal, r.2) else M.pure (.exit k, r.2)
      | x => M.pure (x, r.2) := rfl
theorem evF_loop : evF E call lf (.loop c) fr = loopF (evF E call lf c) lf fr := rfl
theorem evF_scope : evF E call lf (.scope c) fr = evF E call lf c fr := rfl
theorem loopF_succ (body : Fr → M (X × Fr)) (n : Nat) : loopF body (n + 1) fr = M.bind (body fr) fun r => match r.1 with
    | .normal => loopF body n r.2
    | x => M.pure (x, r.2) := rfl
end

def KeepsN (m : Fr → M (X × Fr)) : Prop := ∀ fr s r s', m fr s = some (r, s') → r.2.n = fr.n
theorem loopF_n {body : Fr → M (X × Fr)} (h : KeepsN body) : ∀ lf, KeepsN (loopF body lf)
  | 0, fr, s, r, s', e => by cases e
  | n + 1, fr, s, r, s', e => by
    rw [loopF_succ] at e
    rw [bind_some] at e
    obtain ⟨⟨x, f1⟩, s1, h1, h2⟩ := e
    have hn := h fr s _ _ h1
    cases x with
    | normal => exact (loopF_n h n f1 s1 r s' h2).trans hn
    | exit id => rw [pure_some] at h2; rw [h2.1]; exact hn
    | ret => rw [pure_some] at h2; rw [h2.1]; exact hn
theorem evF_n (E : Env) (call : CallFn) (lf : Nat) : ∀ c, KeepsN (evF E call lf c) := by
  intro c
  induction c with
  | skip => intro fr s r s' e; unfold evF at e; rw [pure_some] at e; rw [e.1]
  | region id ops draw =>
    intro fr s r s' e
    unfold evF at e
    cases draw with
    | true =>
      rw [cond_true, bind_some] at e
      obtain ⟨f1, s1, h1, h2⟩ := e
      rw [pure_some] at h2; rw [h2.1]; exact evDraw_n h1
    | false =>
      rw [cond_false, bind_some] at e
      obtain ⟨f1, s1, h1, h2⟩ := e
      rw [pure_some] at h2; rw [h2.1]; exact evOps_n h1
  | seq a b iha ihb =>
    intro fr s r s' e
    rw [evF_seq] at e
    rw [bind_some] at e
    obtain ⟨⟨x, f1⟩, s1, h1, h2⟩ := e
    have hn := iha fr s _ _ h1
    cases x with
    | normal => exact (ihb f1 s1 r s' h2).trans hn
    | exit id => rw [pure_some] at h2; rw [h2.1]; exact hn
    | ret => rw [pure_some] at h2; rw [h2.1]; exact hn
  | cond c a b iha ihb =>
    intro fr s r s' e
    rw [evF_cond] at e
    cases hv : fr.eval c with
    | bool t =>
      rw [hv] at e
      cases t with
      | true => exact iha fr s r s' e
      | false => exact ihb fr s r s' e
    | _ => rw [hv] at e; cases e
  | block id c ih =>
    intro fr s r s' e
    rw [evF_block] at e
    rw [bind_some] at e
    obtain ⟨⟨x, f1⟩, s1, h1, h2⟩ := e
    have hn := ih fr s _ _ h1
    cases x with
    | normal => rw [pure_some] at h2; rw [h2.1]; exact hn
    | exit k =>
      simp only at h2
      cases hb : Nat.beq k id <;> rw [hb] at h2 <;> simp only [cond_true, cond_false, pure_some] at h2 <;> rw [h2.1] <;> exact hn
    | ret => rw [pure_some] at h2; rw [h2.1]; exact hn
  | loop c ih => intro fr s r s' e; rw [evF_loop] at e; exact loopF_n ih lf fr s r s' e
  | exit id => intro fr s r s' e; unfold evF at e; rw [pure_some] at e; rw [e.1]
  | scope c ih => intro fr s r s' e; rw [evF_scope] at e; exact ih fr s r s' e
  | label l => intro fr s r s' e; unfold evF at e; rw [pure_some] at e; rw [e.1]
  | ret => intro fr s r s' e; unfold evF at e; rw [pure_some] at e; rw [e.1]
  | rangeFunc f p a b _ _ => intro fr s r s' e; unfold evF at e; cases e
  | goto l => intro fr s r s' e; unfold evF at e; cases e
  | refuse w => intro fr s r s' e; unfold evF at e; cases e

section
variable {E : Env} {call : CallFn} (hcall : ∀ f args, Tr (call f args) false false) {n lf : Nat}

theorem fr_eta {fr : Fr} (h : fr.n = n) : (⟨n, fr.t⟩ : Fr) = fr := by cases fr; subst h; rfl
theorem condV_eq (v : Value) (a b : M Value) : condV v a b = match v with | .bool t => bif t then a else b | _ => M.fail := rfl

include hcall in
theorem evC_run : ∀ (c : Code) (t : FT 5) (k : X → FT 5 → M Value), (evC E n c).run call lf t k = M.bind (evF E call lf c ⟨n, t⟩) fun r => k r.1 r.2.t := by
  intro c
  induction c with
  | skip => intro t k; rfl
  | region id ops draw =>
    intro t k
    show (regC E n ops draw).run call lf t k = _
    unfold regC
    have hst : (opsC E n ops ops.toList).run call t (k .normal) = M.bind (M.bind (evOps E call ops ops.toList ⟨n, t⟩) fun fr => M.pure (X.normal, fr)) fun r => k r.1 r.2.t := by
      rw [opsC_run, bind_assoc]; exact bind_congr fun _ _ _ _ => (bind_pure_l _ _).symm
    cases draw with
    | false => exact hst
    | true =>
      cases hs : staticOk E ops with
      | true =>
        show (opsC E n ops ops.toList).run call t (k .normal) = _
        rw [hst]
        unfold evF
        rw [cond_true, static_draw hcall (Region.before ops) ops.toList 0 [] [] ⟨n, t⟩ hs (fun p hp => by cases hp)]
      | false =>
        show (drawC E n ops (Region.before ops) ops.toList 0).run call t [] (k .normal) = _
        rw [drawC_run]
        unfold evF
        rw [cond_true, bind_assoc]; exact bind_congr fun _ _ _ _ => (bind_pure_l _ _).symm
  | seq a b iha ihb =>
    intro t k
    show (evC E n a).run call lf t (fun x t' => X.rec ((evC E n b).run call lf t' k) (fun id => k (.exit id) t') (k .ret t') x) = _
    rw [iha, evF_seq, bind_assoc]
    refine bind_congr fun s r s' h => ?_
    have hn := evF_n E call lf a _ _ _ _ h
    obtain ⟨x, fr⟩ := r
    cases x with
    | normal =>
      show (evC E n b).run call lf fr.t k = M.bind (evF E call lf b fr) _
      rw [ihb, fr_eta hn]
    | exit id => rfl
    | ret => rfl
  | cond c a b iha ihb =>
    intro t k
    show condV ((operC n c).run t) ((evC E n a).run call lf t k) ((evC E n b).run call lf t k) = _
    rw [oper_run, iha, ihb, condV_eq, evF_cond]
    cases Fr.eval ⟨n, t⟩ c with
    | bool tt => cases tt <;> rfl
    | _ => rfl
  | block id c ih =>
    intro t k
    show (evC E n c).run call lf t (fun x t' => X.rec (k .normal t') (fun j => bif Nat.beq j id then k .normal t' else k (.exit j) t') (k .ret t') x) = _
    rw [ih, evF_block, bind_assoc]
    refine bind_congr fun s r s' h => ?_
    obtain ⟨x, fr⟩ := r
    cases x with
    | normal => rfl
    | exit j =>
      show (bif Nat.beq j id then k .normal fr.t else k (.exit j) fr.t) = M.bind (bif Nat.beq j id then M.pure (X.normal, fr) else M.pure (X.exit j, fr)) _
      cases Nat.beq j id <;> rfl
    | ret => rfl
  | loop c ih =>
    intro t k
    have key : ∀ (m : Nat) (t : FT 5), (Nat.rec (fun _ => M.fail) (fun _ self t => (evC E n c).run call lf t fun x t' => X.rec (self t') (fun id => k (.exit id) t') (k .ret t') x) m t : M Value) =
        M.bind (loopF (evF E call lf c) m ⟨n, t⟩) fun r => k r.1 r.2.t := by
      intro m
      induction m with
      | zero => intro t; rfl
      | succ m im =>
        intro t
        show (evC E n c).run call lf t (fun x t' => X.rec (motive := fun _ => M Value) (Nat.rec (motive := fun _ => FT 5 → M Value) (fun _ => M.fail) (fun _ self t => (evC E n c).run call lf t fun x t' => X.rec (motive := fun _ => M Value) (self t') (fun id => k (.exit id) t') (k .ret t') x) m t') (fun id => k (.exit id) t') (k .ret t') x) = _
        rw [ih, loopF_succ, bind_assoc]
        refine bind_congr fun s r s' h => ?_
        have hn := evF_n E call lf c _ _ _ _ h
        obtain ⟨x, fr⟩ := r
        cases x with
        | normal => exact (im fr.t).trans (by rw [fr_eta hn])
        | exit id => rfl
        | ret => rfl
    exact key lf t
  | exit id => intro t k; rfl
  | scope c ih => intro t k; exact ih t k
  | label l => intro t k; rfl
  | ret => intro t k; rfl
  | rangeFunc f p a b _ _ => intro t k; rfl
  | goto l => intro t k; rfl
  | refuse w => intro t k; rfl
end
end Go.Cm
