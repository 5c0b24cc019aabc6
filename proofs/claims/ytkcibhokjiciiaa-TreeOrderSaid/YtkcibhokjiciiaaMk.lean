/-
  Code, and calls, gone through with values of which only some is known. Rows with other names, and those that nobody asks for any more. What is warm: loads out of rows; loops whose rows go on. The arguments of a law, as cold things; and what a law's row asks, of a call that answers true.
-/
import Derived.Test.YtkcibhokjiciiaaMj
import Derived.ReadAgain
import Derived.Handed
import Derived.OpenShut
namespace Go.Cm
open Go Go.RowKit

/-- How deep code is nested. -/
def depth : Code → Nat
  | .seq a b => Nat.succ (max (depth a) (depth b))
  | .cond _ a b => Nat.succ (max (depth a) (depth b))
  | .block _ c => Nat.succ (depth c)
  | .loop c => Nat.succ (depth c)
  | .scope c => Nat.succ (depth c)
  | _ => 1

def SF.initL : List Value → Nat → List (Nat × Value) → List (Nat × Value)
  | [], _, acc => acc
  | v :: l, i, acc => SF.initL l (i + 1) ((i, v) :: acc)
noncomputable def SF.init (n : Nat) (args : List Value) : SF := ⟨max n args.length, undef, SF.initL args 0 []⟩
theorem SF.tree_initL : ∀ (l : List Value) (i : Nat) (acc : List (Nat × Value)), SF.tree undef (SF.initL l i acc) = Fr.fill l i (SF.tree undef acc)
  | [], _, _ => rfl
  | v :: l, i, acc => by rw [SF.initL, SF.tree_initL l, Fr.fill_cons]; rfl
theorem SF.init_fr (n : Nat) (args : List Value) : (SF.init n args).fr = Fr.init n args := by
  unfold SF.init SF.fr Fr.init
  simp only [SF.tree_initL]
  rfl
theorem SF.initL_lt : ∀ (l : List Value) (i n : Nat) (acc : List (Nat × Value)), i + l.length ≤ n → (∀ p, p ∈ acc → p.1 < n) → ∀ p, p ∈ SF.initL l i acc → p.1 < n
  | [], _, _, _, _, h, p, hp => h p hp
  | v :: l, i, n, acc, hn, h, p, hp => by
    simp only [List.length_cons] at hn
    refine SF.initL_lt l (i + 1) n _ (by omega) (fun q hq => ?_) p hp
    rcases List.mem_cons.1 hq with e | e
    · rw [e]; show i < n; omega
    · exact h q e
theorem SF.init_ok {n : Nat} {args : List Value} (h : Nat.ble (max n args.length) 1024 = true) : (SF.init n args).ok :=
  ⟨Nat.le_of_ble_eq_true h, SF.initL_lt args 0 _ [] (by show 0 + args.length ≤ max n args.length; omega) (fun p hp => by simp at hp)⟩

/-- Code without loops. -/
noncomputable def codeP (E : Env) (cp : CallP) : Code → SF → St → (X → SF → St → Prop) → Prop
  | .skip, f, s, K => K .normal f s
  | .label _, f, s, K => K .normal f s
  | .ret, f, s, K => K .ret f s
  | .exit id, f, s, K => K (.exit id) f s
  | .region _ ops draw, f, s, K => pickP draw (drawP E cp ops (Region.before ops) ops.toList 0 [] f s (K .normal)) (opsP E cp ops ops.toList f s (K .normal))
  | .seq a b, f, s, K => codeP E cp a f s fun x f s => match x with | .normal => codeP E cp b f s K | x => K x f s
  | .cond c a b, f, s, K => match f.eval c with | .bool t => pickP t (codeP E cp a f s K) (codeP E cp b f s K) | _ => False
  | .block id c, f, s, K => codeP E cp c f s fun x f s => match x with | .exit k => pickP (Nat.beq k id) (K .normal f s) (K (.exit k) f s) | x => K x f s
  | .scope c, f, s, K => codeP E cp c f s K
  | _, _, _, _ => False

/-- Calls are gone through by what the machine's answer. -/
def CallP.fitsFrom (cp : CallP) (E : Env) (N : Nat) : Prop := ∀ j, N ≤ j → cp.fits (callF E (ev E j))

theorem code_spec {E : Env} {cp : CallP} {N : Nat} (hc : cp.fitsFrom E N) : ∀ (c : Code) (f : SF) (s : St) (K : X → SF → St → Prop) (m : Nat), f.ok → codeP E cp c f s K → depth c + N ≤ m →
    ∃ x f' s', f'.ok ∧ ev E m c f.fr s = some ((x, f'.fr), s') ∧ K x f' s' := by
  intro c
  induction c with
  | skip => intro f s K m hf h hm; cases m with | zero => (unfold depth at hm; omega) | succ m => exact ⟨.normal, f, s, hf, rfl, h⟩
  | label => intro f s K m hf h hm; cases m with | zero => (unfold depth at hm; omega) | succ m => exact ⟨.normal, f, s, hf, rfl, h⟩
  | ret => intro f s K m hf h hm; cases m with | zero => (unfold depth at hm; omega) | succ m => exact ⟨.ret, f, s, hf, rfl, h⟩
  | exit id => intro f s K m hf h hm; cases m with | zero => (unfold depth at hm; omega) | succ m => exact ⟨.exit id, f, s, hf, rfl, h⟩
  | region id ops draw =>
    intro f s K m hf h hm
    cases m with
    | zero => unfold depth at hm; omega
    | succ m =>
      unfold depth at hm
      have hc' := hc m (by omega)
      unfold codeP at h
      cases draw with
      | true =>
        obtain ⟨f', s', a, b, d⟩ := draw_spec hc' ops.toList 0 [] f s _ hf h
        exact ⟨.normal, f', s', a, by unfold ev; simp only [cond_true, M.bind_eq, b]; rfl, d⟩
      | false =>
        obtain ⟨f', s', a, b, d⟩ := ops_spec hc' ops.toList f s _ hf h
        exact ⟨.normal, f', s', a, by unfold ev; simp only [cond_false, M.bind_eq, b]; rfl, d⟩
  | seq a b iha ihb =>
    intro f s K m hf h hm
    cases m with
    | zero => unfold depth at hm; omega
    | succ m =>
      have hm' : max (depth a) (depth b) + 1 + N ≤ m + 1 := hm
      unfold codeP at h
      obtain ⟨x, f1, s1, a1, b1, c1⟩ := iha f s _ m hf h (by omega)
      cases x with
      | normal =>
        obtain ⟨x2, f2, s2, a2, b2, c2⟩ := ihb f1 s1 K m a1 c1 (by omega)
        exact ⟨x2, f2, s2, a2, by unfold ev; simp only [M.bind_eq, b1]; exact b2, c2⟩
      | exit k => exact ⟨.exit k, f1, s1, a1, by unfold ev; simp only [M.bind_eq, b1]; rfl, c1⟩
      | ret => exact ⟨.ret, f1, s1, a1, by unfold ev; simp only [M.bind_eq, b1]; rfl, c1⟩
  | cond c a b iha ihb =>
    intro f s K m hf h hm
    cases m with
    | zero => unfold depth at hm; omega
    | succ m =>
      have hm' : max (depth a) (depth b) + 1 + N ≤ m + 1 := hm
      unfold codeP at h
      split at h
      · rename_i t ht
        rw [← SF.eval_fr hf] at ht
        cases t with
        | true =>
          obtain ⟨x2, f2, s2, a2, b2, c2⟩ := iha f s K m hf h (by omega)
          exact ⟨x2, f2, s2, a2, by unfold ev; simp only [ht, cond_true]; exact b2, c2⟩
        | false =>
          obtain ⟨x2, f2, s2, a2, b2, c2⟩ := ihb f s K m hf h (by omega)
          exact ⟨x2, f2, s2, a2, by unfold ev; simp only [ht, cond_false]; exact b2, c2⟩
      · exact h.elim
  | block id c ih =>
    intro f s K m hf h hm
    cases m with
    | zero => unfold depth at hm; omega
    | succ m =>
      have hm' : depth c + 1 + N ≤ m + 1 := hm
      unfold codeP at h
      obtain ⟨x, f1, s1, a1, b1, c1⟩ := ih f s _ m hf h (by omega)
      cases x with
      | normal => exact ⟨.normal, f1, s1, a1, by unfold ev; simp only [M.bind_eq, b1]; rfl, c1⟩
      | ret => exact ⟨.ret, f1, s1, a1, by unfold ev; simp only [M.bind_eq, b1]; rfl, c1⟩
      | exit k =>
        simp only at c1
        cases hk : Nat.beq k id with
        | true => rw [hk] at c1; exact ⟨.normal, f1, s1, a1, by unfold ev; simp only [M.bind_eq, b1, hk]; rfl, c1⟩
        | false => rw [hk] at c1; exact ⟨.exit k, f1, s1, a1, by unfold ev; simp only [M.bind_eq, b1, hk]; rfl, c1⟩
  | scope c ih =>
    intro f s K m hf h hm
    cases m with
    | zero => unfold depth at hm; omega
    | succ m =>
      have hm' : depth c + 1 + N ≤ m + 1 := hm
      unfold codeP at h
      obtain ⟨x, f1, s1, a1, b1, c1⟩ := ih f s K m hf h (by omega)
      exact ⟨x, f1, s1, a1, by unfold ev; exact b1, c1⟩
  | loop c => intro f s K m hf h hm; unfold codeP at h; exact h.elim
  | goto l => intro f s K m hf h hm; unfold codeP at h; exact h.elim
  | rangeFunc g ps c1 c2 => intro f s K m hf h hm; unfold codeP at h; exact h.elim
  | refuse m => intro f s K m hf h hm; unfold codeP at h; exact h.elim

/-- What is handed back. -/
noncomputable def resS (E : Env) (f : SF) : ResultVar → M Value
  | .tmp t => M.pure (f.get t)
  | .cell a t => loadA E t (f.get a)
noncomputable def resultsS (E : Env) (f : SF) : List ResultVar → M (List Value)
  | [] => M.pure []
  | r :: l => M.bind (resS E f r) fun v => M.bind (resultsS E f l) fun vs => M.pure (v :: vs)
theorem resultsS_eq {E : Env} {f : SF} (h : f.ok) : ∀ l : List ResultVar, resultsS E f l = resultsA E f.fr l
  | [] => rfl
  | r :: l => by
    unfold resultsS resultsA
    rw [resultsS_eq h l]
    congr 1
    cases r with
    | tmp t => show M.pure _ = M.pure _; rw [SF.get_fr h]
    | cell a t => show loadA E t _ = loadA E t _; rw [SF.get_fr h]


/-- What a call answers: known beforehand, or by its code. -/
noncomputable def callP (E : Env) : Nat → CallP
  | 0 => fun _ _ _ _ => False
  | d + 1 => fun g args s K =>
    (∃ F v s', E.dk g = some F ∧ knownF F args s = some (v, s') ∧ K v s') ∨
    ((E.dk g = none ∧ E.sk g = none ∧ E.pk g = none) ∧ ∃ fn c, E.fn g = some fn ∧ fn.body = some c ∧ (Nat.ble (max fn.ntmps args.length) 1024 && Nat.ble (depth c) 1000) = true ∧
      codeP E (callP E d) c (SF.init fn.ntmps args) { s with log := [], wlog := [] } fun x f s' => match x with
        | .exit _ => False
        | _ => ∃ vs s2, resultsS E f fn.results.toList s' = some (vs, s2) ∧ K (oneOf vs) { s2 with log := below s.next s2.log ++ s.log, wlog := below s.next s2.wlog ++ s.wlog })

theorem call_spec {E : Env} : ∀ d, (callP E d).fitsFrom E (1000 * d)
  | 0 => fun j _ f args s K h => h.elim
  | d + 1 => by
    intro j hj g args s K h
    unfold callP at h
    rcases h with ⟨F, v, s', hF, hk, hK⟩ | ⟨⟨hdk, hsk, hpk⟩, fn, c, hfn, hb, hle, h⟩
    · exact ⟨v, s', by unfold callF; rw [hF]; exact hk, hK⟩
    · rw [Bool.and_eq_true] at hle
      obtain ⟨x, f', s', a1, b1, c1⟩ := code_spec (call_spec d) c _ _ _ j (SF.init_ok hle.1) h (by have := Nat.le_of_ble_eq_true hle.2; omega)
      rw [SF.init_fr] at b1
      rw [resultsS_eq a1] at c1
      have fin : ∀ vs s2, resultsA E f'.fr fn.results.toList s' = some (vs, s2) → x ≠ .normal ∧ x ≠ .ret → False := fun _ _ _ hx => by
        cases x with
        | normal => exact hx.1 rfl
        | ret => exact hx.2 rfl
        | exit k => exact c1
      cases x with
      | exit k => exact c1.elim
      | normal =>
        obtain ⟨vs, s2, h1, h2⟩ := c1
        refine ⟨oneOf vs, _, ?_, h2⟩
        unfold callF
        rw [hdk]
        simp only [hsk, hpk, hfn, hb, hle.1, cond_true, M.within_eq, M.bind_eq, b1, h1]
        rfl
      | ret =>
        obtain ⟨vs, s2, h1, h2⟩ := c1
        refine ⟨oneOf vs, _, ?_, h2⟩
        unfold callF
        rw [hdk]
        simp only [hsk, hpk, hfn, hb, hle.1, cond_true, M.within_eq, M.bind_eq, b1, h1]
        rfl

/-- Known of cold things, with nothing made. -/
theorem known_at {F : List Value → Option (Value × List (Nat × List Value))} {args : List Value} {v : Value} {s : St} (_hc : M.mapL (coolN 8) args s = some (args, s)) (hl : ∀ l w, M.mapL (coolN 8) args { s with log := l, wlog := w } = some (args, { s with log := l, wlog := w })) (hF : F args = some (v, []))
    (hs : shiftN (fun r => some (Nat.add s.next r)) 3 v = some v) : knownF F args s = some (v, s) := by
  unfold knownF
  rw [M.within_eq]
  simp only [M.bind_eq, hl, M.lift_eq, hF]
  have h1 : M.guard (coldRows []) { s with log := [], wlog := [] } = some ((), { s with log := [], wlog := [] }) := rfl
  simp only [h1, M.nextId, freshes, M.pure, hs]
  rfl

/-- Code, with loops. -/
noncomputable def wpP (E : Env) (cp : CallP) (lo : Nat) : Code → SF → St → (X → SF → St → Prop) → Prop
  | .skip, f, s, K => K .normal f s
  | .label _, f, s, K => K .normal f s
  | .ret, f, s, K => K .ret f s
  | .exit id, f, s, K => K (.exit id) f s
  | .region _ ops draw, f, s, K => pickP draw (drawP E cp ops (Region.before ops) ops.toList 0 [] f s (K .normal)) (opsP E cp ops ops.toList f s (K .normal))
  | .seq a b, f, s, K => wpP E cp lo a f s fun x f s => match x with | .normal => wpP E cp lo b f s K | x => K x f s
  | .cond c a b, f, s, K => match f.eval c with | .bool t => pickP t (wpP E cp lo a f s K) (wpP E cp lo b f s K) | _ => False
  | .block id c, f, s, K => wpP E cp lo c f s fun x f s => match x with | .exit k => pickP (Nat.beq k id) (K .normal f s) (K (.exit k) f s) | x => K x f s
  | .scope c, f, s, K => wpP E cp lo c f s K
  | .loop c, f, s, K => Wp E lo (.loop c) f.fr s fun x fr s => ∃ f', f'.ok ∧ fr = f'.fr ∧ K x f' s
  | _, _, _, _ => False

/-- What holds at an end. -/
def ends (K : X → SF → St → Prop) : Post := fun x fr s => ∃ f', f'.ok ∧ fr = f'.fr ∧ K x f' s

theorem wp_spec {E : Env} (ok : E.Ok) (cok : E.Coded) {cp : CallP} {N lo : Nat} (hc : cp.fitsFrom E N) : ∀ (c : Code) (f : SF) (s : St) (K : X → SF → St → Prop), codeOk E c = true → f.ok → wpP E cp lo c f s K → Wp E lo c f.fr s (ends K) := by
  intro c
  induction c with
  | skip => exact fun f s K _ hf h => Wp.skip ⟨f, hf, rfl, h⟩
  | label => exact fun f s K _ hf h => Wp.label ⟨f, hf, rfl, h⟩
  | ret => exact fun f s K _ hf h => Wp.ret ⟨f, hf, rfl, h⟩
  | exit id => exact fun f s K _ hf h => Wp.exit ⟨f, hf, rfl, h⟩
  | region id ops draw =>
    intro f s K hok hf h
    have hc' := hc N (Nat.le_refl _)
    unfold wpP at h
    cases draw with
    | true =>
      obtain ⟨f', s', a, b, d⟩ := draw_spec hc' ops.toList 0 [] f s _ hf h
      exact Wp.draw ok cok hok b ⟨f', a, rfl, d⟩
    | false =>
      obtain ⟨f', s', a, b, d⟩ := ops_spec hc' ops.toList f s _ hf h
      exact Wp.region ok cok hok b ⟨f', a, rfl, d⟩
  | seq a b iha ihb =>
    intro f s K hok hf h
    unfold codeOk at hok
    rw [Bool.and_eq_true] at hok
    unfold wpP at h
    refine Wp.seq ((iha f s _ hok.1 hf h).post fun x fr s1 ⟨f1, a1, e1, k1⟩ => ?_)
    subst e1
    cases x with
    | normal => exact ihb f1 s1 K hok.2 a1 k1
    | exit k => exact ⟨f1, a1, rfl, k1⟩
    | ret => exact ⟨f1, a1, rfl, k1⟩
  | cond c a b iha ihb =>
    intro f s K hok hf h
    unfold codeOk at hok
    rw [Bool.and_eq_true, Bool.and_eq_true] at hok
    unfold wpP at h
    split at h
    · rename_i t ht
      rw [← SF.eval_fr hf] at ht
      exact Wp.cond hok.1.1 ht (fun e => by subst e; exact iha f s K hok.1.2 hf h) (fun e => by subst e; exact ihb f s K hok.2 hf h)
    · exact h.elim
  | block id c ih =>
    intro f s K hok hf h
    unfold codeOk at hok
    unfold wpP at h
    refine Wp.block ((ih f s _ hok hf h).post fun x fr s1 ⟨f1, a1, e1, k1⟩ => ?_)
    subst e1
    cases x with
    | normal => exact ⟨f1, a1, rfl, k1⟩
    | ret => exact ⟨f1, a1, rfl, k1⟩
    | exit k =>
      simp only at k1
      show (bif Nat.beq k id then _ else _)
      cases hk : Nat.beq k id with
      | true => rw [hk] at k1; exact ⟨f1, a1, rfl, k1⟩
      | false => rw [hk] at k1; exact ⟨f1, a1, rfl, k1⟩
  | scope c ih =>
    intro f s K hok hf h
    unfold codeOk at hok
    unfold wpP at h
    exact Wp.scope (ih f s K hok hf h)
  | loop c => intro f s K hok hf h; unfold wpP at h; exact h
  | goto l => intro f s K hok hf h; unfold wpP at h; exact h.elim
  | rangeFunc g ps c1 c2 => intro f s K hok hf h; unfold wpP at h; exact h.elim
  | refuse m => intro f s K hok hf h; unfold wpP at h; exact h.elim

/-- Of a frame only some slots are kept in mind. -/
theorem weak_slots {E : Env} {lo : Nat} {f : SF} {s : St} (hf : f.ok) {l : List (Nat × Value)} (h : ∀ p, p ∈ l → p.1 < f.n ∧ f.get p.1 = p.2) : (⟨f.n, junk, l⟩ : SF).ok ∧ Weak E lo f.fr s (⟨f.n, junk, l⟩ : SF).fr s := by
  have hok : (⟨f.n, junk, l⟩ : SF).ok := ⟨hf.1, fun p hp => (h p hp).1⟩
  refine ⟨hok, fun hl => ⟨hl, fun base μ a w hr => ⟨μ, ⟨⟨hr.fr.n, hr.fr.le, fun t ht => ?_⟩, hr.st, hr.gl, hr.nx⟩, Went.refl _ _ _ _⟩⟩⟩
  have ht' : t < f.n := ht
  have e1 : FT.get 5 (⟨f.n, junk, l⟩ : SF).fr.t t = look junk l t := look_tree f.n hf.1 junk l (fun p hp => (h p hp).1) t ht'
  rw [e1]
  have key : ∀ l : List (Nat × Value), (∀ p, p ∈ l → p.1 < f.n ∧ f.get p.1 = p.2) → look junk l t = junk ∨ look junk l t = f.get t := by
    intro l
    induction l with
    | nil => intro _; exact Or.inl rfl
    | cons p l ih =>
      intro h
      rw [look, beq_ite]
      by_cases e : p.1 = t
      · rw [if_pos e]; right; rw [← e]; exact (h p (by simp)).2.symm
      · rw [if_neg e]; exact ih fun q hq => h q (by simp [hq])
  rcases key l h with e | e
  · rw [e]; exact .any _
  · rw [e, ← SF.get_fr hf]; exact hr.fr.get t

/-- A loop: at its head I holds of some slots; a number goes down. -/
theorem loop_spec {E : Env} (ok : E.Ok) (cok : E.Coded) {cp : CallP} {N lo : Nat} (hc : cp.fitsFrom E N) {c : Code} {f : SF} {s : St} {K : X → SF → St → Prop} (hok : codeOk E c = true) (I : Nat → SF → St → Prop)
    {m0 : Nat} {f0 : SF} {s0 : St} (hf0 : f0.ok) (hw : Weak E lo f.fr s f0.fr s0) (h0 : I m0 f0 s0)
    (h : ∀ m f s, f.ok → I m f s → wpP E cp lo c f s fun x f s => match x with | .normal => ∃ k f' s', k < m ∧ f'.ok ∧ Weak E lo f.fr s f'.fr s' ∧ I k f' s' | x => K x f s) : Wp E lo (.loop c) f.fr s (ends K) := by
  refine Wp.pre hw (Wp.loop (fun m fr s => ∃ f, f.ok ∧ fr = f.fr ∧ I m f s) ⟨f0, hf0, rfl, h0⟩ fun m fr s ⟨f1, a1, e1, i1⟩ => ?_)
  subst e1
  refine (wp_spec ok cok hc c f1 s _ hok a1 (h m f1 s a1 i1)).weak fun x fr2 s2 ⟨f2, a2, e2, k2⟩ => ?_
  subst e2
  cases x with
  | normal =>
    obtain ⟨k, f', s', hk, a3, w3, i3⟩ := k2
    exact ⟨f'.fr, s', w3, k, hk, f', a3, rfl, i3⟩
  | exit k => exact ⟨f2.fr, s2, fun hl => ⟨hl, fun base μ a w hr => ⟨μ, hr, Went.refl _ _ _ _⟩⟩, f2, a2, rfl, k2⟩
  | ret => exact ⟨f2.fr, s2, fun hl => ⟨hl, fun base μ a w hr => ⟨μ, hr, Went.refl _ _ _ _⟩⟩, f2, a2, rfl, k2⟩

/-- A function of cold things, gone through. -/
theorem deep_of_wpP {E : Env} (ok : E.Ok) (cok : E.Coded) {n0 d : Nat} (hg : ∀ g, E.glob g = true → g < n0) {f : FuncId} {fn : Func} {c : Code} (hf : E.fn f = some fn) (hb : fn.body = some c) {ds : List Value}
    (hle : Nat.ble (max fn.ntmps ds.length) 1024 = true) {fl : List (List Bool)} {v : Value} {rows : List (Nat × List Value)}
    (h : wpP E (callP E d) n0 c (SF.init fn.ntmps ds) (St.empty n0) fun x f s => match x with
      | .exit _ => False
      | _ => ∃ vs s2, resultsS E f fn.results.toList s = some (vs, s2) ∧ packed fl (oneOf vs) s2 = some (v, rows)) (hz : ∀ b, E.fz b = none := by intro _; rfl) : DeepOk E.P f ds v rows := by
  refine deep_of_wp ok hg (ok.fn f fn hf).1 hb hle (fl := fl) ?_ hz
  rw [← SF.init_fr]
  refine (wp_spec ok cok (call_spec d) c _ _ _ (cok f fn c hf hb) (SF.init_ok hle) h).post fun x fr s ⟨f', a', e', k'⟩ => ?_
  subst e'
  cases x <;> (first | exact k' | (simp only [resultsS_eq a'] at k'; exact k'))

noncomputable def SF.okB (f : SF) : Bool := Nat.ble f.n 1024 && f.l.all fun p => Nat.blt p.1 f.n
theorem SF.ok_of {f : SF} (h : f.okB = true) : f.ok := by
  unfold SF.okB at h
  rw [Bool.and_eq_true, List.all_eq_true] at h
  exact ⟨Nat.le_of_ble_eq_true h.1, fun p hp => blt_lt0 (h.2 p hp)⟩
/-- Slots that hold what they should. -/
def keepsP (f : SF) : List (Nat × Value) → Prop
  | [] => True
  | p :: l => (Nat.blt p.1 f.n = true ∧ f.get p.1 = p.2) ∧ keepsP f l
theorem keeps_get {f : SF} : ∀ {l : List (Nat × Value)}, keepsP f l → ∀ p, p ∈ l → p.1 < f.n ∧ f.get p.1 = p.2
  | [], _, p, hp => by simp at hp
  | q :: l, h, p, hp => by
    rcases List.mem_cons.1 hp with e | e
    · subst e; exact ⟨blt_lt0 h.1.1, h.1.2⟩
    · exact keeps_get h.2 p e
/-- The slots that are kept in mind. -/
noncomputable def SF.kept (n : Nat) (l : List (Nat × Value)) : SF := ⟨n, junk, l⟩
/-- To a loop's head: what holds there of the slots that are kept in mind. -/
theorem loop_at {E : Env} (ok : E.Ok) (cok : E.Coded) {cp : CallP} {N lo : Nat} (hc : cp.fitsFrom E N) {c : Code} {f : SF} {s : St} {K : X → SF → St → Prop} (I : Nat → SF → St → Prop)
    (m0 n : Nat) (l : List (Nat × Value)) (hok : codeOk E c = true) (hn : f.n = n) (hb : f.okB = true) (hk : keepsP f l) (h0 : I m0 (SF.kept n l) s)
    (h : ∀ m f s, I m f s → wpP E cp lo c f s fun x f s => match x with | .normal => ∃ k f' s', k < m ∧ f'.ok ∧ Weak E lo f.fr s f'.fr s' ∧ I k f' s' | x => K x f s) : Wp E lo (.loop c) f.fr s (ends K) := by
  subst hn
  have hw := weak_slots (E := E) (lo := lo) (s := s) (SF.ok_of hb) (keeps_get hk)
  exact loop_spec ok cok hc hok I hw.1 hw.2 h0 fun m f s _ hI => h m f s hI
/-- The end of a round. -/
theorem round_to {E : Env} {lo : Nat} {I : Nat → SF → St → Prop} {f : SF} {s : St} {k m n : Nat} (l : List (Nat × Value)) (hn : f.n = n) (hb : f.okB = true) (hk : keepsP f l) (hlt : k < m) (hI : I k (SF.kept n l) s) :
    ∃ k f' s', k < m ∧ f'.ok ∧ Weak E lo f.fr s f'.fr s' ∧ I k f' s' := by
  subst hn
  have hw := weak_slots (E := E) (lo := lo) (s := s) (SF.ok_of hb) (keeps_get hk)
  exact ⟨k, _, s, hlt, hw.1, hw.2, hI⟩
theorem wrap_i64 {z : Int} (h1 : -9223372036854775808 ≤ z) (h2 : z ≤ 9223372036854775807) : IntKind.i64.wrap z = z := IntWalk.i64_in _ ⟨h1, h2⟩
end Go.Cm
namespace Go.Cm
open Go Go.RowKit

/-- A value with other names for its rows. -/
noncomputable def renV (g : Nat → Option Nat) : Nat → Value → Option Value
  | 0, _ => none
  | k + 1, v => match v with
    | .pointer (some ⟨r, off, none⟩) => (g r).map fun q => .pointer (some ⟨q, off, none⟩)
    | .slice (some ⟨r, off, sp⟩) n c => (g r).map fun q => .slice (some ⟨q, off, sp⟩) n c
    | .map (some r) => (g r).map fun q => .map (some q)
    | .func (.func f) a c => (optL (renV g k) a.toList).bind fun a => (optL (renV g k) c.toList).map fun c => .func (.func f) ⟨a⟩ ⟨c⟩
    | .iface t v => (renV g k v).map fun v => .iface t v
    | .agg cs => (optL (renV g k) cs.toList).map fun l => .agg ⟨l⟩
    | .tuple cs => (optL (renV g k) cs.toList).map fun l => .tuple ⟨l⟩
    | v => bif plain v then some v else (match asFz v with | some _ => some v | none => none)

theorem ren_ok {μ μ2 : Mu} {g : Nat → Option Nat} (hat : ∀ r q, g r = some q → μ2 q = μ r) (hfz : μ2.fz = μ.fz) : ∀ (k : Nat) (v u v' : Value), renV g k v = some u → VRel μ v v' → VRel μ2 u v'
  | 0, _, _, _, h, _ => by unfold renV at h; cases h
  | k + 1, v, u, v', h, hv => by
    have ih := ren_ok hat hfz k
    have il : ∀ (l us l' : List Value), optL (renV g k) l = some us → VRels μ l l' → VRels μ2 us l' := by
      intro l us l' h hv
      obtain ⟨h1, h2⟩ := optL_some h
      refine VRels.of_get _ _ (by rw [hv.length, h1]) fun i u hu => ?_
      have hi : i < l.length := by
        rcases Nat.lt_or_ge i us.length with h | h
        · omega
        · rw [List.getElem?_eq_none h] at hu; cases hu
      obtain ⟨v', a, c⟩ := hv.get i _ (List.getElem?_eq_getElem hi)
      obtain ⟨u', d, e⟩ := h2 i _ (List.getElem?_eq_getElem hi)
      rw [hu] at d; injection d with d; subst d
      exact ⟨v', a, ih _ _ _ e c⟩
    unfold renV at h
    split at h
    · rename_i r off
      rw [Option.map_eq_some_iff] at h
      obtain ⟨q, hq, rfl⟩ := h
      obtain ⟨L, hL, rfl⟩ := hv.ofPtr
      exact .ptr _ _ L ((hat r q hq).trans hL)
    · rename_i r off spot n c
      rw [Option.map_eq_some_iff] at h
      obtain ⟨q, hq, rfl⟩ := h
      rcases hv.ofSlice with ⟨K, hsp, hK, e1⟩ | ⟨K, cap', hsp, hK, hc1, hx1, e1⟩ | ⟨a', h0, h1, e1⟩
      · simp only at hsp; subst hsp; subst e1; exact .slice _ _ _ _ K ((hat r q hq).trans hK)
      · simp only at hsp; subst hsp; subst e1; exact .grown _ _ _ _ _ K ((hat r q hq).trans hK) hc1 hx1
      · subst h0; subst h1; subst e1; exact .over _ _
    · rename_i r
      rw [Option.map_eq_some_iff] at h
      obtain ⟨q, hq, rfl⟩ := h
      obtain ⟨L, hL, rfl⟩ := hv.ofMap
      exact .map _ L ((hat r q hq).trans hL)
    · rename_i f a c
      simp only [Option.bind_eq_some_iff, Option.map_eq_some_iff] at h
      obtain ⟨a2, ha, c2, hc, rfl⟩ := h
      obtain ⟨a', c', rfl, ha', hc'⟩ := hv.ofFunc
      exact .func _ _ _ _ _ (il _ _ _ ha ha') (il _ _ _ hc hc')
    · rename_i t v
      rw [Option.map_eq_some_iff] at h
      obtain ⟨u2, hu, rfl⟩ := h
      obtain ⟨v2, rfl, hv2⟩ := hv.ofIface
      exact .iface _ _ _ (ih _ _ _ hu hv2)
    · rw [Option.map_eq_some_iff] at h
      obtain ⟨l, hl, rfl⟩ := h
      obtain ⟨c', rfl, hc⟩ := hv.ofAgg
      exact .agg _ _ (il _ _ _ hl hc)
    · rw [Option.map_eq_some_iff] at h
      obtain ⟨l, hl, rfl⟩ := h
      obtain ⟨c', rfl, hc⟩ := hv.ofTuple
      exact .tuple _ _ (il _ _ _ hl hc)
    · cases hp : plain v with
      | true =>
        rw [hp, cond_true] at h; injection h with h; subst h
        have := hv.eq hp; subst this; exact .plain _ hp
      | false =>
        rw [hp, cond_false] at h
        cases hz : asFz v with
        | none => rw [hz] at h; cases h
        | some p =>
          simp only [hz, Option.some.injEq] at h; subst h
          have := hv.toCold hz
          rw [← hfz] at this
          exact this.rel

/-- A row of cells with other names: it bears none, or they are turned. -/
def RenRow (g : Nat → Option Nat) (x y : Row) : Prop :=
  (∃ ro es cs, x = .cells ro es cs ∧ y = x ∧ coldsB cs = true) ∨ ∃ ro es cs ds, x = .cells ro es cs ∧ y = .cells ro es ds ∧ optL (renV g 5) cs = some ds

/-- The names that go on: what they were, and what they are. -/
noncomputable def nameTo (lo : Nat) : List (Nat × Nat) → Nat → Option Nat
  | [], r => bif Nat.blt r lo then some r else none
  | p :: m, r => bif Nat.beq p.1 r then some p.2 else nameTo lo m r
noncomputable def nameOf : List (Nat × Nat) → Nat → Option Nat
  | [], _ => none
  | p :: m, q => bif Nat.beq p.2 q then some p.1 else nameOf m q
noncomputable def goodMap (lo next : Nat) : List (Nat × Nat) → Bool
  | [] => true
  | p :: m => bif (Nat.ble lo p.1 && Nat.ble lo p.2 && Nat.blt p.2 next && (nameOf m p.2).isNone) then goodMap lo next m else false

theorem goodMap_spec {lo next : Nat} : ∀ {m : List (Nat × Nat)}, goodMap lo next m = true → (∀ r q, nameTo lo m r = some q → (r < lo ∧ q = r) ∨ (lo ≤ q ∧ q < next ∧ nameOf m q = some r)) ∧ ∀ q r, nameOf m q = some r → lo ≤ q ∧ q < next
  | [], _ => by
    refine ⟨fun r q h => ?_, fun q r h => by cases h⟩
    unfold nameTo at h
    cases hb : Nat.blt r lo with
    | true => rw [hb, cond_true] at h; injection h with h; exact Or.inl ⟨blt_lt0 hb, h.symm⟩
    | false => rw [hb] at h; cases h
  | p :: m, h => by
    unfold goodMap at h
    cases hg : (Nat.ble lo p.1 && Nat.ble lo p.2 && Nat.blt p.2 next && (nameOf m p.2).isNone) with
    | false => rw [hg] at h; cases h
    | true =>
      rw [hg, cond_true] at h
      simp only [Bool.and_eq_true] at hg
      obtain ⟨⟨⟨g1, g2⟩, g3⟩, g4⟩ := hg
      have h1 := Nat.le_of_ble_eq_true g1
      have h2 := Nat.le_of_ble_eq_true g2
      have h3 := blt_lt0 g3
      obtain ⟨ih1, ih2⟩ := goodMap_spec h
      refine ⟨fun r q hq => ?_, fun q r hq => ?_⟩
      · rw [nameTo, beq_ite] at hq
        rw [nameOf, beq_ite]
        by_cases e : p.1 = r
        · rw [if_pos e] at hq; injection hq with hq; subst hq
          exact Or.inr ⟨h2, h3, by rw [if_pos rfl, e]⟩
        · rw [if_neg e] at hq
          rcases ih1 r q hq with hh | ⟨a, b, c⟩
          · exact Or.inl hh
          · refine Or.inr ⟨a, b, ?_⟩
            rw [if_neg]; exact c
            intro e2; rw [e2, c] at g4; cases g4
      · rw [nameOf, beq_ite] at hq
        by_cases e : p.2 = q
        · subst e; exact ⟨h2, h3⟩
        · rw [if_neg e] at hq; exact ih2 q r hq

noncomputable def rowsT : List (Nat × Row) → D Row
  | [] => .leaf
  | p :: l => D.put (some p.2) deep (rowsT l) p.1
/-- A state of so many names, and these rows. -/
noncomputable def St.of (next : Nat) (l : List (Nat × Row)) : St := ⟨rowsT l, next, [], []⟩
theorem rowsT_get : ∀ {l : List (Nat × Row)} {q : Nat} {x : Row}, (l.all fun p => Nat.ble p.1 1000000000) = true → (rowsT l).get q = some x → (q, x) ∈ l
  | [], q, x, _, h => by rw [rowsT, D.get_leaf] at h; cases h
  | p :: l, q, x, hb, h => by
    simp only [List.all_cons, Bool.and_eq_true] at hb
    rw [rowsT, D.got _ _ _ _ hb.1] at h
    by_cases e : q = p.1
    · rw [if_pos e] at h; injection h with h; subst h; subst e; simp
    · rw [if_neg e] at h; exact List.mem_cons_of_mem _ (rowsT_get hb.2 h)

/-- Each row that goes on was one. -/
def rowsP (g : Nat → Option Nat) (s : St) : List (Nat × Nat × Row) → Prop
  | [] => True
  | p :: l => (g p.1 = some p.2.1 ∧ ∃ x, s.rows.get p.1 = some x ∧ RenRow g x p.2.2) ∧ rowsP g s l
theorem rowsP_get {g : Nat → Option Nat} {s : St} : ∀ {l : List (Nat × Nat × Row)}, rowsP g s l → ∀ p, p ∈ l → g p.1 = some p.2.1 ∧ ∃ x, s.rows.get p.1 = some x ∧ RenRow g x p.2.2
  | [], _, p, hp => by simp at hp
  | q :: l, h, p, hp => by
    rcases List.mem_cons.1 hp with e | e
    · subst e; exact h.1
    · exact rowsP_get h.2 p e
def slotsP (g : Nat → Option Nat) (f : SF) : List (Nat × Value) → Prop
  | [] => True
  | p :: l => (Nat.blt p.1 f.n = true ∧ renV g 5 (f.get p.1) = some p.2) ∧ slotsP g f l
theorem slotsP_get {g : Nat → Option Nat} {f : SF} : ∀ {l : List (Nat × Value)}, slotsP g f l → ∀ p, p ∈ l → p.1 < f.n ∧ renV g 5 (f.get p.1) = some p.2
  | [], _, p, hp => by simp at hp
  | q :: l, h, p, hp => by
    rcases List.mem_cons.1 hp with e | e
    · subst e; exact ⟨blt_lt0 h.1.1, h.1.2⟩
    · exact slotsP_get h.2 p e

/-- Of a frame and a state some slots, and some rows, go on, under other names. -/
theorem weak_ren {E : Env} {lo : Nat} (hgl : ∀ g, E.glob g = true → g < lo) {f : SF} {s : St} (m : List (Nat × Nat)) (l : List (Nat × Value)) (rows : List (Nat × Nat × Row)) (next : Nat) (hb : f.okB = true) (hm : goodMap lo next m = true) (hn : Nat.ble lo next = true)
    (hs : slotsP (nameTo lo m) f l) (hr : rowsP (nameTo lo m) s rows) (hk : (rows.all fun p => Nat.ble p.2.1 1000000000) = true) :
    (SF.kept f.n l).ok ∧ Weak E lo f.fr s (SF.kept f.n l).fr (St.of next (rows.map fun p => p.2)) := by
  have hf := SF.ok_of hb
  have hok : (SF.kept f.n l).ok := ⟨hf.1, fun p hp => (slotsP_get hs p hp).1⟩
  have hn' := Nat.le_of_ble_eq_true hn
  obtain ⟨g1, g2⟩ := goodMap_spec hm
  refine ⟨hok, fun hl => ⟨hn', fun base μ a w hrel => ?_⟩⟩
  let μ2 : Mu := ⟨fun q => if q < lo then μ q else (nameOf m q).bind fun r => μ r, μ.fz, μ.sy⟩
  have hlow : ∀ q, q < lo → μ2 q = μ q := fun q hq => if_pos hq
  have hat : ∀ r q, nameTo lo m r = some q → μ2 q = μ r := by
    intro r q h
    rcases g1 r q h with ⟨h1, h2⟩ | ⟨h1, h2, h3⟩
    · rw [h2]; exact hlow r h1
    · show (if q < lo then μ q else (nameOf m q).bind fun r => μ r) = μ r
      rw [if_neg (by omega), h3]; rfl
  have hrow : ∀ q x, (St.of next (rows.map fun p => p.2)).rows.get q = some x → ∃ r y, nameTo lo m r = some q ∧ s.rows.get r = some y ∧ RenRow (nameTo lo m) y x := by
    intro q x h
    have := rowsT_get (by rw [List.all_map]; exact hk) h
    rw [List.mem_map] at this
    obtain ⟨p, hp, e⟩ := this
    obtain ⟨h1, y, h2, h3⟩ := rowsP_get hr p hp
    refine ⟨p.1, y, ?_, h2, ?_⟩
    · rw [h1, e]
    · rw [e] at h3; exact h3
  have hfree : ∀ y x, RenRow (nameTo lo m) y x → x.free = y.free := by
    rintro y x (⟨ro, es, cs, rfl, rfl, _⟩ | ⟨ro, es, cs, ds, rfl, rfl, _⟩) <;> rfl
  refine ⟨μ2, ⟨⟨hrel.fr.n, hrel.fr.le, fun t ht => ?_⟩, ?_, ⟨fun g hg => ?_, hrel.gl.2⟩, fun r h => ?_⟩, ⟨hlow, fun _ _ h => h, fun _ a b => absurd a b, Below.refl _ _⟩⟩
  · have ht' : t < f.n := ht
    have e1 : FT.get 5 (SF.kept f.n l).fr.t t = look junk l t := look_tree f.n hf.1 junk l (fun p hp => (slotsP_get hs p hp).1) t ht'
    rw [e1]
    have key : ∀ l : List (Nat × Value), (∀ p, p ∈ l → p.1 < f.n ∧ renV (nameTo lo m) 5 (f.get p.1) = some p.2) → look junk l t = junk ∨ renV (nameTo lo m) 5 (f.get t) = some (look junk l t) := by
      intro l
      induction l with
      | nil => intro _; exact Or.inl rfl
      | cons p l ih =>
        intro h
        rw [look, beq_ite]
        by_cases e : p.1 = t
        · rw [if_pos e]; right; rw [← e]; exact (h p (by simp)).2
        · rw [if_neg e]; exact ih fun q hq => h q (by simp [hq])
    rcases key l (slotsP_get hs) with e | e
    · rw [e]; exact .any _
    · rw [← SF.get_fr hf] at e
      exact ren_ok hat rfl 5 _ _ _ e (hrel.fr.get t)
  · refine ⟨hrel.st.ge, fun q x L hx e => ?_, fun q x hx => ?_, fun q1 q2 x y K1 K2 hne hx hy e1 e2 hf => ?_, hrel.st.cold, fun q x K hx hf e => ?_, fun q x K hx e => ?_⟩
    · obtain ⟨r, y, h1, h2, h3⟩ := hrow q x hx
      rw [hat r q h1] at e; exact hrel.st.dom r y L h2 e
    · obtain ⟨r, y, h1, h2, h3⟩ := hrow q x hx
      obtain ⟨L, hL, hro⟩ := hrel.st.row r y h2
      refine ⟨L, by rw [hat r q h1]; exact hL, ?_⟩
      rcases h3 with ⟨ro, es, cs, rfl, rfl, hcs⟩ | ⟨ro, es, cs, ds, rfl, rfl, hcs⟩
      · obtain ⟨k1, k2, k3⟩ := hro
        exact ⟨fun i v hv => by
          obtain ⟨v', a1, a2⟩ := k1 i v hv
          have := a2.ofColdB (coldsB_get hcs i v hv)
          exact ⟨v', a1, (show Cold μ2.fz v v' from this).rel⟩, k2, k3⟩
      · obtain ⟨k1, k2, k3⟩ := hro
        obtain ⟨j1, j2⟩ := optL_some hcs
        exact ⟨fun i v hv => by
          have hi : i < cs.length := by
            rcases Nat.lt_or_ge i ds.length with h | h
            · omega
            · rw [List.getElem?_eq_none h] at hv; cases hv
          obtain ⟨u, d1, d2⟩ := j2 i _ (List.getElem?_eq_getElem hi)
          rw [hv] at d1; injection d1 with d1; subst d1
          obtain ⟨v', a1, a2⟩ := k1 i _ (List.getElem?_eq_getElem hi)
          exact ⟨v', a1, ren_ok hat rfl 5 _ _ _ d2 a2⟩, by rw [j1]; exact k2, k3⟩
    · obtain ⟨r1, y1, a1, a2, a3⟩ := hrow q1 x hx
      obtain ⟨r2, y2, b1, b2, b3⟩ := hrow q2 y hy
      rw [hat r1 q1 a1] at e1; rw [hat r2 q2 b1] at e2
      refine hrel.st.apart r1 r2 y1 y2 K1 K2 (fun e => ?_) a2 b2 e1 e2 (by rw [← hfree _ _ a3]; exact hf)
      subst e; rw [a1] at b1; injection b1 with b1; exact hne b1
    · obtain ⟨r1, y1, a1, a2, a3⟩ := hrow q x hx
      rw [hat r1 q a1] at e
      exact hrel.st.hot r1 y1 K a2 (by rw [← hfree _ _ a3]; exact hf) e
    · obtain ⟨r1, y1, a1, a2, a3⟩ := hrow q x hx
      rw [hat r1 q a1] at e
      exact hrel.st.old r1 y1 K a2 e
  · obtain ⟨e, z, ty, hz⟩ := hrel.gl.1 g hg
    exact ⟨e, z, ty, by rw [hlow g (hgl g hg)]; exact hz⟩
  · have h' : next ≤ r := h
    show (if r < lo then μ r else (nameOf m r).bind fun r => μ r) = none
    rw [if_neg (by omega)]
    cases e : nameOf m r with
    | none => rfl
    | some q => have := (g2 r q e).2; omega
end Go.Cm
namespace Go.Cm
open Go Go.RowKit

theorem load_hot {E : Env} {ρ : Operand → Value} {o : Oper} {s : St} {t : TypeId} {a : Operand} {r off es : Nat} {fl : Bool} {cs : List Value} {v : Value} (ho : o.op = .load t a) (ha : ρ a = .pointer (some ⟨r, off, none⟩))
    (hr : Nat.blt r s.next = true) (hx : s.rows.get r = some (.cells fl es cs)) (hv : partA E t cs off = some v) : execA E ρ o s = some (.value v, { s with log := r :: s.log }) := by
  unfold execA
  rw [ho]
  simp only
  unfold asV loadA
  have h1 : asFz (ρ a) = none := by rw [ha]; rfl
  have h2 : asRef (ρ a) = some (r, off) := by rw [ha]; rfl
  rw [h1]
  simp only [h2, M.bind_eq, M.lift_eq]
  have h3 : M.row r s = some (.cells fl es cs, { s with log := r :: s.log }) := by
    rw [M.row_eq, hr, hx]; rfl
  simp only [h3, cellsR, hv]
  rfl
theorem part_one {E : Env} {t : TypeId} {cs : List Value} {off : Nat} {v : Value} {i : TypeInfo} (h : aggT E t = some false) (hi : E.info t = some i) (hv : cs[off]? = some v) : partA E t cs off = some v := by
  unfold partA
  rw [h, hi]
  exact hv
theorem bytes_at {st : ByteArray} {m k : Nat} {b : UInt8} (hk : k = m) (h : st.data.toList[m]? = some b) : (bytesOf st)[k]? = some (.int .u8 b.toNat) := by
  subst hk
  unfold bytesOf
  rw [List.getElem?_map, h]
  rfl
theorem has_size {E : Env} {t n : Nat} (h : (E.info t).map (fun i => i.size) = some n) : ∃ i, E.info t = some i ∧ i.size = n := by
  rw [Option.map_eq_some_iff] at h
  exact h
theorem bytes_cold (st : ByteArray) : coldsB (bytesOf st) = true := by
  unfold bytesOf
  generalize st.data.toList = l
  induction l with
  | nil => rfl
  | cons b l ih =>
    show (bif coldB (.int .u8 b.toNat) then _ else false) = true
    exact ih

/-- To a loop's head, with rows that go on. -/
theorem loop_ren {E : Env} (ok : E.Ok) (cok : E.Coded) {cp : CallP} {N lo : Nat} (hc : cp.fitsFrom E N) (hgl : ∀ g, E.glob g = true → g < lo) {c : Code} {f : SF} {s : St} {K : X → SF → St → Prop} (I : Nat → SF → St → Prop)
    (m0 n : Nat) (m : List (Nat × Nat)) (l : List (Nat × Value)) (rows : List (Nat × Nat × Row)) (next : Nat) (hok : codeOk E c = true) (hn : f.n = n) (hb : f.okB = true) (hm : goodMap lo next m = true) (hn2 : Nat.ble lo next = true)
    (hs : slotsP (nameTo lo m) f l) (hr : rowsP (nameTo lo m) s rows) (hk : (rows.all fun p => Nat.ble p.2.1 1000000000) = true) (h0 : I m0 (SF.kept n l) (St.of next (rows.map fun p => p.2)))
    (h : ∀ m f s, I m f s → wpP E cp lo c f s fun x f s => match x with | .normal => ∃ k f' s', k < m ∧ f'.ok ∧ Weak E lo f.fr s f'.fr s' ∧ I k f' s' | x => K x f s) : Wp E lo (.loop c) f.fr s (ends K) := by
  subst hn
  have hw := weak_ren (E := E) hgl m l rows next hb hm hn2 hs hr hk
  exact loop_spec ok cok hc hok I hw.1 hw.2 h0 fun m f s _ hI => h m f s hI
theorem round_ren {E : Env} {lo : Nat} (hgl : ∀ g, E.glob g = true → g < lo) {I : Nat → SF → St → Prop} {f : SF} {s : St} {k m0 n : Nat} (m : List (Nat × Nat)) (l : List (Nat × Value)) (rows : List (Nat × Nat × Row)) (next : Nat) (hn : f.n = n) (hb : f.okB = true)
    (hm : goodMap lo next m = true) (hn2 : Nat.ble lo next = true) (hs : slotsP (nameTo lo m) f l) (hr : rowsP (nameTo lo m) s rows) (hk : (rows.all fun p => Nat.ble p.2.1 1000000000) = true) (hlt : k < m0) (hI : I k (SF.kept n l) (St.of next (rows.map fun p => p.2))) :
    ∃ k f' s', k < m0 ∧ f'.ok ∧ Weak E lo f.fr s f'.fr s' ∧ I k f' s' := by
  subst hn
  have hw := weak_ren (E := E) hgl m l rows next hb hm hn2 hs hr hk
  exact ⟨k, _, _, hlt, hw.1, hw.2, hI⟩
end Go.Cm
namespace Go.Cm
open Go Go.RowKit Go.ChangeShapes Go.WideShapes

/-- The types of arguments. -/
inductive Ty where
  | bool
  | int (k : IntKind)
  | float (k : FloatKind)
  | string
  | slice (e : Ty)
  | unit
  | pair (a b : Ty)
  | agg (a : Ty)

def Ty.Has : Ty → List Value → Prop
  | .bool, cs => ∃ b, cs = [.bool b]
  | .int k, cs => ∃ i, cs = [.int k i] ∧ (Lit.int k i).wf = true
  | .float k, cs => ∃ b, cs = [.float k b] ∧ (Lit.float k b).wf = true
  | .string, cs => ∃ s, cs = [.string s] ∧ s.size ≤ maxLen
  | .slice e, cs => cs = [.slice none 0 0] ∨ ∃ els : List (List Value), els.length ≤ maxLen ∧ (∀ x ∈ els, e.Has x) ∧ cs = [fzs els.length els.flatten]
  | .unit, cs => cs = []
  | .pair a b, cs => ∃ x y, a.Has x ∧ b.Has y ∧ cs = x ++ y
  | .agg a, cs => a.Has cs

def reifyL (r : TypeId → Option Ty) : List Field → Option Ty
  | [] => some .unit
  | f :: fs => (r f.type).bind fun a => (reifyL r fs).map fun b => .pair a b
def reify (P : Program) : Nat → TypeId → Option Ty
  | 0, _ => none
  | d + 1, t =>
    match P.underlying t with
    | some .bool => some .bool
    | some (.int k) => some (.int k)
    | some (.float k) => some (.float k)
    | some .string => some .string
    | some (.slice e) => (reify P d e).map .slice
    | some (.struct fs) => (reifyL (reify P d) fs.toList).map .agg
    | _ => none

section
variable {H : Type} {enc : TypeId × Value → H} {P : Program} {w : World} {base : Nat} {spare : Nat → Bool} {held : Bool}

theorem Colds.app {fz : Nat → Option Obj} : ∀ {a a' b b' : List Value}, Colds fz a a' → Colds fz b b' → Colds fz (a ++ b) (a' ++ b')
  | [], _, _, _, h, k => by cases h; exact k
  | _ :: _, _, _, _, h, k => by cases h with | cons _ _ _ _ h hl => exact .cons _ _ _ _ h (hl.app k)

theorem cells_obj {a : Addr} {n : Nat} {cs : List Value} (h : w.cells? base a n = some cs) : cs.length = n ∧ (0 < n → a.spot = none) ∧ ∀ (j : Nat) (v : Value), cs[j]? = some v → objAt (fun b => w.heap[b]?) a.block (a.off + j) = some v := by
  unfold World.cells? at h
  split at h
  · have hl : cs.length = n := by simpa using mapM_some_length h
    have hg : ∀ (j : Nat) (v : Value), cs[j]? = some v → w.cell? (a.add j) = some v := fun j v hj => by
      have hjn : j < n := by
        rcases Nat.lt_or_ge j cs.length with h | h
        · omega
        · rw [List.getElem?_eq_none h] at hj; cases hj
      have := mapM_some_get h j j (by simp [hjn])
      rw [hj] at this
      exact this
    refine ⟨hl, fun h0 => ?_, fun j v hj => ?_⟩
    · obtain ⟨v, hv⟩ : ∃ v, cs[0]? = some v := ⟨cs[0], List.getElem?_eq_getElem (by omega)⟩
      have := hg 0 v hv
      unfold World.cell? at this
      split at this
      · split at this
        · cases this
        · rename_i hs
          simpa [Addr.add] using hs
      · cases this
    · have := hg j v hj
      unfold World.cell? at this
      unfold objAt
      by_cases hj0 : j = 0
      · subst hj0
        simp only [Addr.add, if_true] at this
        split at this
        · rename_i c _ _ hc
          show (match w.heap[a.block]? with | some (Obj.cells c _ _) => c[a.off + 0]? | _ => none) = _
          rw [hc]
          split at this
          · cases this
          · simpa using this
        · cases this
      · simp only [Addr.add, if_neg hj0] at this
        split at this
        · rename_i c _ _ hc
          show (match w.heap[a.block]? with | some (Obj.cells c _ _) => c[a.off + j]? | _ => none) = _
          rw [hc]
          simpa using this
        · cases this
  · cases h

theorem block_add (a : Addr) (n : Nat) : (a.add n).block = a.block ∧ (a.add n).off = a.off + n := by
  unfold Addr.add
  split
  · rename_i h; subst h; simp
  · simp

/-- The elements of a slice, one behind the other. -/
theorem cold_elems {e : Ty} {a : Addr} {es : Nat} : ∀ (len : Nat), (∀ i, i < len → ∃ cs ds, w.cells? base (a.add (i * es)) es = some cs ∧ Colds (fun b => w.heap[b]?) ds cs ∧ e.Has ds) →
    ∃ (els : List (List Value)) (l' : List Value), els.length = len ∧ l'.length = len * es ∧ Colds (fun b => w.heap[b]?) els.flatten l' ∧ (∀ x ∈ els, e.Has x) ∧
      ∀ (k : Nat) (v : Value), l'[k]? = some v → objAt (fun b => w.heap[b]?) a.block (a.off + k) = some v
  | 0, _ => ⟨[], [], rfl, by simp, .nil, by simp, by simp⟩
  | len + 1, h => by
    obtain ⟨els, l', h1, h2, h3, h4, h5⟩ := cold_elems len fun i hi => h i (by omega)
    obtain ⟨cs, ds, k1, k2, k3⟩ := h len (by omega)
    obtain ⟨c1, c2, c3⟩ := cells_obj k1
    refine ⟨els ++ [ds], l' ++ cs, by simp [h1], by simp [h2, c1, Nat.add_mul], ?_, ?_, ?_⟩
    · simpa using h3.app k2
    · intro x hx
      rw [List.mem_append, List.mem_singleton] at hx
      rcases hx with hx | rfl
      · exact h4 x hx
      · exact k3
    · intro k v hk
      rw [List.getElem?_append] at hk
      split at hk
      · exact h5 k v hk
      · have := c3 _ v hk
        rw [(block_add _ _).1, (block_add _ _).2] at this
        rw [show a.off + k = a.off + len * es + (k - l'.length) by omega]
        exact this

theorem fields_has {r : TypeId → Option Ty} (T : TypeId → Prop) (ih : ∀ t ty, T t → r t = some ty → ∀ n cs x, DataW.trod enc P w base spare held n t cs = some x → ∃ ds, Colds (fun b => w.heap[b]?) ds cs ∧ ty.Has ds ∧ cs.length = P.cellsOf t) :
    ∀ (fs : List Field) (ty : Ty) (n : Nat) (cs : List Value) (o : Nat), (∀ f ∈ fs, T f.type) → reifyL r fs = some ty → cs.length = o + (fs.map fun f => P.cellsOf f.type).sum →
      (∀ (j : Nat) f, fs[j]? = some f → f.offset = o + ((fs.take j).map fun f => P.cellsOf f.type).sum) → (∀ f ∈ fs, ∃ x, DataW.trod enc P w base spare held n f.type ((cs.drop f.offset).take (P.cellsOf f.type)) = some x) →
      ∃ ds, Colds (fun b => w.heap[b]?) ds (cs.drop o) ∧ ty.Has ds
  | [], ty, n, cs, o, _, hr, hl, _, _ => by
    injection hr with hr; subst hr
    have : cs.drop o = [] := List.drop_eq_nil_of_le (by simp at hl; omega)
    rw [this]
    exact ⟨[], .nil, rfl⟩
  | f :: fs, ty, n, cs, o, hT, hr, hl, ho, hx => by
    unfold reifyL at hr
    rw [Option.bind_eq_some_iff] at hr
    obtain ⟨a, ha, hr⟩ := hr
    rw [Option.map_eq_some_iff] at hr
    obtain ⟨b, hb, rfl⟩ := hr
    have ho0 : f.offset = o := by have := ho 0 f rfl; simpa using this
    obtain ⟨x, hx0⟩ := hx f (by simp)
    obtain ⟨d1, e1, e2, e3⟩ := ih f.type a (hT f (by simp)) ha n _ x hx0
    simp only [List.map_cons, List.sum_cons] at hl
    obtain ⟨d2, g1, g2⟩ := fields_has T ih fs b n cs (o + P.cellsOf f.type) (fun g hg => hT g (by simp [hg])) hb (by omega)
      (fun j g hg => by
        have := ho (j + 1) g (by simpa using hg)
        simp only [List.take_succ_cons, List.map_cons, List.sum_cons] at this
        omega) (fun g hg => hx g (by simp [hg]))
    refine ⟨d1 ++ d2, ?_, d1, d2, e2, g2, rfl⟩
    have : cs.drop o = (cs.drop o).take (P.cellsOf f.type) ++ cs.drop (o + P.cellsOf f.type) := by
      rw [← List.drop_drop]
      exact (List.take_append_drop _ _).symm
    rw [this]
    rw [ho0] at e1
    exact e1.app g1

theorem has_of_trod (K : Kids P (· < P.types.size)) (hz : ∀ t e, t < P.types.size → P.underlying t = some (.slice e) → 0 < P.cellsOf e) (h1 : ∀ t, t < P.types.size → (match P.underlying t with | some .bool | some (.int _) | some (.float _) | some .string | some (.slice _) => P.cellsOf t = 1 | _ => True)) : ∀ (d : Nat) (t : TypeId) (ty : Ty), t < P.types.size → reify P d t = some ty →
    ∀ n cs x, DataW.trod enc P w base spare held n t cs = some x → ∃ ds, Colds (fun b => w.heap[b]?) ds cs ∧ ty.Has ds ∧ cs.length = P.cellsOf t
  | 0, _, _, _, h, _, _, _, _ => by cases h
  | d + 1, t, ty, ht, h, n, cs, x, hx => by
    have hone := h1 t ht
    unfold reify at h
    split at h
    · rename_i hu
      injection h with h; subst h
      obtain ⟨b, rfl, _⟩ := DataW.trod_bool hu hx
      rw [hu] at hone
      exact ⟨_, .cons _ _ _ _ (.plain _ rfl) .nil, ⟨b, rfl⟩, hone.symm⟩
    · rename_i k hu
      injection h with h; subst h
      obtain ⟨i, rfl, _, hw⟩ := DataW.trod_int hu hx
      rw [hu] at hone
      exact ⟨_, .cons _ _ _ _ (.plain _ rfl) .nil, ⟨i, rfl, hw⟩, hone.symm⟩
    · rename_i k hu
      injection h with h; subst h
      have hfl : ∃ b, cs = [.float k b] ∧ (Lit.float k b).wf = true := by
        cases n with
        | zero => simp [DataW.trod] at hx
        | succ n =>
          unfold DataW.trod at hx
          rw [hu] at hx
          split at hx <;> simp_all
      obtain ⟨b, rfl, hw⟩ := hfl
      rw [hu] at hone
      exact ⟨_, .cons _ _ _ _ (.plain _ rfl) .nil, ⟨b, rfl, hw⟩, hone.symm⟩
    · rename_i hu
      injection h with h; subst h
      obtain ⟨s, rfl, _, hs⟩ := DataW.trod_string hu hx
      rw [hu] at hone
      exact ⟨_, .cons _ _ _ _ (.plain _ rfl) .nil, ⟨s, rfl, hs⟩, hone.symm⟩
    · rename_i e hu
      rw [Option.map_eq_some_iff] at h
      obtain ⟨te, he, rfl⟩ := h
      rw [hu] at hone
      rcases DataW.trod_slice hu hx with ⟨rfl, _⟩ | ⟨a, len, cap, elems, rest, m, rfl, rfl, _, hb, hle, hcap, hlen, hel, _, _⟩
      · exact ⟨_, .cons _ _ _ _ (.plain _ rfl) .nil, Or.inl rfl, hone.symm⟩
      · have hes := hz t e ht hu
        have hall : ∀ i, i < len → ∃ cs ds, w.cells? base (a.add (i * P.cellsOf e)) (P.cellsOf e) = some cs ∧ Colds (fun b => w.heap[b]?) ds cs ∧ te.Has ds := by
          intro i hi
          have := hel i hi
          rw [List.getElem?_eq_getElem (by omega), Option.bind_eq_some_iff] at this
          obtain ⟨cs, hc, hy⟩ := this
          obtain ⟨ds, g1, g2, _⟩ := has_of_trod K hz h1 d e te (K.slice ht hu) he m cs _ hy
          exact ⟨cs, ds, hc, g1, g2⟩
        obtain ⟨els, l', g1, g2, g3, g4, g5⟩ := cold_elems len hall
        refine ⟨[fzs els.length els.flatten], .cons _ _ _ _ ?_ .nil, Or.inr ⟨els, by omega, g4, rfl⟩, hone.symm⟩
        rw [g1]
        refine Cold.arr len els.flatten a cap l' ?_ hle g3 g5
        rcases Nat.eq_zero_or_pos len with h0 | h0
        · exact Or.inl h0
        · obtain ⟨cs, ds, hc, _, _⟩ := hall 0 h0
          have := (cells_obj hc).2.1 hes
          simp only [Nat.zero_mul, Addr.add, if_true] at this
          exact Or.inr this
    · rename_i fs hu
      rw [Option.map_eq_some_iff] at h
      obtain ⟨ta, ha, rfl⟩ := h
      obtain ⟨xs, m, rfl, _, hl, hlen, hf⟩ := DataW.trod_struct hu hx
      obtain ⟨k1, k2, k3⟩ := K.struct ht hu
      obtain ⟨ds, g1, g2⟩ := fields_has (enc := enc) (spare := spare) (held := held) (· < P.types.size) (fun t ty hT hr n cs x hx => has_of_trod K hz h1 d t ty hT hr n cs x hx) fs.toList ta m cs 0 k1 ha (by rw [hl, k2]; simp) (fun j f hj => by rw [k3 j f hj]; simp)
        (fun f hfm => by
          obtain ⟨j, hj, rfl⟩ := List.mem_iff_getElem.1 hfm
          simp only [Array.length_toList] at hj
          have := hf j fs[j] (by simp [hj])
          rw [List.getElem?_eq_getElem (by omega)] at this
          exact ⟨_, this⟩)
      exact ⟨ds, by simpa using g1, g2, hl⟩
    · cases h

/-- The arguments of a call. -/
def HasArgs : List Ty → List Value → Prop
  | [], vs => vs = []
  | .agg a :: ts, vs => ∃ cs r, a.Has cs ∧ HasArgs ts r ∧ vs = .agg ⟨cs⟩ :: r
  | t :: ts, vs => ∃ v r, t.Has [v] ∧ HasArgs ts r ∧ vs = v :: r

/-- What a program's table of types must be. -/
structure Tidy (P : Program) : Prop where
  kids : Kids P (· < P.types.size)
  full : ∀ t e, t < P.types.size → P.underlying t = some (.slice e) → 0 < P.cellsOf e
  ones : ∀ t, t < P.types.size → (match P.underlying t with | some .bool | some (.int _) | some (.float _) | some .string | some (.slice _) => P.cellsOf t = 1 | _ => True)

theorem tidy_of (P : Program) (h1 : laidOutB P = true) (h2 : mapsRowed P = true) (h3 : ((List.range P.types.size).all fun t => match P.underlying t with | some (.slice e) => decide (0 < P.cellsOf e) | _ => true) = true)
    (h4 : ((List.range P.types.size).all fun t => match P.underlying t with | some .bool | some (.int _) | some (.float _) | some .string | some (.slice _) => Nat.beq (P.cellsOf t) 1 | _ => true) = true) : Tidy P where
  kids := kids_rows h1 h2
  full := slices_full_of P h3
  ones := fun t ht => by
    have := List.all_eq_true.1 h4 t (List.mem_range.2 ht)
    revert this
    split <;> first | exact fun h => Nat.eq_of_beq_eq_true h | exact fun _ => trivial

theorem reify_agg {d : Nat} {t : TypeId} {ty : Ty} (h : reify P d t = some ty) : (∃ a fs, ty = .agg a ∧ P.underlying t = some (.struct fs)) ∨ ((∀ a, ty ≠ .agg a) ∧ ∀ fs n e, P.underlying t ≠ some (.struct fs) ∧ P.underlying t ≠ some (.array n e)) := by
  cases d with
  | zero => cases h
  | succ d =>
    unfold reify at h
    split at h
    case h_1 hu | h_2 hu | h_3 hu | h_4 hu => injection h with h; subst h; right; rw [hu]; exact ⟨by simp, by simp⟩
    case h_5 hu => rw [Option.map_eq_some_iff] at h; obtain ⟨te, he, rfl⟩ := h; right; rw [hu]; exact ⟨by simp, by simp⟩
    case h_6 fs hu => rw [Option.map_eq_some_iff] at h; obtain ⟨te, he, rfl⟩ := h; exact Or.inl ⟨te, fs, rfl, hu⟩
    case h_7 => cases h

theorem args_has (td : Tidy P) : ∀ (ts : List TypeId) (tys : List Ty) (vs : List Value) (ds : List (DataW H)) (ps : List MemPlace), DataW.TrodAll enc P w base spare held ts vs ds ps → (∀ t ∈ ts, t < P.types.size) → ts.map (reify P 6) = tys.map some →
    (∀ (j : Nat) t v, ts[j]? = some t → vs[j]? = some v → Value.okWide P w .any base t v) → ∃ cs, Colds (fun b => w.heap[b]?) cs vs ∧ HasArgs tys cs
  | [], tys, vs, ds, ps, h, _, hr, _ => by
    obtain rfl : tys = [] := by cases tys with | nil => rfl | cons => cases hr
    obtain ⟨rfl, rfl, rfl⟩ := trodAll_nil h
    exact ⟨[], .nil, rfl⟩
  | t :: ts, tys, vs, ds, ps, h, hT, hr, hok => by
    match tys, hr with
    | ty :: tys, hr =>
      have h0 : reify P 6 t = some ty := by injection hr
      have hr : ts.map (reify P 6) = tys.map some := by injection hr
      obtain ⟨v, vs1, d, ds1, a, b, rfl, rfl, rfl, k1, k2⟩ := trodAll_cons h
      obtain ⟨cs, g1, g2⟩ := args_has td ts tys vs1 ds1 b k2 (fun t ht => hT t (by simp [ht])) hr (fun j t v h1 h2 => hok (j + 1) t v (by simpa using h1) (by simpa using h2))
      obtain ⟨n, hn⟩ := k1
      obtain ⟨es, e1, e2, e3⟩ := has_of_trod td.kids td.full td.ones 6 t ty (hT t (by simp)) h0 n _ _ hn
      have hv := hok 0 t v rfl rfl
      unfold Value.okWide at hv
      rcases reify_agg h0 with ⟨ta, fs, rfl, hu⟩ | ⟨hna, hnu⟩
      · rw [hu] at hv
        obtain ⟨c, rfl, _, _⟩ := hv
        exact ⟨.agg ⟨es⟩ :: cs, .cons _ _ _ _ (.agg _ _ e1) g1, es, cs, e2, g2, rfl⟩
      · have hone : es.length = 1 := by
          have hl : es.length = v.cells.toList.length := by
            have : ∀ {l l' : List Value}, Colds (fun b => w.heap[b]?) l l' → l.length = l'.length := fun h => by
              induction h using Colds.rec (motive_1 := fun _ _ _ => True) <;> simp_all
            exact this e1
          rw [hl, e3]
          have h1 := td.ones t (hT t (by simp))
          cases n with
          | zero => simp [DataW.trod] at hn
          | succ n => 
            unfold reify at h0
            revert h1
            split at h0 <;> first | (rename_i hu; rw [hu]; exact id) | cases h0 | (rename_i fs hu; exact absurd hu (hnu fs 0 0).1)
        obtain ⟨u, rfl⟩ : ∃ u, es = [u] := by
          match es, hone with
          | [u], _ => exact ⟨u, rfl⟩
        have hcell : v.cells.toList = [v] := by
          cases v with
          | agg c =>
            exfalso
            unfold reify at h0
            split at h0
            case h_1 hu | h_2 hu | h_3 hu | h_4 hu | h_5 hu => rw [hu] at hv; simp [Cell.okWide, hu, Cell.ok] at hv
            case h_6 fs hu => exact (hnu fs 0 0).1 hu
            case h_7 => cases h0
          | _ => rfl
        rw [hcell] at e1
        cases e1 with
        | cons _ _ _ _ hc _ =>
          refine ⟨u :: cs, .cons _ _ _ _ hc g1, ?_⟩
          cases ty with
          | agg a => exact absurd rfl (hna a)
          | _ => exact ⟨u, cs, e2, g2, rfl⟩

theorem trodAll_below (td : Tidy P) {W W' : World} (hb : Below W.heap.size W W') : ∀ (ts : List TypeId) (vs : List Value) (ds : List (DataW H)) (ps : List MemPlace), (∀ t ∈ ts, t < P.types.size) → (∀ p ∈ ps, p.block < W.heap.size) →
    DataW.TrodAll enc P W 0 (fun _ => true) true ts vs ds ps → DataW.TrodAll enc P W' 0 (fun b => decide (b < W.heap.size)) true ts vs ds ps := by
  intro ts vs ds ps hT hlt h
  have h2 := DataW.TrodAll.respare (spare' := fun b => decide (b < W.heap.size)) td.kids td.full hT h (fun p hp => by simpa using hlt p hp)
  clear h
  induction ts generalizing vs ds ps with
  | nil => obtain ⟨rfl, rfl, rfl⟩ := trodAll_nil h2; exact rfl
  | cons t ts ih =>
    obtain ⟨v, vs1, d, ds1, a, b, rfl, rfl, rfl, k1, k2⟩ := trodAll_cons h2
    obtain ⟨n, hn⟩ := k1
    exact ⟨a, b, ⟨n, DataW.trod_carry n _ _ _ hn fun p hp => hb.same (hlt p (by simp at hp ⊢; exact Or.inl hp))⟩, ih _ _ _ (fun t ht => hT t (by simp [ht])) (fun p hp => hlt p (by simp [hp])) k2, rfl⟩

/-- A law that returns true, whatever its arguments (of types that are no pointers), as a contract of its row asks. -/
theorem law_post (td : Tidy P) {f : Func} {fn : FuncId} {sp : ChangeSpec} {tb : TypeId} (tys : List Ty) (hvars : sp.vars = []) (hfn : ∀ ds : List (DataW H), ds.length = f.params.size → sp.fn H ds = { results := [.lit (.bool true)], args := ds })
    (hres : f.resultTypes = #[tb]) (hb : P.underlying tb = some .bool) (hT : (f.params.toList.all fun t => Nat.blt t P.types.size) = true) (hty : f.params.toList.map (reify P 6) = tys.map some)
    (walk : ∀ (cs : List Value), HasArgs tys cs → ∀ (W : World) (args : Array Value), Colds (fun b => W.heap[b]?) cs args.toList → Calls P fn args W fun e W' => e = .returned (.bool true) ∧ Below W.heap.size W W')
    {apart fresh handsOn : Bool} (W : World) (base : Nat) (args : Array Value) (ds gs : List (DataW H)) (before : List MemPlace)
    (hval : ∀ (j : Nat) t v, f.params[j]? = some t → args[j]? = some v → Value.okWide P W .any base t v)
    (hW : DataW.Whole enc P f.params.toList sp.vars apart W args.toList ds gs before) :
    Calls P fn args W fun e W' => ∃ v, e = .returned v ∧ sp.post enc P f apart fresh handsOn false W args v W' := by
  have hW' := hW
  have hlt : ∀ p ∈ before, p.block < W.heap.size := fun p hp => hW.lt p hp
  obtain ⟨p, q, hA, hV, rfl, hfz, hnd⟩ := hW
  have hTT : ∀ t ∈ f.params.toList, t < P.types.size := fun t ht => by
    have := List.all_eq_true.1 hT t ht
    exact Nat.le_of_ble_eq_true this
  obtain ⟨cs, h1, h2⟩ := args_has td f.params.toList tys args.toList ds p hA hTT hty (fun j t v ht hv => hval j t v (by simpa using ht) (by simpa using hv))
  have hlen : ds.length = f.params.size := by
    have : ∀ (ts : List TypeId) (vs : List Value) (ds : List (DataW H)) (p : List MemPlace), DataW.TrodAll enc P W 0 (fun _ => true) true ts vs ds p → ds.length = ts.length := by
      intro ts
      induction ts with
      | nil => intro vs ds p h; obtain ⟨rfl, rfl, rfl⟩ := trodAll_nil h; rfl
      | cons t ts ih =>
        intro vs ds p h
        obtain ⟨v, vs1, d, ds1, a, b, rfl, rfl, rfl, k1, k2⟩ := trodAll_cons h
        simp [ih _ _ _ k2]
    simpa using this _ _ _ _ hA
  rw [hvars] at hV
  obtain ⟨rfl, rfl⟩ := trodVars_none hV
  refine (walk cs h2 W args h1).mono fun e W' ⟨he, hg⟩ => ?_
  subst he
  refine ⟨_, rfl, ds, [], p ++ [], [], p, [], hW', ?_, ?_, ?_, hg.frame _, fun h => by cases h⟩
  · rw [List.append_nil, hfn ds hlen, hres]
    exact trodAll_cons_mk (shut_bool hb _) trodAll_mk0
  · rw [List.append_nil, hfn ds hlen]
    exact trodAll_below td hg _ _ _ _ hTT (fun x hx => hlt x (by simp [hx])) hA
  · rw [hvars, List.append_nil, hfn ds hlen]
    rfl

/-- The walk of a law: out of a call of cold things. -/
theorem walk_of_deep {P : Program} {fn : FuncId} {cs : List Value} (h : DeepOk P fn cs (.bool true) []) (W : World) (args : Array Value) (hc : Colds (fun b => W.heap[b]?) cs args.toList) :
    Calls P fn args W fun e W' => e = .returned (.bool true) ∧ Below W.heap.size W W' := by
  refine (h _ W args (fun b o hb => hb) hc).mono fun e W' ⟨v, μ, he, hr⟩ => ⟨?_, hr.below⟩
  subst he
  have := hr.rel
  cases this with
  | plain _ _ => rfl
end
end Go.Cm
