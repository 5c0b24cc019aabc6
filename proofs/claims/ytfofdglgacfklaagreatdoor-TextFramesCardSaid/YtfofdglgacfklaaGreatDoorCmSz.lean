/-
  Code, and calls, gone through with values of which only some is known.
-/
import Derived.Test.YtfofdglgacfklaaGreatDoorCmSy
namespace Go.Cm
open Go Go.RowKit

/-- How deep code is nested. -/
def depth : Code → Nat
  | .seq a b => Nat.succ (max (depth a) (depth b))
  | .cond _ a b => Nat.succ (max (depth a) (depth b))
  | .block _ c => Nat.succ (depth c)
  | .loop c => Nat.succ (depth c)
  | .scope c => Nat.succ (depth c)
  | _ => 1

def SF.initL : List Value → Nat → List (Nat × Value) → List (Nat × Value)
  | [], _, acc => acc
  | v :: l, i, acc => SF.initL l (i + 1) ((i, v) :: acc)
noncomputable def SF.init (n : Nat) (args : List Value) : SF := ⟨max n args.length, undef, SF.initL args 0 []⟩
theorem SF.tree_initL : ∀ (l : List Value) (i : Nat) (acc : List (Nat × Value)), SF.tree undef (SF.initL l i acc) = Fr.fill l i (SF.tree undef acc)
  | [], _, _ => rfl
  | v :: l, i, acc => by rw [SF.initL, SF.tree_initL l, Fr.fill_cons]; rfl
theorem SF.init_fr (n : Nat) (args : List Value) : (SF.init n args).fr = Fr.init n args := by
  unfold SF.init SF.fr Fr.init
  simp only [SF.tree_initL]
  rfl
theorem SF.initL_lt : ∀ (l : List Value) (i n : Nat) (acc : List (Nat × Value)), i + l.length ≤ n → (∀ p, p ∈ acc → p.1 < n) → ∀ p, p ∈ SF.initL l i acc → p.1 < n
  | [], _, _, _, _, h, p, hp => h p hp
  | v :: l, i, n, acc, hn, h, p, hp => by
    simp only [List.length_cons] at hn
    refine SF.initL_lt l (i + 1) n _ (by omega) (fun q hq => ?_) p hp
    rcases List.mem_cons.1 hq with e | e
    · rw [e]; show i < n; omega
    · exact h q e
theorem SF.init_ok {n : Nat} {args : List Value} (h : Nat.ble (max n args.length) 1024 = true) : (SF.init n args).ok :=
  ⟨Nat.le_of_ble_eq_true h, SF.initL_lt args 0 _ [] (by show 0 + args.length ≤ max n args.length; omega) (fun p hp => by simp at hp)⟩

/-- Code without loops. -/
noncomputable def codeP (E : Env) (cp : CallP) : Code → SF → St → (X → SF → St → Prop) → Prop
  | .skip, f, s, K => K .normal f s
  | .label _, f, s, K => K .normal f s
  | .ret, f, s, K => K .ret f s
  | .exit id, f, s, K => K (.exit id) f s
  | .region _ ops draw, f, s, K => pickP draw (drawP E cp ops (Region.before ops) ops.toList 0 [] f s (K .normal)) (opsP E cp ops ops.toList f s (K .normal))
  | .seq a b, f, s, K => codeP E cp a f s fun x f s => match x with | .normal => codeP E cp b f s K | x => K x f s
  | .cond c a b, f, s, K => match f.eval c with | .bool t => pickP t (codeP E cp a f s K) (codeP E cp b f s K) | _ => False
  | .block id c, f, s, K => codeP E cp c f s fun x f s => match x with | .exit k => pickP (Nat.beq k id) (K .normal f s) (K (.exit k) f s) | x => K x f s
  | .scope c, f, s, K => codeP E cp c f s K
  | _, _, _, _ => False

/-- Calls are gone through by what the machine's answer. -/
def CallP.fitsFrom (cp : CallP) (E : Env) (N : Nat) : Prop := ∀ j, N ≤ j → cp.fits (callF E (ev E j))

theorem code_spec {E : Env} {cp : CallP} {N : Nat} (hc : cp.fitsFrom E N) : ∀ (c : Code) (f : SF) (s : St) (K : X → SF → St → Prop) (m : Nat), f.ok → codeP E cp c f s K → depth c + N ≤ m →
    ∃ x f' s', f'.ok ∧ ev E m c f.fr s = some ((x, f'.fr), s') ∧ K x f' s' := by
  intro c
  induction c with
  | skip => intro f s K m hf h hm; cases m with | zero => (unfold depth at hm; omega) | succ m => exact ⟨.normal, f, s, hf, rfl, h⟩
  | label => intro f s K m hf h hm; cases m with | zero => (unfold depth at hm; omega) | succ m => exact ⟨.normal, f, s, hf, rfl, h⟩
  | ret => intro f s K m hf h hm; cases m with | zero => (unfold depth at hm; omega) | succ m => exact ⟨.ret, f, s, hf, rfl, h⟩
  | exit id => intro f s K m hf h hm; cases m with | zero => (unfold depth at hm; omega) | succ m => exact ⟨.exit id, f, s, hf, rfl, h⟩
  | region id ops draw =>
    intro f s K m hf h hm
    cases m with
    | zero => unfold depth at hm; omega
    | succ m =>
      unfold depth at hm
      have hc' := hc m (by omega)
      unfold codeP at h
      cases draw with
      | true =>
        obtain ⟨f', s', a, b, d⟩ := draw_spec hc' ops.toList 0 [] f s _ hf h
        exact ⟨.normal, f', s', a, by unfold ev; simp only [cond_true, M.bind_eq, b]; rfl, d⟩
      | false =>
        obtain ⟨f', s', a, b, d⟩ := ops_spec hc' ops.toList f s _ hf h
        exact ⟨.normal, f', s', a, by unfold ev; simp only [cond_false, M.bind_eq, b]; rfl, d⟩
  | seq a b iha ihb =>
    intro f s K m hf h hm
    cases m with
    | zero => unfold depth at hm; omega
    | succ m =>
      have hm' : max (depth a) (depth b) + 1 + N ≤ m + 1 := hm
      unfold codeP at h
      obtain ⟨x, f1, s1, a1, b1, c1⟩ := iha f s _ m hf h (by omega)
      cases x with
      | normal =>
        obtain ⟨x2, f2, s2, a2, b2, c2⟩ := ihb f1 s1 K m a1 c1 (by omega)
        exact ⟨x2, f2, s2, a2, by unfold ev; simp only [M.bind_eq, b1]; exact b2, c2⟩
      | exit k => exact ⟨.exit k, f1, s1, a1, by unfold ev; simp only [M.bind_eq, b1]; rfl, c1⟩
      | ret => exact ⟨.ret, f1, s1, a1, by unfold ev; simp only [M.bind_eq, b1]; rfl, c1⟩
  | cond c a b iha ihb =>
    intro f s K m hf h hm
    cases m with
    | zero => unfold depth at hm; omega
    | succ m =>
      have hm' : max (depth a) (depth b) + 1 + N ≤ m + 1 := hm
      unfold codeP at h
      split at h
      · rename_i t ht
        rw [← SF.eval_fr hf] at ht
        cases t with
        | true =>
          obtain ⟨x2, f2, s2, a2, b2, c2⟩ := iha f s K m hf h (by omega)
          exact ⟨x2, f2, s2, a2, by unfold ev; simp only [ht, cond_true]; exact b2, c2⟩
        | false =>
          obtain ⟨x2, f2, s2, a2, b2, c2⟩ := ihb f s K m hf h (by omega)
          exact ⟨x2, f2, s2, a2, by unfold ev; simp only [ht, cond_false]; exact b2, c2⟩
      · exact h.elim
  | block id c ih =>
    intro f s K m hf h hm
    cases m with
    | zero => unfold depth at hm; omega
    | succ m =>
      have hm' : depth c + 1 + N ≤ m + 1 := hm
      unfold codeP at h
      obtain ⟨x, f1, s1, a1, b1, c1⟩ := ih f s _ m hf h (by omega)
      cases x with
      | normal => exact ⟨.normal, f1, s1, a1, by unfold ev; simp only [M.bind_eq, b1]; rfl, c1⟩
      | ret => exact ⟨.ret, f1, s1, a1, by unfold ev; simp only [M.bind_eq, b1]; rfl, c1⟩
      | exit k =>
        simp only at c1
        cases hk : Nat.beq k id with
        | true => rw [hk] at c1; exact ⟨.normal, f1, s1, a1, by unfold ev; simp only [M.bind_eq, b1, hk]; rfl, c1⟩
        | false => rw [hk] at c1; exact ⟨.exit k, f1, s1, a1, by unfold ev; simp only [M.bind_eq, b1, hk]; rfl, c1⟩
  | scope c ih =>
    intro f s K m hf h hm
    cases m with
    | zero => unfold depth at hm; omega
    | succ m =>
      have hm' : depth c + 1 + N ≤ m + 1 := hm
      unfold codeP at h
      obtain ⟨x, f1, s1, a1, b1, c1⟩ := ih f s K m hf h (by omega)
      exact ⟨x, f1, s1, a1, by unfold ev; exact b1, c1⟩
  | loop c => intro f s K m hf h hm; unfold codeP at h; exact h.elim
  | goto l => intro f s K m hf h hm; unfold codeP at h; exact h.elim
  | rangeFunc g ps c1 c2 => intro f s K m hf h hm; unfold codeP at h; exact h.elim
  | refuse m => intro f s K m hf h hm; unfold codeP at h; exact h.elim

/-- What is handed back. -/
noncomputable def resS (E : Env) (f : SF) : ResultVar → M Value
  | .tmp t => M.pure (f.get t)
  | .cell a t => loadA E t (f.get a)
noncomputable def resultsS (E : Env) (f : SF) : List ResultVar → M (List Value)
  | [] => M.pure []
  | r :: l => M.bind (resS E f r) fun v => M.bind (resultsS E f l) fun vs => M.pure (v :: vs)
theorem resultsS_eq {E : Env} {f : SF} (h : f.ok) : ∀ l : List ResultVar, resultsS E f l = resultsA E f.fr l
  | [] => rfl
  | r :: l => by
    unfold resultsS resultsA
    rw [resultsS_eq h l]
    congr 1
    cases r with
    | tmp t => show M.pure _ = M.pure _; rw [SF.get_fr h]
    | cell a t => show loadA E t _ = loadA E t _; rw [SF.get_fr h]


/-- What a call answers: known beforehand, or by its code. -/
noncomputable def callP (E : Env) : Nat → CallP
  | 0 => fun _ _ _ _ => False
  | d + 1 => fun g args s K =>
    (∃ F v s', E.dk g = some F ∧ knownF F args s = some (v, s') ∧ K v s') ∨
    ((E.dk g = none ∧ E.sk g = none ∧ E.pk g = none) ∧ ∃ fn c, E.fn g = some fn ∧ fn.body = some c ∧ (Nat.ble (max fn.ntmps args.length) 1024 && Nat.ble (depth c) 1000) = true ∧
      codeP E (callP E d) c (SF.init fn.ntmps args) { s with log := [], wlog := [] } fun x f s' => match x with
        | .exit _ => False
        | _ => ∃ vs s2, resultsS E f fn.results.toList s' = some (vs, s2) ∧ K (oneOf vs) { s2 with log := below s.next s2.log ++ s.log, wlog := below s.next s2.wlog ++ s.wlog })

theorem call_spec {E : Env} : ∀ d, (callP E d).fitsFrom E (1000 * d)
  | 0 => fun j _ f args s K h => h.elim
  | d + 1 => by
    intro j hj g args s K h
    unfold callP at h
    rcases h with ⟨F, v, s', hF, hk, hK⟩ | ⟨⟨hdk, hsk, hpk⟩, fn, c, hfn, hb, hle, h⟩
    · exact ⟨v, s', by unfold callF; rw [hF]; exact hk, hK⟩
    · rw [Bool.and_eq_true] at hle
      obtain ⟨x, f', s', a1, b1, c1⟩ := code_spec (call_spec d) c _ _ _ j (SF.init_ok hle.1) h (by have := Nat.le_of_ble_eq_true hle.2; omega)
      rw [SF.init_fr] at b1
      rw [resultsS_eq a1] at c1
      have fin : ∀ vs s2, resultsA E f'.fr fn.results.toList s' = some (vs, s2) → x ≠ .normal ∧ x ≠ .ret → False := fun _ _ _ hx => by
        cases x with
        | normal => exact hx.1 rfl
        | ret => exact hx.2 rfl
        | exit k => exact c1
      cases x with
      | exit k => exact c1.elim
      | normal =>
        obtain ⟨vs, s2, h1, h2⟩ := c1
        refine ⟨oneOf vs, _, ?_, h2⟩
        unfold callF
        rw [hdk]
        simp only [hsk, hpk, hfn, hb, hle.1, cond_true, M.within_eq, M.bind_eq, b1, h1]
        rfl
      | ret =>
        obtain ⟨vs, s2, h1, h2⟩ := c1
        refine ⟨oneOf vs, _, ?_, h2⟩
        unfold callF
        rw [hdk]
        simp only [hsk, hpk, hfn, hb, hle.1, cond_true, M.within_eq, M.bind_eq, b1, h1]
        rfl

/-- Known of cold things, with nothing made. -/
theorem known_at {F : List Value → Option (Value × List (Nat × List Value))} {args : List Value} {v : Value} {s : St} (_hc : M.mapL (coolN 8) args s = some (args, s)) (hl : ∀ l w, M.mapL (coolN 8) args { s with log := l, wlog := w } = some (args, { s with log := l, wlog := w })) (hF : F args = some (v, []))
    (hs : shiftN (fun r => some (Nat.add s.next r)) 3 v = some v) : knownF F args s = some (v, s) := by
  unfold knownF
  rw [M.within_eq]
  simp only [M.bind_eq, hl, M.lift_eq, hF]
  have h1 : M.guard (coldRows []) { s with log := [], wlog := [] } = some ((), { s with log := [], wlog := [] }) := rfl
  simp only [h1, M.nextId, freshes, M.pure, hs]
  rfl

/-- Code, with loops. -/
noncomputable def wpP (E : Env) (cp : CallP) (lo : Nat) : Code → SF → St → (X → SF → St → Prop) → Prop
  | .skip, f, s, K => K .normal f s
  | .label _, f, s, K => K .normal f s
  | .ret, f, s, K => K .ret f s
  | .exit id, f, s, K => K (.exit id) f s
  | .region _ ops draw, f, s, K => pickP draw (drawP E cp ops (Region.before ops) ops.toList 0 [] f s (K .normal)) (opsP E cp ops ops.toList f s (K .normal))
  | .seq a b, f, s, K => wpP E cp lo a f s fun x f s => match x with | .normal => wpP E cp lo b f s K | x => K x f s
  | .cond c a b, f, s, K => match f.eval c with | .bool t => pickP t (wpP E cp lo a f s K) (wpP E cp lo b f s K) | _ => False
  | .block id c, f, s, K => wpP E cp lo c f s fun x f s => match x with | .exit k => pickP (Nat.beq k id) (K .normal f s) (K (.exit k) f s) | x => K x f s
  | .scope c, f, s, K => wpP E cp lo c f s K
  | .loop c, f, s, K => Wp E lo (.loop c) f.fr s fun x fr s => ∃ f', f'.ok ∧ fr = f'.fr ∧ K x f' s
  | _, _, _, _ => False

/-- What holds at an end. -/
def ends (K : X → SF → St → Prop) : Post := fun x fr s => ∃ f', f'.ok ∧ fr = f'.fr ∧ K x f' s

theorem wp_spec {E : Env} (ok : E.Ok) (cok : E.Coded) {cp : CallP} {N lo : Nat} (hc : cp.fitsFrom E N) : ∀ (c : Code) (f : SF) (s : St) (K : X → SF → St → Prop), codeOk E c = true → f.ok → wpP E cp lo c f s K → Wp E lo c f.fr s (ends K) := by
  intro c
  induction c with
  | skip => exact fun f s K _ hf h => Wp.skip ⟨f, hf, rfl, h⟩
  | label => exact fun f s K _ hf h => Wp.label ⟨f, hf, rfl, h⟩
  | ret => exact fun f s K _ hf h => Wp.ret ⟨f, hf, rfl, h⟩
  | exit id => exact fun f s K _ hf h => Wp.exit ⟨f, hf, rfl, h⟩
  | region id ops draw =>
    intro f s K hok hf h
    have hc' := hc N (Nat.le_refl _)
    unfold wpP at h
    cases draw with
    | true =>
      obtain ⟨f', s', a, b, d⟩ := draw_spec hc' ops.toList 0 [] f s _ hf h
      exact Wp.draw ok cok hok b ⟨f', a, rfl, d⟩
    | false =>
      obtain ⟨f', s', a, b, d⟩ := ops_spec hc' ops.toList f s _ hf h
      exact Wp.region ok cok hok b ⟨f', a, rfl, d⟩
  | seq a b iha ihb =>
    intro f s K hok hf h
    unfold codeOk at hok
    rw [Bool.and_eq_true] at hok
    unfold wpP at h
    refine Wp.seq ((iha f s _ hok.1 hf h).post fun x fr s1 ⟨f1, a1, e1, k1⟩ => ?_)
    subst e1
    cases x with
    | normal => exact ihb f1 s1 K hok.2 a1 k1
    | exit k => exact ⟨f1, a1, rfl, k1⟩
    | ret => exact ⟨f1, a1, rfl, k1⟩
  | cond c a b iha ihb =>
    intro f s K hok hf h
    unfold codeOk at hok
    rw [Bool.and_eq_true, Bool.and_eq_true] at hok
    unfold wpP at h
    split at h
    · rename_i t ht
      rw [← SF.eval_fr hf] at ht
      exact Wp.cond hok.1.1 ht (fun e => by subst e; exact iha f s K hok.1.2 hf h) (fun e => by subst e; exact ihb f s K hok.2 hf h)
    · exact h.elim
  | block id c ih =>
    intro f s K hok hf h
    unfold codeOk at hok
    unfold wpP at h
    refine Wp.block ((ih f s _ hok hf h).post fun x fr s1 ⟨f1, a1, e1, k1⟩ => ?_)
    subst e1
    cases x with
    | normal => exact ⟨f1, a1, rfl, k1⟩
    | ret => exact ⟨f1, a1, rfl, k1⟩
    | exit k =>
      simp only at k1
      show (bif Nat.beq k id then _ else _)
      cases hk : Nat.beq k id with
      | true => rw [hk] at k1; exact ⟨f1, a1, rfl, k1⟩
      | false => rw [hk] at k1; exact ⟨f1, a1, rfl, k1⟩
  | scope c ih =>
    intro f s K hok hf h
    unfold codeOk at hok
    unfold wpP at h
    exact Wp.scope (ih f s K hok hf h)
  | loop c => intro f s K hok hf h; unfold wpP at h; exact h
  | goto l => intro f s K hok hf h; unfold wpP at h; exact h.elim
  | rangeFunc g ps c1 c2 => intro f s K hok hf h; unfold wpP at h; exact h.elim
  | refuse m => intro f s K hok hf h; unfold wpP at h; exact h.elim

/-- Of a frame only some slots are kept in mind. -/
theorem weak_slots {E : Env} {lo : Nat} {f : SF} {s : St} (hf : f.ok) {l : List (Nat × Value)} (h : ∀ p, p ∈ l → p.1 < f.n ∧ f.get p.1 = p.2) : (⟨f.n, junk, l⟩ : SF).ok ∧ Weak E lo f.fr s (⟨f.n, junk, l⟩ : SF).fr s := by
  have hok : (⟨f.n, junk, l⟩ : SF).ok := ⟨hf.1, fun p hp => (h p hp).1⟩
  refine ⟨hok, fun hl => ⟨hl, fun base μ a w hr => ⟨μ, ⟨⟨hr.fr.n, hr.fr.le, fun t ht => ?_⟩, hr.st, hr.gl, hr.nx⟩, Went.refl _ _ _ _⟩⟩⟩
  have ht' : t < f.n := ht
  have e1 : FT.get 5 (⟨f.n, junk, l⟩ : SF).fr.t t = look junk l t := look_tree f.n hf.1 junk l (fun p hp => (h p hp).1) t ht'
  rw [e1]
  have key : ∀ l : List (Nat × Value), (∀ p, p ∈ l → p.1 < f.n ∧ f.get p.1 = p.2) → look junk l t = junk ∨ look junk l t = f.get t := by
    intro l
    induction l with
    | nil => intro _; exact Or.inl rfl
    | cons p l ih =>
      intro h
      rw [look, beq_ite]
      by_cases e : p.1 = t
      · rw [if_pos e]; right; rw [← e]; exact (h p (by simp)).2.symm
      · rw [if_neg e]; exact ih fun q hq => h q (by simp [hq])
  rcases key l h with e | e
  · rw [e]; exact .any _
  · rw [e, ← SF.get_fr hf]; exact hr.fr.get t

/-- A loop: at its head I holds of some slots; a number goes down. -/
theorem loop_spec {E : Env} (ok : E.Ok) (cok : E.Coded) {cp : CallP} {N lo : Nat} (hc : cp.fitsFrom E N) {c : Code} {f : SF} {s : St} {K : X → SF → St → Prop} (hok : codeOk E c = true) (I : Nat → SF → St → Prop)
    {m0 : Nat} {f0 : SF} {s0 : St} (hf0 : f0.ok) (hw : Weak E lo f.fr s f0.fr s0) (h0 : I m0 f0 s0)
    (h : ∀ m f s, f.ok → I m f s → wpP E cp lo c f s fun x f s => match x with | .normal => ∃ k f' s', k < m ∧ f'.ok ∧ Weak E lo f.fr s f'.fr s' ∧ I k f' s' | x => K x f s) : Wp E lo (.loop c) f.fr s (ends K) := by
  refine Wp.pre hw (Wp.loop (fun m fr s => ∃ f, f.ok ∧ fr = f.fr ∧ I m f s) ⟨f0, hf0, rfl, h0⟩ fun m fr s ⟨f1, a1, e1, i1⟩ => ?_)
  subst e1
  refine (wp_spec ok cok hc c f1 s _ hok a1 (h m f1 s a1 i1)).weak fun x fr2 s2 ⟨f2, a2, e2, k2⟩ => ?_
  subst e2
  cases x with
  | normal =>
    obtain ⟨k, f', s', hk, a3, w3, i3⟩ := k2
    exact ⟨f'.fr, s', w3, k, hk, f', a3, rfl, i3⟩
  | exit k => exact ⟨f2.fr, s2, fun hl => ⟨hl, fun base μ a w hr => ⟨μ, hr, Went.refl _ _ _ _⟩⟩, f2, a2, rfl, k2⟩
  | ret => exact ⟨f2.fr, s2, fun hl => ⟨hl, fun base μ a w hr => ⟨μ, hr, Went.refl _ _ _ _⟩⟩, f2, a2, rfl, k2⟩

/-- A function of cold things, gone through. -/
theorem deep_of_wpP {E : Env} (ok : E.Ok) (cok : E.Coded) {n0 d : Nat} (hg : ∀ g, E.glob g = true → g < n0) {f : FuncId} {fn : Func} {c : Code} (hf : E.fn f = some fn) (hb : fn.body = some c) {ds : List Value}
    (hle : Nat.ble (max fn.ntmps ds.length) 1024 = true) {fl : List (List Bool)} {v : Value} {rows : List (Nat × List Value)}
    (h : wpP E (callP E d) n0 c (SF.init fn.ntmps ds) (St.empty n0) fun x f s => match x with
      | .exit _ => False
      | _ => ∃ vs s2, resultsS E f fn.results.toList s = some (vs, s2) ∧ packed fl (oneOf vs) s2 = some (v, rows)) (hz : ∀ b, E.fz b = none := by intro _; rfl) : DeepOk E.P f ds v rows := by
  refine deep_of_wp ok hg (ok.fn f fn hf).1 hb hle (fl := fl) ?_ hz
  rw [← SF.init_fr]
  refine (wp_spec ok cok (call_spec d) c _ _ _ (cok f fn c hf hb) (SF.init_ok hle) h).post fun x fr s ⟨f', a', e', k'⟩ => ?_
  subst e'
  cases x <;> (first | exact k' | (simp only [resultsS_eq a'] at k'; exact k'))

noncomputable def SF.okB (f : SF) : Bool := Nat.ble f.n 1024 && f.l.all fun p => Nat.blt p.1 f.n
theorem SF.ok_of {f : SF} (h : f.okB = true) : f.ok := by
  unfold SF.okB at h
  rw [Bool.and_eq_true, List.all_eq_true] at h
  exact ⟨Nat.le_of_ble_eq_true h.1, fun p hp => blt_lt0 (h.2 p hp)⟩
/-- Slots that hold what they should. -/
def keepsP (f : SF) : List (Nat × Value) → Prop
  | [] => True
  | p :: l => (Nat.blt p.1 f.n = true ∧ f.get p.1 = p.2) ∧ keepsP f l
theorem keeps_get {f : SF} : ∀ {l : List (Nat × Value)}, keepsP f l → ∀ p, p ∈ l → p.1 < f.n ∧ f.get p.1 = p.2
  | [], _, p, hp => by simp at hp
  | q :: l, h, p, hp => by
    rcases List.mem_cons.1 hp with e | e
    · subst e; exact ⟨blt_lt0 h.1.1, h.1.2⟩
    · exact keeps_get h.2 p e
/-- The slots that are kept in mind. -/
noncomputable def SF.kept (n : Nat) (l : List (Nat × Value)) : SF := ⟨n, junk, l⟩
/-- To a loop's head: what holds there of the slots that are kept in mind. -/
theorem loop_at {E : Env} (ok : E.Ok) (cok : E.Coded) {cp : CallP} {N lo : Nat} (hc : cp.fitsFrom E N) {c : Code} {f : SF} {s : St} {K : X → SF → St → Prop} (I : Nat → SF → St → Prop)
    (m0 n : Nat) (l : List (Nat × Value)) (hok : codeOk E c = true) (hn : f.n = n) (hb : f.okB = true) (hk : keepsP f l) (h0 : I m0 (SF.kept n l) s)
    (h : ∀ m f s, I m f s → wpP E cp lo c f s fun x f s => match x with | .normal => ∃ k f' s', k < m ∧ f'.ok ∧ Weak E lo f.fr s f'.fr s' ∧ I k f' s' | x => K x f s) : Wp E lo (.loop c) f.fr s (ends K) := by
  subst hn
  have hw := weak_slots (E := E) (lo := lo) (s := s) (SF.ok_of hb) (keeps_get hk)
  exact loop_spec ok cok hc hok I hw.1 hw.2 h0 fun m f s _ hI => h m f s hI
/-- The end of a round. -/
theorem round_to {E : Env} {lo : Nat} {I : Nat → SF → St → Prop} {f : SF} {s : St} {k m n : Nat} (l : List (Nat × Value)) (hn : f.n = n) (hb : f.okB = true) (hk : keepsP f l) (hlt : k < m) (hI : I k (SF.kept n l) s) :
    ∃ k f' s', k < m ∧ f'.ok ∧ Weak E lo f.fr s f'.fr s' ∧ I k f' s' := by
  subst hn
  have hw := weak_slots (E := E) (lo := lo) (s := s) (SF.ok_of hb) (keeps_get hk)
  exact ⟨k, _, s, hlt, hw.1, hw.2, hI⟩
theorem wrap_i64 {z : Int} (h1 : -9223372036854775808 ≤ z) (h2 : z ≤ 9223372036854775807) : IntKind.i64.wrap z = z := IntWalk.i64_in _ ⟨h1, h2⟩
end Go.Cm
