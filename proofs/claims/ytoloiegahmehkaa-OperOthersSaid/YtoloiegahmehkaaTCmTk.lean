/-
  Calls of tokens: what of them is known is laid in tables.
-/
import Derived.Test.YtoloiegahmehkaaTCmLaw
namespace Go.Cm
open Go Go.RowKit

noncomputable def tokN (i : Nat) : Nat := Nat.add 3802951800684688204490109616128 i
/-- Token number i. -/
noncomputable def tok (i : Nat) : Value := .chan (some (tokN i))
theorem tokN_le (i : Nat) : 3802951800684688204490109616128 ≤ tokN i := Nat.le_add_right _ _
theorem tokN_inj {i j : Nat} (h : tokN i = tokN j) : i = j := Nat.add_left_cancel h
theorem tok_plain (i : Nat) : plain (tok i) = false := rfl
/-- What tokens stand for, out of a list. -/
def sayAt (l : List (Value → Prop)) (c : Nat) (v : Value) : Prop := ∃ i p, c = tokN i ∧ l[i]? = some p ∧ p v
theorem sayAt_at {l : List (Value → Prop)} {i : Nat} {v : Value} (h : sayAt l (tokN i) v) : ∃ p, l[i]? = some p ∧ p v := by
  obtain ⟨j, p, hj, h1, h2⟩ := h
  obtain rfl := tokN_inj hj
  exact ⟨p, h1, h2⟩

/-- What an operation of a token and a number answers. -/
structure Fact where
  op : BinOp
  t : Nat
  b : Int
  v : Value
noncomputable def codeB : BinOp → Nat
  | .add => 0 | .sub => 1 | .mul => 2 | .quo => 3 | .rem => 4 | .and => 5 | .or => 6 | .xor => 7 | .shl => 8 | .shr => 9 | .andNot => 10
  | .eql => 11 | .neq => 12 | .lss => 13 | .leq => 14 | .gtr => 15 | .geq => 16
theorem codeB_inj {a b : BinOp} (h : codeB a = codeB b) : a = b := by
  cases a <;> cases b <;> first | rfl | (exfalso; revert h; unfold codeB; decide)
noncomputable def findF (o c : Nat) (b : Int) : List Fact → Option Value
  | [] => none
  | f :: l => bif Nat.beq (codeB f.op) o && Nat.beq (tokN f.t) c && eqA f.b b then some f.v else findF o c b l
theorem findF_some {o c : Nat} {b : Int} {v : Value} : ∀ {l : List Fact}, findF o c b l = some v → ∃ f, f ∈ l ∧ f.v = v ∧ codeB f.op = o ∧ tokN f.t = c ∧ f.b = b
  | [], h => by cases h
  | f :: l, h => by
    unfold findF at h
    cases hb : Nat.beq (codeB f.op) o && Nat.beq (tokN f.t) c && eqA f.b b with
    | true =>
      rw [hb, cond_true] at h
      injection h with h
      simp only [Bool.and_eq_true, eqA_eq] at hb
      refine ⟨f, by simp, h, Nat.eq_of_beq_eq_true hb.1.1, Nat.eq_of_beq_eq_true hb.1.2, by simpa using hb.2⟩
    | false =>
      rw [hb, cond_false] at h
      obtain ⟨g, h1, h2⟩ := findF_some h
      exact ⟨g, by simp [h1], h2⟩
noncomputable def askT (l : List Fact) (op : BinOp) (x y : Value) : Option Value :=
  match x with
  | .chan (some c) => (match y with
    | .int .i64 b => findF (codeB op) c b l
    | _ => none)
  | _ => none
def Fact.Ok (say : List (Value → Prop)) (f : Fact) : Prop :=
  ∀ p x', say[f.t]? = some p → p x' → ∃ n, x' = .int .i64 n ∧ plain f.v = true ∧ ∀ (E : Env) (t : TypeId) (xo yo : Operand), binOpA E f.op t xo yo (.int .i64 n) (.int .i64 f.b) = some f.v

theorem askT_ok {E0 : Env} (ok : E0.Ok) {P : Program} (hP : E0.P = P) {say : List (Value → Prop)} {l : List Fact} (hl : ∀ f, f ∈ l → f.Ok say) : ∀ op t xo yo x y v x' y' w, askT l op x y = some v → TokV (sayAt say) x x' → TokV (sayAt say) y y' →
    ∃ v', (do eqGuard op t xo yo x' y'; binOp op t x' y').run P w = .ok v' w ∧ TokV (sayAt say) v v' := by
  intro op t xo yo x y v x' y' w h hx hy
  unfold askT at h
  split at h
  · rename_i c
    split at h
    · rename_i b
      obtain ⟨f, hf, rfl, h1, h2, rfl⟩ := findF_some h
      have := codeB_inj h1
      subst this
      have hy' : y' = .int .i64 f.b := by
        rcases hy with ⟨_, e⟩ | ⟨c, _, _, e, _⟩
        · exact e
        · cases e
      subst hy'
      rcases hx with ⟨hp, _⟩ | ⟨c', _, _, e, hs⟩
      · simp [plain, plainN] at hp
      · injection e with e; injection e with e
        subst e
        rw [← h2] at hs
        obtain ⟨p, hp1, hp2⟩ := sayAt_at hs
        obtain ⟨n, rfl, hpl, hop⟩ := hl f hf p x' hp1 hp2
        subst hP
        obtain ⟨r1, r2⟩ := does_binOp_plain (μ := ⟨fun _ => none, fun _ => none, fun _ _ => False⟩) ok (w := w) (fun c e => by cases e) (hop E0 t xo yo) (.plain _ rfl) (.plain _ rfl) rfl
        exact ⟨f.v, r1, Or.inl ⟨hpl, rfl⟩⟩
    · cases h
  · cases h

/-- A slice of n elements. -/
def isSl (n : Nat) (v : Value) : Prop := v = .slice none 0 0 ∧ n = 0 ∨ ∃ a cap, v = .slice (some a) n cap ∧ (n = 0 ∨ a.spot = none) ∧ n ≤ cap
/-- Lengths of tokens: type, token, the length's token. -/
noncomputable def askL (l : List (Nat × Nat × Nat)) (t : TypeId) (x : Value) : Option Value :=
  match x with
  | .chan (some c) => l.rec none fun f _ r => bif Nat.beq f.1 t && Nat.beq (tokN f.2.1) c then some (tok f.2.2) else r
  | _ => none
theorem askL_some {l : List (Nat × Nat × Nat)} {t : TypeId} {x v : Value} (h : askL l t x = some v) : ∃ f, f ∈ l ∧ f.1 = t ∧ x = tok f.2.1 ∧ v = tok f.2.2 := by
  unfold askL at h
  split at h
  · rename_i c
    induction l with
    | nil => cases h
    | cons f l ih =>
      have h' : (bif Nat.beq f.1 t && Nat.beq (tokN f.2.1) c then some (tok f.2.2) else (l.rec none fun f _ r => bif Nat.beq f.1 t && Nat.beq (tokN f.2.1) c then some (tok f.2.2) else r : Option Value)) = some v := h
      cases hb : Nat.beq f.1 t && Nat.beq (tokN f.2.1) c with
      | true =>
        rw [hb, cond_true] at h'
        injection h' with h'
        simp only [Bool.and_eq_true] at hb
        exact ⟨f, by simp, Nat.eq_of_beq_eq_true hb.1, by rw [← Nat.eq_of_beq_eq_true hb.2]; rfl, h'.symm⟩
      | false =>
        rw [hb, cond_false] at h'
        obtain ⟨g, h1, h2⟩ := ih h'
        exact ⟨g, by simp [h1], h2⟩
  · cases h
def LenOk (E0 : Env) (say : List (Value → Prop)) (f : Nat × Nat × Nat) : Prop :=
  (∃ e, E0.und f.1 = some (.slice e)) ∧ ∃ n p q, say[f.2.1]? = some p ∧ say[f.2.2]? = some q ∧ (∀ x', p x' → isSl n x') ∧ q (.int .i64 (n : Nat))
theorem askL_ok {E0 : Env} (ok : E0.Ok) {P : Program} (hP : E0.P = P) {say : List (Value → Prop)} {l : List (Nat × Nat × Nat)} (hl : ∀ f, f ∈ l → LenOk E0 say f) :
    ∀ (t ty : TypeId) (x v x' : Value) (w : World) (ts : Array TypeId) (args : Array Value), askL l t x = some v → TokV (sayAt say) x x' → ts[0]? = some t → args[0]? = some x' → ∃ v', (Builtin.len_ ts ty args).run P w = .ok v' w ∧ TokV (sayAt say) v v' := by
  intro t ty x v x' w ts args h hx ht0 ha0
  obtain ⟨f, hf, rfl, rfl, rfl⟩ := askL_some h
  obtain ⟨⟨e, hd⟩, n, p, q, h1, h2, h3, h4⟩ := hl f hf
  rcases hx with ⟨hp, _⟩ | ⟨c', _, _, e', hs⟩
  · rw [tok_plain] at hp; cases hp
  · injection e' with e'; injection e' with e'
    subst e'
    obtain ⟨p', g1, g2⟩ := sayAt_at hs
    rw [h1] at g1; injection g1 with g1; subst g1
    subst hP
    refine ⟨.int .i64 (n : Nat), ?_, Or.inr ⟨tokN f.2.2, tokN_le _, rfl, rfl, f.2.2, q, rfl, h2, h4⟩⟩
    rcases h3 x' g2 with ⟨rfl, rfl⟩ | ⟨a, cap, rfl, _, _⟩
    · unfold Builtin.len_
      simp only [ht0, ha0, Sem.run_bind, ok.run_und w hd, Result.andThen_ok, Sem.run_pure]; rfl
    · unfold Builtin.len_
      simp only [ht0, ha0, Sem.run_bind, ok.run_und w hd, Result.andThen_ok, Sem.run_pure]; rfl

/-- Known of cold things: as a call of a token's may use it. -/
theorem known_deep {P : Program} {f : FuncId} {fn : Func} {ds : List Value} {v : Value} (hf : P.funcs[f]? = some fn) (hn : fn.name ≠ "runtime.NumGoroutine") (hb : fn.body.isSome = true) (hv : plain v = true)
    (h : DeepOk P f ds v []) {fz : Nat → Option Obj} {w : World} {args' : Array Value} (hfz : ∀ b o, fz b = some o → w.heap[b]? = some o) (hc : Colds fz ds args'.toList) : Known P f args' v w := by
  right
  refine ⟨?_, (h fz w args' hfz hc).mono fun e w' ⟨u, μ, he, hr⟩ => ⟨?_, hr.below⟩⟩
  · unfold callFunc
    have hname : (fn.name == "runtime.NumGoroutine") = false := by simpa using hn
    have hbody : fn.body.isNone = false := by cases hb : fn.body <;> simp_all
    simp only [Sem.run_bind, run_program, Result.andThen_ok, hf, hname, Bool.false_eq_true, if_false, hbody, Sem.run_pure]
  · subst he
    rw [hr.rel.eq hv]

/-- A call of tokens, and of cold things, that answers true. -/
theorem yes_tok {E : Env} (ok : E.Ok) (cok : E.Coded) {n0 : Nat} (hg : ∀ g, E.glob g = true → g < n0) {n : Nat} {f : FuncId} {args : List Value} {args' : Array Value} {fz : Nat → Option Obj} {w : World} (h : yes E n f args n0 = true)
    (hfz : ∀ b o, fz b = some o → w.heap[b]? = some o) (hv : VRels ⟨(globMu n0 E.sy).at_, fz, E.sy⟩ args args'.toList) :
    Calls E.P f args' w fun e w' => e = .returned (.bool true) ∧ Below w.heap.size w w' := by
  obtain ⟨s', hr⟩ := yes_run h
  have hs : SRel w.heap.size ⟨(globMu n0 E.sy).at_, fz, E.sy⟩ (St.empty n0).rows.get w :=
    { ge := Nat.le_refl _
      dom := fun r x L h _ => by unfold St.empty at h; rw [T.get_leaf] at h; cases h
      row := fun r x h => by unfold St.empty at h; rw [T.get_leaf] at h; cases h
      apart := fun r q x y L K _ h => by unfold St.empty at h; rw [T.get_leaf] at h; cases h
      cold := hfz
      hot := fun r x L h => by unfold St.empty at h; rw [T.get_leaf] at h; cases h
      old := fun r x L h => by unfold St.empty at h; rw [T.get_leaf] at h; cases h }
  refine Calls.mono (run_sound ok cok hr hv hs ⟨fun g h => ⟨0, 0, globMu_at (sy := E.sy) (hg g h)⟩, rfl⟩ fun r h _ => globMu_none (sy := E.sy) (by have h' : n0 ≤ r := h; omega)) ?_
  rintro e w' ⟨v', μ', rfl, hv', _, hgr⟩
  have := hv'.ofBool
  subst this
  exact ⟨rfl, hgr.below⟩

/-- A token for a cold thing. -/
theorem tok_rel {μ : Mu} {say : List (Value → Prop)} {i : Nat} {p : Value → Prop} {v' : Value} (hs : μ.sy = sayAt say) (h1 : say[i]? = some p) (h2 : p v') (h3 : tokB v' = true) : VRel μ (tok i) v' :=
  .tok _ _ (tokN_le i) h3 (by rw [hs]; exact ⟨i, p, rfl, h1, h2⟩)
theorem tok_of {μ : Mu} {say : List (Value → Prop)} {i : Nat} {p : Value → Prop} {v' : Value} (hs : μ.sy = sayAt say) (h1 : say[i]? = some p) (h : VRel μ (tok i) v') : p v' := by
  cases h with
  | plain _ hp => rw [tok_plain] at hp; cases hp
  | sym _ n hs => have := hs.1; have := tokN_le i; omega
  | tok _ _ _ _ h =>
    rw [hs] at h
    obtain ⟨q, g1, g2⟩ := sayAt_at h
    rw [h1] at g1; injection g1 with g1; subst g1
    exact g2
theorem sl_cold {fz : Nat → Option Obj} {n : Nat} {els : List Value} {v' : Value} (h : Cold fz (fzs n els) v') : isSl n v' ∧ tokB v' = true := by
  unfold fzs at h
  cases h with
  | plain _ hp => simp [plain, plainN] at hp
  | arr _ _ a cap l' hs hc _ _ => exact ⟨Or.inr ⟨a, cap, rfl, hs, hc⟩, rfl⟩
/-- Of a slice's content nothing need be known. -/
theorem cold_sl {fz : Nat → Option Obj} {n : Nat} {v' : Value} (h : isSl n v') : Cold fz (.slice none 0 0) v' ∧ n = 0 ∨ Cold fz (fzs n []) v' := by
  rcases h with ⟨rfl, rfl⟩ | ⟨a, cap, rfl, h1, h2⟩
  · exact Or.inl ⟨.plain _ rfl, rfl⟩
  · exact Or.inr (.arr n [] a cap [] h1 h2 .nil (by simp))
end Go.Cm
