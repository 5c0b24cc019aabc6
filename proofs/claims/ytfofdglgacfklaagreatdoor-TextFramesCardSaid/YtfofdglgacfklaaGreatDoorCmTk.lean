/-
  Calls of tokens: what of them is known is laid in tables.
-/
import Derived.Test.YtfofdglgacfklaaGreatDoorCmLaw
namespace Go.Cm
open Go Go.RowKit

noncomputable def tokN (i : Nat) : Nat := Nat.add 3802951800684688204490109616128 i
/-- Token number i. -/
noncomputable def tok (i : Nat) : Value := .chan (some (tokN i))
theorem tokN_le (i : Nat) : 3802951800684688204490109616128 ≤ tokN i := Nat.le_add_right _ _
theorem tokN_inj {i j : Nat} (h : tokN i = tokN j) : i = j := Nat.add_left_cancel h
theorem tok_plain (i : Nat) : plain (tok i) = false := rfl
/-- What tokens stand for, out of a list. -/
def sayAt (l : List (Value → Prop)) (c : Nat) (v : Value) : Prop := ∃ i p, c = tokN i ∧ l[i]? = some p ∧ p v
theorem sayAt_at {l : List (Value → Prop)} {i : Nat} {v : Value} (h : sayAt l (tokN i) v) : ∃ p, l[i]? = some p ∧ p v := by
  obtain ⟨j, p, hj, h1, h2⟩ := h
  obtain rfl := tokN_inj hj
  exact ⟨p, h1, h2⟩

/-- What an operation of a token and a number answers. -/
structure Fact where
  op : BinOp
  t : Nat
  b : Int
  v : Value
noncomputable def codeB : BinOp → Nat
  | .add => 0 | .sub => 1 | .mul => 2 | .quo => 3 | .rem => 4 | .and => 5 | .or => 6 | .xor => 7 | .shl => 8 | .shr => 9 | .andNot => 10
  | .eql => 11 | .neq => 12 | .lss => 13 | .leq => 14 | .gtr => 15 | .geq => 16
theorem codeB_inj {a b : BinOp} (h : codeB a = codeB b) : a = b := by
  cases a <;> cases b <;> first | rfl | (exfalso; revert h; unfold codeB; decide)
noncomputable def findF (o c : Nat) (b : Int) : List Fact → Option Value
  | [] => none
  | f :: l => bif Nat.beq (codeB f.op) o && Nat.beq (tokN f.t) c && eqA f.b b then some f.v else findF o c b l
theorem findF_some {o c : Nat} {b : Int} {v : Value} : ∀ {l : List Fact}, findF o c b l = some v → ∃ f, f ∈ l ∧ f.v = v ∧ codeB f.op = o ∧ tokN f.t = c ∧ f.b = b
  | [], h => by cases h
  | f :: l, h => by
    unfold findF at h
    cases hb : Nat.beq (codeB f.op) o && Nat.beq (tokN f.t) c && eqA f.b b with
    | true =>
      rw [hb, cond_true] at h
      injection h with h
      simp only [Bool.and_eq_true, eqA_eq] at hb
      refine ⟨f, by simp, h, Nat.eq_of_beq_eq_true hb.1.1, Nat.eq_of_beq_eq_true hb.1.2, by simpa using hb.2⟩
    | false =>
      rw [hb, cond_false] at h
      obtain ⟨g, h1, h2⟩ := findF_some h
      exact ⟨g, by simp [h1], h2⟩
noncomputable def askT (l : List Fact) (op : BinOp) (x y : Value) : Option Value :=
  match x with
  | .chan (some c) => (match y with
    | .int .i64 b => findF (codeB op) c b l
    | _ => none)
  | _ => none
def Fact.Ok (say : List (Value → Prop)) (f : Fact) : Prop :=
  ∀ p x', say[f.t]? = some p → p x' → ∃ n z, x' = .int .i64 n ∧ TokV (sayAt say) f.v z ∧ plain z = true ∧ ∀ (E : Env) (t : TypeId) (xo yo : Operand), binOpA E f.op t xo yo (.int .i64 n) (.int .i64 f.b) = some z
theorem TokV.plain {sy : Nat → Value → Prop} {v : Value} (h : Cm.plain v = true) : TokV sy v v := Or.inl ⟨h, rfl⟩
theorem TokV.tok {say : List (Value → Prop)} {i : Nat} {p : Value → Prop} {v : Value} (h1 : say[i]? = some p) (h2 : p v) (h3 : tokB v = true) : TokV (sayAt say) (Cm.tok i) v := Or.inr ⟨tokN i, tokN_le i, h3, rfl, i, p, rfl, h1, h2⟩

theorem askT_ok {E0 : Env} (ok : E0.Ok) {P : Program} (hP : E0.P = P) {say : List (Value → Prop)} {l : List Fact} (hl : ∀ f, f ∈ l → f.Ok say) : ∀ op t xo yo x y v x' y' w, askT l op x y = some v → TokV (sayAt say) x x' → TokV (sayAt say) y y' →
    ∃ v', (do eqGuard op t xo yo x' y'; binOp op t x' y').run P w = .ok v' w ∧ TokV (sayAt say) v v' := by
  intro op t xo yo x y v x' y' w h hx hy
  unfold askT at h
  split at h
  · rename_i c
    split at h
    · rename_i b
      obtain ⟨f, hf, rfl, h1, h2, rfl⟩ := findF_some h
      have := codeB_inj h1
      subst this
      have hy' : y' = .int .i64 f.b := by
        rcases hy with ⟨_, e⟩ | ⟨c, _, _, e, _⟩
        · exact e
        · cases e
      subst hy'
      rcases hx with ⟨hp, _⟩ | ⟨c', _, _, e, hs⟩
      · simp [plain, plainN] at hp
      · injection e with e; injection e with e
        subst e
        rw [← h2] at hs
        obtain ⟨p, hp1, hp2⟩ := sayAt_at hs
        obtain ⟨n, z, rfl, htk, hpl, hop⟩ := hl f hf p x' hp1 hp2
        subst hP
        obtain ⟨r1, r2⟩ := does_binOp_plain (μ := ⟨fun _ => none, fun _ => none, fun _ _ => False⟩) ok (w := w) (fun c e => by cases e) (hop E0 t xo yo) (.plain _ rfl) (.plain _ rfl) rfl
        exact ⟨z, r1, htk⟩
    · cases h
  · cases h

/-- What an operation of two tokens answers. -/
structure Fact2 where
  op : BinOp
  t : Nat
  u : Nat
  v : Value
noncomputable def findF2 (o c e : Nat) : List Fact2 → Option Value
  | [] => none
  | f :: l => bif Nat.beq (codeB f.op) o && Nat.beq (tokN f.t) c && Nat.beq (tokN f.u) e then some f.v else findF2 o c e l
theorem findF2_some {o c e : Nat} {v : Value} : ∀ {l : List Fact2}, findF2 o c e l = some v → ∃ f, f ∈ l ∧ f.v = v ∧ codeB f.op = o ∧ tokN f.t = c ∧ tokN f.u = e
  | [], h => by cases h
  | f :: l, h => by
    unfold findF2 at h
    cases hb : Nat.beq (codeB f.op) o && Nat.beq (tokN f.t) c && Nat.beq (tokN f.u) e with
    | true =>
      rw [hb, cond_true] at h
      injection h with h
      simp only [Bool.and_eq_true] at hb
      exact ⟨f, by simp, h, Nat.eq_of_beq_eq_true hb.1.1, Nat.eq_of_beq_eq_true hb.1.2, Nat.eq_of_beq_eq_true hb.2⟩
    | false =>
      rw [hb, cond_false] at h
      obtain ⟨g, h1, h2⟩ := findF2_some h
      exact ⟨g, by simp [h1], h2⟩
noncomputable def askT2 (l : List Fact2) (op : BinOp) (x y : Value) : Option Value :=
  match x with
  | .chan (some c) => (match y with
    | .chan (some e) => findF2 (codeB op) c e l
    | _ => none)
  | _ => none
noncomputable def askU (l : List Fact) (l2 : List Fact2) (op : BinOp) (x y : Value) : Option Value :=
  match askT l op x y with
  | some v => some v
  | none => askT2 l2 op x y
def Fact2.Ok (say : List (Value → Prop)) (f : Fact2) : Prop :=
  ∀ p q x' y', say[f.t]? = some p → p x' → say[f.u]? = some q → q y' → ∃ n m, x' = .int .i64 n ∧ y' = .int .i64 m ∧ plain f.v = true ∧ ∀ (E : Env) (t : TypeId) (xo yo : Operand), binOpA E f.op t xo yo (.int .i64 n) (.int .i64 m) = some f.v
theorem askU_ok {E0 : Env} (ok : E0.Ok) {P : Program} (hP : E0.P = P) {say : List (Value → Prop)} {l : List Fact} {l2 : List Fact2} (hl : ∀ f, f ∈ l → f.Ok say) (hl2 : ∀ f, f ∈ l2 → f.Ok say) : ∀ op t xo yo x y v x' y' w, askU l l2 op x y = some v → TokV (sayAt say) x x' → TokV (sayAt say) y y' →
    ∃ v', (do eqGuard op t xo yo x' y'; binOp op t x' y').run P w = .ok v' w ∧ TokV (sayAt say) v v' := by
  intro op t xo yo x y v x' y' w h hx hy
  unfold askU at h
  cases h1 : askT l op x y with
  | some u =>
    rw [h1] at h
    injection h with h; subst h
    exact askT_ok ok hP hl op t xo yo x y u x' y' w h1 hx hy
  | none =>
    rw [h1] at h
    simp only at h
    unfold askT2 at h
    split at h
    · rename_i c
      split at h
      · rename_i e
        obtain ⟨f, hf, rfl, h1, h2, h3⟩ := findF2_some h
        have := codeB_inj h1
        subst this
        rcases hx with ⟨hp, _⟩ | ⟨c', _, _, e', hs⟩
        · simp [plain, plainN] at hp
        · rcases hy with ⟨hp, _⟩ | ⟨c2, _, _, e2, hs2⟩
          · simp [plain, plainN] at hp
          · injection e' with e'; injection e' with e'; subst e'
            injection e2 with e2; injection e2 with e2; subst e2
            rw [← h2] at hs
            rw [← h3] at hs2
            obtain ⟨p, hp1, hp2⟩ := sayAt_at hs
            obtain ⟨q, hq1, hq2⟩ := sayAt_at hs2
            obtain ⟨n, m, rfl, rfl, hpl, hop⟩ := hl2 f hf p q x' y' hp1 hp2 hq1 hq2
            subst hP
            obtain ⟨r1, r2⟩ := does_binOp_plain (μ := ⟨fun _ => none, fun _ => none, fun _ _ => False⟩) ok (w := w) (fun c e => by cases e) (hop E0 t xo yo) (.plain _ rfl) (.plain _ rfl) rfl
            exact ⟨f.v, r1, Or.inl ⟨hpl, rfl⟩⟩
      · cases h
    · cases h

/-- A slice of n elements. -/
def isSl (n : Nat) (v : Value) : Prop := v = .slice none 0 0 ∧ n = 0 ∨ ∃ a cap, v = .slice (some a) n cap ∧ (n = 0 ∨ a.spot = none) ∧ n ≤ cap
/-- Lengths of tokens: type, token, the length's token. -/
noncomputable def askL (l : List (Nat × Nat × Nat)) (t : TypeId) (x : Value) : Option Value :=
  match x with
  | .chan (some c) => l.rec none fun f _ r => bif Nat.beq f.1 t && Nat.beq (tokN f.2.1) c then some (tok f.2.2) else r
  | _ => none
theorem askL_some {l : List (Nat × Nat × Nat)} {t : TypeId} {x v : Value} (h : askL l t x = some v) : ∃ f, f ∈ l ∧ f.1 = t ∧ x = tok f.2.1 ∧ v = tok f.2.2 := by
  unfold askL at h
  split at h
  · rename_i c
    induction l with
    | nil => cases h
    | cons f l ih =>
      have h' : (bif Nat.beq f.1 t && Nat.beq (tokN f.2.1) c then some (tok f.2.2) else (l.rec none fun f _ r => bif Nat.beq f.1 t && Nat.beq (tokN f.2.1) c then some (tok f.2.2) else r : Option Value)) = some v := h
      cases hb : Nat.beq f.1 t && Nat.beq (tokN f.2.1) c with
      | true =>
        rw [hb, cond_true] at h'
        injection h' with h'
        simp only [Bool.and_eq_true] at hb
        exact ⟨f, by simp, Nat.eq_of_beq_eq_true hb.1, by rw [← Nat.eq_of_beq_eq_true hb.2]; rfl, h'.symm⟩
      | false =>
        rw [hb, cond_false] at h'
        obtain ⟨g, h1, h2⟩ := ih h'
        exact ⟨g, by simp [h1], h2⟩
  · cases h
def LenOk (E0 : Env) (say : List (Value → Prop)) (f : Nat × Nat × Nat) : Prop :=
  ∃ n p q, say[f.2.1]? = some p ∧ say[f.2.2]? = some q ∧ q (.int .i64 (n : Nat)) ∧ ((∃ e, E0.und f.1 = some (.slice e)) ∧ (∀ x', p x' → isSl n x') ∨ E0.und f.1 = some .string ∧ ∀ x', p x' → ∃ st : ByteArray, x' = .string st ∧ st.size = n)
theorem askL_ok {E0 : Env} (ok : E0.Ok) {P : Program} (hP : E0.P = P) {say : List (Value → Prop)} {l : List (Nat × Nat × Nat)} (hl : ∀ f, f ∈ l → LenOk E0 say f) :
    ∀ (t ty : TypeId) (x v x' : Value) (w : World) (ts : Array TypeId) (args : Array Value), askL l t x = some v → TokV (sayAt say) x x' → ts[0]? = some t → args[0]? = some x' → ∃ v', (Builtin.len_ ts ty args).run P w = .ok v' w ∧ TokV (sayAt say) v v' := by
  intro t ty x v x' w ts args h hx ht0 ha0
  obtain ⟨f, hf, rfl, rfl, rfl⟩ := askL_some h
  obtain ⟨n, p, q, h1, h2, h4, h35⟩ := hl f hf
  rcases hx with ⟨hp, _⟩ | ⟨c', _, _, e', hs⟩
  · rw [tok_plain] at hp; cases hp
  · injection e' with e'; injection e' with e'
    subst e'
    obtain ⟨p', g1, g2⟩ := sayAt_at hs
    rw [h1] at g1; injection g1 with g1; subst g1
    subst hP
    refine ⟨.int .i64 (n : Nat), ?_, Or.inr ⟨tokN f.2.2, tokN_le _, rfl, rfl, f.2.2, q, rfl, h2, h4⟩⟩
    rcases h35 with ⟨⟨e, hd⟩, h3⟩ | ⟨hd, h3⟩
    rcases h3 x' g2 with ⟨rfl, rfl⟩ | ⟨a, cap, rfl, _, _⟩
    · unfold Builtin.len_
      simp only [ht0, ha0, Sem.run_bind, ok.run_und w hd, Result.andThen_ok, Sem.run_pure]; rfl
    · unfold Builtin.len_
      simp only [ht0, ha0, Sem.run_bind, ok.run_und w hd, Result.andThen_ok, Sem.run_pure]; rfl
    · obtain ⟨st, rfl, rfl⟩ := h3 x' g2
      unfold Builtin.len_
      simp only [ht0, ha0, Sem.run_bind, ok.run_und w hd, Result.andThen_ok, Sem.run_pure]; rfl

/-- Known of cold things: as a call of a token's may use it. -/
theorem known_deep {P : Program} {f : FuncId} {fn : Func} {ds : List Value} {v : Value} (hf : P.funcs[f]? = some fn) (hn : fn.name ≠ "runtime.NumGoroutine") (hb : fn.body.isSome = true) (hv : plain v = true)
    (h : DeepOk P f ds v []) {fz : Nat → Option Obj} {w : World} {args' : Array Value} (hfz : ∀ b o, fz b = some o → w.heap[b]? = some o) (hc : Colds fz ds args'.toList) : Known P f args' v w := by
  right
  refine ⟨?_, (h fz w args' hfz hc).mono fun e w' ⟨u, μ, he, hr⟩ => ⟨?_, hr.below⟩⟩
  · unfold callFunc
    have hname : (fn.name == "runtime.NumGoroutine") = false := by simpa using hn
    have hbody : fn.body.isNone = false := by cases hb : fn.body <;> simp_all
    simp only [Sem.run_bind, run_program, Result.andThen_ok, hf, hname, Bool.false_eq_true, if_false, hbody, Sem.run_pure]
  · subst he
    rw [hr.rel.eq hv]

/-- A call of tokens, and of cold things, that answers true. -/
theorem yes_tok {E : Env} (ok : E.Ok) (cok : E.Coded) {n0 : Nat} (hg : ∀ g, E.glob g = true → g < n0) {n : Nat} {f : FuncId} {args : List Value} {args' : Array Value} {fz : Nat → Option Obj} {w : World} (h : yes E n f args n0 = true)
    (hfz : ∀ b o, fz b = some o → w.heap[b]? = some o) (hv : VRels ⟨(globMu n0 E.sy).at_, fz, E.sy⟩ args args'.toList) (hez : ∀ b o, E.fz b = some o → fz b = some o) :
    Calls E.P f args' w fun e w' => e = .returned (.bool true) ∧ Below w.heap.size w w' := by
  obtain ⟨s', hr⟩ := yes_run h
  have hs : SRel w.heap.size ⟨(globMu n0 E.sy).at_, fz, E.sy⟩ (St.empty n0).rows.get w :=
    { ge := Nat.le_refl _
      dom := fun r x L h _ => by unfold St.empty at h; rw [D.get_leaf] at h; cases h
      row := fun r x h => by unfold St.empty at h; rw [D.get_leaf] at h; cases h
      apart := fun r q x y L K _ h => by unfold St.empty at h; rw [D.get_leaf] at h; cases h
      cold := hfz
      hot := fun r x L h => by unfold St.empty at h; rw [D.get_leaf] at h; cases h
      old := fun r x L h => by unfold St.empty at h; rw [D.get_leaf] at h; cases h }
  refine Calls.mono (run_sound ok cok hr hv hs ⟨fun g h => ⟨0, 0, 0, globMu_at (sy := E.sy) (hg g h)⟩, rfl, hez⟩ fun r h _ => globMu_none (sy := E.sy) (by have h' : n0 ≤ r := h; omega)) ?_
  rintro e w' ⟨v', μ', rfl, hv', _, hgr⟩
  have := hv'.ofBool
  subst this
  exact ⟨rfl, hgr.below⟩

/-- A token for a cold thing. -/
theorem tok_rel {μ : Mu} {say : List (Value → Prop)} {i : Nat} {p : Value → Prop} {v' : Value} (hs : μ.sy = sayAt say) (h1 : say[i]? = some p) (h2 : p v') (h3 : tokB v' = true) : VRel μ (tok i) v' :=
  .tok _ _ (tokN_le i) h3 (by rw [hs]; exact ⟨i, p, rfl, h1, h2⟩)
theorem tok_of {μ : Mu} {say : List (Value → Prop)} {i : Nat} {p : Value → Prop} {v' : Value} (hs : μ.sy = sayAt say) (h1 : say[i]? = some p) (h : VRel μ (tok i) v') : p v' := by
  cases h with
  | plain _ hp => rw [tok_plain] at hp; cases hp
  | sym _ n hs => have := hs.1; have := tokN_le i; omega
  | tok _ _ _ _ h =>
    rw [hs] at h
    obtain ⟨q, g1, g2⟩ := sayAt_at h
    rw [h1] at g1; injection g1 with g1; subst g1
    exact g2
theorem sl_cold {fz : Nat → Option Obj} {n : Nat} {els : List Value} {v' : Value} (h : Cold fz (fzs n els) v') : isSl n v' ∧ tokB v' = true := by
  unfold fzs at h
  cases h with
  | plain _ hp => simp [plain, plainN] at hp
  | arr _ _ a cap l' hs hc _ _ => exact ⟨Or.inr ⟨a, cap, rfl, hs, hc⟩, rfl⟩
/-- Of a slice's content nothing need be known. -/
theorem cold_sl {fz : Nat → Option Obj} {n : Nat} {v' : Value} (h : isSl n v') : Cold fz (.slice none 0 0) v' ∧ n = 0 ∨ Cold fz (fzs n []) v' := by
  rcases h with ⟨rfl, rfl⟩ | ⟨a, cap, rfl, h1, h2⟩
  · exact Or.inl ⟨.plain _ rfl, rfl⟩
  · exact Or.inr (.arr n [] a cap [] h1 h2 .nil (by simp))

/-- Bytes, as cells. -/
noncomputable def bytesC (l : List UInt8) : List Value := l.map fun b => .int .u8 b.toNat
theorem bytesC_len (l : List UInt8) : (bytesC l).length = l.length := by unfold bytesC; simp
theorem emptyRel {fz : Nat → Option Obj} {w : World} (hfz : ∀ b o, fz b = some o → w.heap[b]? = some o) : SRel w.heap.size ⟨fun _ => none, fz, fun _ _ => False⟩ (St.empty 0).rows.get w :=
  { ge := Nat.le_refl _
    dom := fun r x L h _ => by unfold St.empty at h; rw [D.get_leaf] at h; cases h
    row := fun r x h => by unfold St.empty at h; rw [D.get_leaf] at h; cases h
    apart := fun r q x y L K _ h => by unfold St.empty at h; rw [D.get_leaf] at h; cases h
    cold := hfz
    hot := fun r x L h => by unfold St.empty at h; rw [D.get_leaf] at h; cases h
    old := fun r x L h => by unfold St.empty at h; rw [D.get_leaf] at h; cases h }
theorem bytesBack_C : ∀ l : List UInt8, bytesBack (bytesC l) = some l
  | [] => rfl
  | b :: l => by
    show (bytesBack (bytesC l)).map (UInt8.ofNat ((b.toNat : Int)).toNat :: ·) = _
    rw [bytesBack_C l]
    simp
/-- Bytes that nobody writes, as a text. -/
theorem text_cold {E0 : Env} (ok : E0.Ok) {src dst e : TypeId} (hsd : E0.und src = some (.slice e)) (hdd : E0.und dst = some .string) (hu : u8T E0 e = some ()) {l : List UInt8} {x' : Value} {fz : Nat → Option Obj} {w : World} (hfz : ∀ b o, fz b = some o → w.heap[b]? = some o)
    (hx : VRel ⟨fun _ => none, fz, fun _ _ => False⟩ (fzs l.length (bytesC l)) x') : (convert src dst x').run E0.P w = .ok (.string ⟨⟨l⟩⟩) w := by
  have hrd : readF 1 (fzs l.length (bytesC l)) (fun n => n) (St.empty 0) = some ((l.length, bytesC l), St.empty 0) := by
    have hp : piece (bytesC l) 0 (l.length * 1) = some (bytesC l) := by
      have : ((bytesC l).drop 0).take l.length = bytesC l := by rw [List.drop_zero]; exact List.take_of_length_le (by rw [bytesC_len]; exact Nat.le_refl _)
      rw [Nat.mul_one]
      unfold piece
      simp only [this]
      rw [bytesC_len, Nat.beq_refl]
      rfl
    unfold readF
    have h1 : asFz (fzs l.length (bytesC l)) = some (0, l.length, bytesC l) := rfl
    simp only [M.bind_eq, M.lift_eq, h1, hp]
    have h2 : M.guard (Nat.beq 0 0) (St.empty 0) = some ((), St.empty 0) := rfl
    have h3 : M.guard (Nat.ble l.length l.length) (St.empty 0) = some ((), St.empty 0) := by
      rw [Nat.ble_eq_true_of_le (Nat.le_refl _)]; rfl
    simp only [h2, h3]
    rfl
  obtain ⟨_, n, cs, a, cap, _, rfl, e3, _, l', hr, _, hrun⟩ := readF_ok (P := E0.P) hrd hx (emptyRel hfz)
  subst e3
  have hl' := VRels.eq (bytesOf_plain l) hr
  subst hl'
  have hcells := hrun w fun _ => rfl
  have hload : (loadCells a l.length).run E0.P w = .ok ((l.map fun b => (b.toNat : Int)).map (Value.int .u8)).toArray w := by
    have : (loadCells a (l.length * 1)).run E0.P w = .ok ⟨bytesC l⟩ w := hcells
    rw [Nat.mul_one] at this; rw [this]; unfold bytesC; simp
  have h2 : (convert src dst (.slice (some a) l.length cap)).run E0.P w = (Conv.bytesToString (.slice (some a) l.length cap)).run E0.P w := by
    unfold convert
    simp only [Sem.run_bind, ok.run_und w hsd, ok.run_und w hdd, Result.andThen_ok, u8_some ok hu]
  rw [h2, run_bytesToString w a l.length cap _ hload, foldl_push_bytes]
  have he : ByteArray.empty.data = #[] := rfl
  have hid : ((fun n : Int => UInt8.ofNat n.toNat) ∘ fun b : UInt8 => (b.toNat : Int)) = id := by funext b; simp
  rw [he]; simp [hid]
/-- A part of what nobody writes. -/
theorem slice_cold {E0 : Env} (ok : E0.Ok) {t : TypeId} {n : Nat} {cs ds : List Value} {x' : Value} {fz : Nat → Option Obj} {w : World} {lo hi : Option Value} {m : Nat} (hs : sliceA E0 t (fzs n cs) lo hi none = some (fzs m ds)) (hl : lo.all plain = true) (hh : hi.all plain = true)
    (hx : VRel ⟨fun _ => none, fz, fun _ _ => False⟩ (fzs n cs) x') (hsy : E0.sy = fun _ _ => False) : ∃ v', (Instr.sliceAt t x' lo hi none).run E0.P w = .ok v' w ∧ Cold fz (fzs m ds) v' := by
  have o : ∀ a : Option Value, a.all plain = true → ORel ⟨fun _ => none, fz, fun _ _ => False⟩ a a := fun a h => by
    cases a with
    | none => exact trivial
    | some v => exact .plain _ (by simpa using h)
  obtain ⟨v', h1, h2⟩ := does_slice ok (w := w) hs hx (o lo hl) (o hi hh) (o none rfl) hsy.symm
  exact ⟨v', h1, h2.toCold (p := (0, m, ds)) rfl⟩
end Go.Cm
