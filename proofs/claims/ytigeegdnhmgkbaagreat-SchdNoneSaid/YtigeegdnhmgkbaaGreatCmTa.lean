/-
  Calls of tokens: what of them is known is laid in tables.
-/
import Derived.Test.YtigeegdnhmgkbaaGreatCmY
namespace Go.Cm
open Go Go.RowKit

noncomputable def tokN (i : Nat) : Nat := Nat.add 3802951800684688204490109616128 i
/-- Token number i. -/
noncomputable def tok (i : Nat) : Value := .chan (some (tokN i))
theorem tokN_le (i : Nat) : 3802951800684688204490109616128 ≤ tokN i := Nat.le_add_right _ _
theorem tokN_inj {i j : Nat} (h : tokN i = tokN j) : i = j := Nat.add_left_cancel h
theorem tok_plain (i : Nat) : plain (tok i) = false := rfl
/-- What tokens stand for, out of a list. -/
def sayAt (l : List (Value → Prop)) (c : Nat) (v : Value) : Prop := ∃ i p, c = tokN i ∧ l[i]? = some p ∧ p v
theorem sayAt_at {l : List (Value → Prop)} {i : Nat} {v : Value} (h : sayAt l (tokN i) v) : ∃ p, l[i]? = some p ∧ p v := by
  obtain ⟨j, p, hj, h1, h2⟩ := h
  obtain rfl := tokN_inj hj
  exact ⟨p, h1, h2⟩

/-- What an operation of a token and a number answers. -/
structure Fact where
  op : BinOp
  t : Nat
  b : Int
  v : Value
noncomputable def codeB : BinOp → Nat
  | .add => 0 | .sub => 1 | .mul => 2 | .quo => 3 | .rem => 4 | .and => 5 | .or => 6 | .xor => 7 | .shl => 8 | .shr => 9 | .andNot => 10
  | .eql => 11 | .neq => 12 | .lss => 13 | .leq => 14 | .gtr => 15 | .geq => 16
theorem codeB_inj {a b : BinOp} (h : codeB a = codeB b) : a = b := by
  cases a <;> cases b <;> first | rfl | (exfalso; revert h; unfold codeB; decide)
noncomputable def findF (o c : Nat) (b : Int) : List Fact → Option Value
  | [] => none
  | f :: l => bif Nat.beq (codeB f.op) o && Nat.beq (tokN f.t) c && eqA f.b b then some f.v else findF o c b l
theorem findF_some {o c : Nat} {b : Int} {v : Value} : ∀ {l : List Fact}, findF o c b l = some v → ∃ f, f ∈ l ∧ f.v = v ∧ codeB f.op = o ∧ tokN f.t = c ∧ f.b = b
  | [], h => by cases h
  | f :: l, h => by
    unfold findF at h
    cases hb : Nat.beq (codeB f.op) o && Nat.beq (tokN f.t) c && eqA f.b b with
    | true =>
      rw [hb, cond_true] at h
      injection h with h
      simp only [Bool.and_eq_true, eqA_eq] at hb
      refine ⟨f, by simp, h, Nat.eq_of_beq_eq_true hb.1.1, Nat.eq_of_beq_eq_true hb.1.2, by simpa using hb.2⟩
    | false =>
      rw [hb, cond_false] at h
      obtain ⟨g, h1, h2⟩ := findF_some h
      exact ⟨g, by simp [h1], h2⟩
noncomputable def askT (l : List Fact) (op : BinOp) (x y : Value) : Option Value :=
  match x with
  | .chan (some c) => (match y with
    | .int .i64 b => findF (codeB op) c b l
    | _ => none)
  | _ => none
def Fact.Ok (say : List (Value → Prop)) (f : Fact) : Prop :=
  ∀ p x', say[f.t]? = some p → p x' → ∃ n z, x' = .int .i64 n ∧ TokV (sayAt say) f.v z ∧ plain z = true ∧ ∀ (E : Env) (t : TypeId) (xo yo : Operand), binOpA E f.op t xo yo (.int .i64 n) (.int .i64 f.b) = some z
theorem TokV.plain {sy : Nat → Value → Prop} {v : Value} (h : Cm.plain v = true) : TokV sy v v := Or.inl ⟨h, rfl⟩
theorem TokV.tok {say : List (Value → Prop)} {i : Nat} {p : Value → Prop} {v : Value} (h1 : say[i]? = some p) (h2 : p v) (h3 : tokB v = true) : TokV (sayAt say) (Cm.tok i) v := Or.inr ⟨tokN i, tokN_le i, h3, rfl, i, p, rfl, h1, h2⟩

theorem askT_ok {E0 : Env} (ok : E0.Ok) {P : Program} (hP : E0.P = P) {say : List (Value → Prop)} {l : List Fact} (hl : ∀ f, f ∈ l → f.Ok say) : ∀ op t xo yo x y v x' y' w, askT l op x y = some v → TokV (sayAt say) x x' → TokV (sayAt say) y y' →
    ∃ v', (do eqGuard op t xo yo x' y'; binOp op t x' y').run P w = .ok v' w ∧ TokV (sayAt say) v v' := by
  intro op t xo yo x y v x' y' w h hx hy
  unfold askT at h
  split at h
  · rename_i c
    split at h
    · rename_i b
      obtain ⟨f, hf, rfl, h1, h2, rfl⟩ := findF_some h
      have := codeB_inj h1
      subst this
      have hy' : y' = .int .i64 f.b := by
        rcases hy with ⟨_, e⟩ | ⟨c, _, _, e, _⟩
        · exact e
        · cases e
      subst hy'
      rcases hx with ⟨hp, _⟩ | ⟨c', _, _, e, hs⟩
      · simp [plain, plainN] at hp
      · injection e with e; injection e with e
        subst e
        rw [← h2] at hs
        obtain ⟨p, hp1, hp2⟩ := sayAt_at hs
        obtain ⟨n, z, rfl, htk, hpl, hop⟩ := hl f hf p x' hp1 hp2
        subst hP
        obtain ⟨r1, r2⟩ := does_binOp_plain (μ := ⟨fun _ => none, fun _ => none, fun _ _ => False⟩) ok (w := w) (fun c e => by cases e) (hop E0 t xo yo) (.plain _ rfl) (.plain _ rfl) rfl
        exact ⟨z, r1, htk⟩
    · cases h
  · cases h

theorem tok_rel {μ : Mu} {say : List (Value → Prop)} {i : Nat} {p : Value → Prop} {v' : Value} (hs : μ.sy = sayAt say) (h1 : say[i]? = some p) (h2 : p v') (h3 : tokB v' = true) : VRel μ (tok i) v' :=
  .tok _ _ (tokN_le i) h3 (by rw [hs]; exact ⟨i, p, rfl, h1, h2⟩)

theorem lt_fact {E : Env} {t : TypeId} {xo yo : Operand} {a b : Int} {r : Bool} (h : decide (a < b) = r) : binOpA E .lss t xo yo (.int .i64 a) (.int .i64 b) = some (.bool r) := by
  subst h
  unfold binOpA
  have e1 : isTok (.int .i64 a) = false := rfl
  have e2 : isTok (.int .i64 b) = false := rfl
  have e3 : intBinA .lss .i64 a b = some (.bool (decide (a < b))) := by
    show some (Value.bool (ltA a b)) = _
    rw [ltA_eq]
  simp only [e1, e2, cond_false, Nat.beq_refl, cond_true, e3, orA]
theorem ge_fact {E : Env} {t : TypeId} {xo yo : Operand} {a b : Int} {r : Bool} (h : (!decide (a < b)) = r) : binOpA E .geq t xo yo (.int .i64 a) (.int .i64 b) = some (.bool r) := by
  subst h
  unfold binOpA
  have e1 : isTok (.int .i64 a) = false := rfl
  have e2 : isTok (.int .i64 b) = false := rfl
  have e3 : intBinA .geq .i64 a b = some (.bool (!decide (a < b))) := by
    show some (Value.bool (!ltA a b)) = _
    rw [ltA_eq]
  simp only [e1, e2, cond_false, Nat.beq_refl, cond_true, e3, orA]
end Go.Cm
