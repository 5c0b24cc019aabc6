/-
  Tables of what is known of calls of cold things.
-/
import Derived.Test.YtnnnknojnfphlaaGreatFmG
namespace Go.Cm
open Go

noncomputable def eqL (f : Value → Value → Bool) : List Value → List Value → Bool
  | [], [] => true
  | a :: x, b :: y => bif f a b then eqL f x y else false
  | _, _ => false
/-- Whether two values are the same, as far down as n. -/
noncomputable def eqV : Nat → Value → Value → Bool
  | 0, _, _ => false
  | n + 1, a, b =>
    match a with
    | .int k x => (match b with | .int k' y => bif Nat.beq (codeK k) (codeK k') then eqA x y else false | _ => false)
    | .bool x => (match b with | .bool y => bif x then y else !y | _ => false)
    | .string x => (match b with | .string y => bytesEqA x.data.toList y.data.toList | _ => false)
    | .float .f64 x => (match b with | .float .f64 y => Nat.beq x y | _ => false)
    | .slice none x y => (match b with | .slice none u v => Nat.beq x u && Nat.beq y v | _ => false)
    | .agg x => (match b with | .agg y => eqL (eqV n) x.toList y.toList | _ => false)
    | .func (.yield 0) x c => (match b with | .func (.yield 0) y e => eqL (eqV n) x.toList y.toList && eqL (eqV n) c.toList e.toList | _ => false)
    | _ => false
theorem eqL_eq {f : Value → Value → Bool} (hf : ∀ a b, f a b = true → a = b) : ∀ x y : List Value, eqL f x y = true → x = y
  | [], [], _ => rfl
  | a :: x, b :: y, h => by
    unfold eqL at h
    cases hb : f a b with
    | false => rw [hb] at h; cases h
    | true => rw [hb, cond_true] at h; rw [hf a b hb, eqL_eq hf x y h]
  | [], _ :: _, h => by cases h
  | _ :: _, [], h => by cases h
theorem bytesEq_eq : ∀ x y : List UInt8, bytesEqA x y = true → x = y
  | [], [], _ => rfl
  | a :: x, b :: y, h => by
    unfold bytesEqA at h
    cases hb : Nat.beq a.toNat b.toNat with
    | false => rw [hb] at h; cases h
    | true =>
      rw [hb, cond_true] at h
      rw [UInt8.toNat_inj.1 (Nat.eq_of_beq_eq_true hb), bytesEq_eq x y h]
  | [], _ :: _, h => by cases h
  | _ :: _, [], h => by cases h
theorem arr_eq {α : Type} {x y : Array α} (h : x.toList = y.toList) : x = y := by cases x; cases y; simp at h; rw [h]
theorem codeK_eq {a b : IntKind} (h : Nat.beq (codeK a) (codeK b) = true) : a = b := by
  have := Nat.eq_of_beq_eq_true h
  cases a <;> cases b <;> first | rfl | (exfalso; revert this; unfold codeK; decide)
theorem eqV_eq : ∀ (n : Nat) (a b : Value), eqV n a b = true → a = b
  | 0, _, _, h => by cases h
  | n + 1, a, b, h => by
    have ih := eqL_eq (eqV_eq n)
    unfold eqV at h
    split at h
    · next k x =>
      split at h
      · next k' y =>
        cases hb : Nat.beq (codeK k) (codeK k') with
        | false => rw [hb] at h; cases h
        | true => rw [hb, cond_true] at h; rw [codeK_eq hb]; congr 1; simpa [eqA_eq] using h
      · cases h
    · next x =>
      split at h
      · next y => cases x <;> cases y <;> first | rfl | cases h
      · cases h
    · next x =>
      split at h
      · next y =>
        have h1 := bytesEq_eq _ _ h
        obtain ⟨x⟩ := x
        obtain ⟨y⟩ := y
        have h2 : x = y := arr_eq h1
        rw [h2]
      · cases h
    · next x =>
      split at h
      · next y => rw [Nat.eq_of_beq_eq_true h]
      · cases h
    · next x y =>
      split at h
      · next u v => rw [Bool.and_eq_true] at h; rw [Nat.eq_of_beq_eq_true h.1, Nat.eq_of_beq_eq_true h.2]
      · cases h
    · next x =>
      split at h
      · next y => rw [arr_eq (ih _ _ h)]
      · cases h
    · next x c =>
      split at h
      · next y e => rw [Bool.and_eq_true] at h; rw [arr_eq (ih _ _ h.1), arr_eq (ih _ _ h.2)]
      · cases h
    · cases h

/-- What is known: by the arguments, from the last on. -/
noncomputable def lookT (ds : List Value) : List (List Value × Value) → Option (Value × List (Nat × List Value))
  | [] => none
  | e :: l => bif eqL (eqV 9) e.1.reverse ds.reverse then some (e.2, []) else lookT ds l
theorem lookT_some {ds : List Value} {v : Value} {rows : List (Nat × List Value)} : ∀ {l : List (List Value × Value)}, lookT ds l = some (v, rows) → ∃ e, e ∈ l ∧ e.1 = ds ∧ e.2 = v ∧ rows = []
  | [], h => by cases h
  | e :: l, h => by
    unfold lookT at h
    cases hb : eqL (eqV 9) e.1.reverse ds.reverse with
    | true =>
      rw [hb, cond_true] at h
      injection h with h; injection h with h1 h2
      exact ⟨e, by simp, List.reverse_inj.1 (eqL_eq (eqV_eq 9) _ _ hb), h1, h2.symm⟩
    | false =>
      rw [hb, cond_false] at h
      obtain ⟨e', h1, h2⟩ := lookT_some h
      exact ⟨e', by simp [h1], h2⟩
end Go.Cm
