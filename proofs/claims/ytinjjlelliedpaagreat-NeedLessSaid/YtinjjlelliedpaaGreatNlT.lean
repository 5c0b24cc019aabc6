/-
  What is enough, of needs of which only some is known: plain.
-/
import Derived.Test.YtinjjlelliedpaaGreatFmF
import Derived.Test.YtinjjlelliedpaaGreatCmTk
namespace Go.Cm
open Go

/-- Who holds enough. -/
def enoughP (hs ws : List (Int × Bool)) : Bool := ws.all fun w => hs.any fun h => h.1 == w.1 && (h.2 || !w.2)
/-- Needs, as cells. -/
def encP : List (Int × Bool) → List Value
  | [] => []
  | x :: l => .int .i64 x.1 :: .bool x.2 :: encP l

/-- A bit that is known, or one that has a number. -/
inductive Bt where
  | b (x : Bool)
  | t (i : Nat)
def Bt.val (β : Nat → Bool) : Bt → Bool
  | .b x => x
  | .t i => β i
noncomputable def bitOf (v : Value) : Option Bt :=
  match v with
  | .bool x => some (.b x)
  | .chan (some c) => bif Nat.ble (tokN 20) c && Nat.blt c (tokN 30) then some (.t (c - tokN 20)) else none
  | _ => none
noncomputable def rankOf (v : Value) : Option Int :=
  match v with
  | .int .i64 n => some n
  | _ => none
noncomputable def pairsOf : List Value → Option (List (Int × Bt))
  | [] => some []
  | [_] => none
  | r :: b :: l => (rankOf r).bind fun n => (bitOf b).bind fun y => (pairsOf l).map fun q => (n, y) :: q
noncomputable def hit (h w : Bt) : Option Bool :=
  match h with
  | .b true => some true
  | .b false => (match w with | .b x => some (!x) | .t _ => none)
  | .t i => (match w with | .b false => some true | .b true => none | .t j => bif Nat.beq i j then some true else none)
noncomputable def anyHit (r : Int) (w : Bt) : List (Int × Bt) → Option Bool
  | [] => some false
  | h :: l => bif eqA h.1 r then (match hit h.2 w with
      | some true => some true
      | some false => anyHit r w l
      | none => (match anyHit r w l with | some true => some true | _ => none)) else anyHit r w l
noncomputable def allHit (hs : List (Int × Bt)) : List (Int × Bt) → Option Bool
  | [] => some true
  | w :: l => match anyHit w.1 w.2 hs with
    | some false => some false
    | some true => allHit hs l
    | none => (match allHit hs l with | some false => some false | _ => none)
noncomputable def enoughF (ls : List (List Value)) : Option Value :=
  match ls with
  | [hs, ws] => (guardO (Nat.ble hs.length 1000 && Nat.ble ws.length 1000)).bind fun _ => (pairsOf hs).bind fun h => (pairsOf ws).bind fun w => (allHit h w).map .bool
  | _ => none

theorem hit_ok {β : Nat → Bool} {h w : Bt} {b : Bool} (e : hit h w = some b) : (h.val β || !w.val β) = b := by
  unfold hit at e
  cases h with
  | b x => cases x with
    | true => cases e; rfl
    | false => cases w with
      | b x => cases e; rfl
      | t j => cases e
  | t i => cases w with
    | b x => cases x with
      | true => cases e
      | false => cases e; simp [Bt.val]
    | t j =>
      simp only at e
      cases hb : Nat.beq i j with
      | false => rw [hb] at e; cases e
      | true =>
        rw [hb, cond_true] at e
        cases e
        rw [Nat.eq_of_beq_eq_true hb]
        simp [Bt.val]
def vals (β : Nat → Bool) (l : List (Int × Bt)) : List (Int × Bool) := l.map fun p => (p.1, p.2.val β)
theorem anyHit_ok {β : Nat → Bool} {r : Int} {w : Bt} : ∀ {l : List (Int × Bt)} {b : Bool}, anyHit r w l = some b → ((vals β l).any fun h => h.1 == r && (h.2 || !w.val β)) = b
  | [], b, e => by cases e; rfl
  | h :: l, b, e => by
    unfold anyHit at e
    unfold vals
    rw [List.map_cons, List.any_cons]
    have ih : ∀ {b : Bool}, anyHit r w l = some b → ((List.map (fun p => (p.1, p.2.val β)) l).any fun h => h.1 == r && (h.2 || !w.val β)) = b := fun e => anyHit_ok (β := β) e
    have hq : eqA h.1 r = (h.1 == r) := eqA_eq _ _
    rw [hq] at e
    show (h.1 == r && (h.2.val β || !w.val β) || _) = b
    cases hr : h.1 == r with
    | false => rw [hr, cond_false] at e; rw [Bool.false_and, Bool.false_or]; exact ih e
    | true =>
      rw [hr, cond_true] at e
      rw [Bool.true_and]
      cases hh : hit h.2 w with
      | some c =>
        rw [hh] at e
        rw [hit_ok (β := β) hh]
        cases c with
        | true => cases e; rfl
        | false => rw [Bool.false_or]; exact ih e
      | none =>
        rw [hh] at e
        simp only at e
        cases ha : anyHit r w l with
        | none => rw [ha] at e; cases e
        | some c =>
          rw [ha] at e
          cases c with
          | false => cases e
          | true => cases e; rw [ih ha, Bool.or_true]
theorem allHit_ok {β : Nat → Bool} {hs : List (Int × Bt)} : ∀ {l : List (Int × Bt)} {b : Bool}, allHit hs l = some b → enoughP (vals β hs) (vals β l) = b
  | [], b, e => by cases e; rfl
  | w :: l, b, e => by
    unfold allHit at e
    have ih : ∀ {b : Bool}, allHit hs l = some b → enoughP (vals β hs) (vals β l) = b := fun e => allHit_ok (β := β) e
    have hc : enoughP (vals β hs) (vals β (w :: l)) = (((vals β hs).any fun h => h.1 == w.1 && (h.2 || !w.2.val β)) && enoughP (vals β hs) (vals β l)) := by
      unfold enoughP
      show List.all ((w.1, w.2.val β) :: vals β l) _ = _
      rw [List.all_cons]
    rw [hc]
    cases ha : anyHit w.1 w.2 hs with
    | none =>
      rw [ha] at e
      simp only at e
      cases hb : allHit hs l with
      | none => rw [hb] at e; cases e
      | some c =>
        rw [hb] at e
        cases c with
        | true => cases e
        | false => cases e; rw [ih hb, Bool.and_false]
    | some c =>
      rw [ha] at e
      rw [anyHit_ok (β := β) ha]
      cases c with
      | false => cases e; rfl
      | true => rw [Bool.true_and]; exact ih e

/-- What the tokens of a list of numbers stand for: the numbers; their lowest bits; whether these are set. -/
noncomputable def bitAt (x : Nat → Int) (i : Nat) : Bool := eqA (lowOf (x i) 1) 1
noncomputable def sayB (x : Nat → Int) : List (Value → Prop) :=
  ((List.range 10).map fun i v => v = .int .i64 (x i)) ++ ((List.range 10).map fun i v => v = .int .i64 (lowOf (x i) 1)) ++ ((List.range 10).map fun i v => v = .bool (bitAt x i))
theorem sayB_bit (x : Nat → Int) (i : Nat) (h : i < 10) : (sayB x)[20 + i]? = some fun v => v = .bool (bitAt x i) := by
  match i, h with
  | 0, _ => rfl
  | 1, _ => rfl
  | 2, _ => rfl
  | 3, _ => rfl
  | 4, _ => rfl
  | 5, _ => rfl
  | 6, _ => rfl
  | 7, _ => rfl
  | 8, _ => rfl
  | 9, _ => rfl
  | i + 10, h => omega
theorem pairs_rel {x : Nat → Int} {μ : Mu} (hsy : μ.sy = sayAt (sayB x)) : ∀ {l l' : List Value} {q : List (Int × Bt)}, VRels μ l l' → pairsOf l = some q → l' = encP (vals (bitAt x) q)
  | [], l', q, hv, h => by
    cases hv
    cases h; rfl
  | [v], l', q, hv, h => by cases h
  | r :: b :: l, l', q, hv, h => by
    cases hv with
    | cons _ r' _ l1 hr hv =>
      cases hv with
      | cons _ b' _ l2 hb hv =>
        unfold pairsOf at h
        simp only [Option.bind_eq_some_iff, Option.map_eq_some_iff] at h
        obtain ⟨n, hn, y, hy, q2, hq, rfl⟩ := h
        have ih := pairs_rel hsy hv hq
        have h1 : r' = .int .i64 n := by
          unfold rankOf at hn
          split at hn
          · injection hn with hn; subst hn; exact hr.ofInt
          · cases hn
        have h2 : b' = .bool (y.val (bitAt x)) := by
          unfold bitOf at hy
          split at hy
          · injection hy with hy; subst hy; exact hb.eq rfl
          · rename_i c
            cases hc : Nat.ble (tokN 20) c && Nat.blt c (tokN 30) with
            | false => rw [hc] at hy; cases hy
            | true =>
              rw [hc, cond_true] at hy
              injection hy with hy; subst hy
              rw [Bool.and_eq_true] at hc
              have c1 := Nat.le_of_ble_eq_true hc.1
              have c2 : c < tokN 30 := Nat.le_of_ble_eq_true hc.2
              obtain ⟨i, hi, rfl⟩ : ∃ i, i < 10 ∧ c = tokN (20 + i) := ⟨c - tokN 20, by unfold tokN at *; simp only [Nat.add_eq] at *; omega, by unfold tokN at *; simp only [Nat.add_eq] at *; omega⟩
              have := tok_of hsy (sayB_bit x i hi) hb
              rw [this]
              show Value.bool _ = Value.bool (bitAt x (tokN (20 + i) - tokN 20))
              rw [show tokN (20 + i) - tokN 20 = i by unfold tokN; simp only [Nat.add_eq]; omega]
          · cases hy
        rw [h1, h2, ih]; rfl
/-- Facts of the numbers' bits; of the k-th it is known. -/
noncomputable def factsB (k : Nat) (β : Int) : List Fact :=
  (List.range 10).flatMap fun i => bif Nat.beq i k then [⟨.and, i, 1, .int .i64 β⟩] else [⟨.and, i, 1, tok (10 + i)⟩, ⟨.eql, 10 + i, 1, tok (20 + i)⟩]

theorem encP_len : ∀ l : List (Int × Bool), (encP l).length = l.length * 2
  | [] => rfl
  | x :: l => by
    show (encP l).length + 1 + 1 = (l.length + 1) * 2
    rw [encP_len l]; omega
theorem encP_at : ∀ (l : List (Int × Bool)) (j : Nat), j < l.length → (encP l)[j * 2]? = some (.int .i64 l[j]!.1) ∧ (encP l)[j * 2 + 1]? = some (.bool l[j]!.2)
  | [], j, h => by simp at h
  | x :: l, 0, _ => ⟨rfl, rfl⟩
  | x :: l, j + 1, h => by
    have := encP_at l j (by simpa using h)
    rw [show (j + 1) * 2 = j * 2 + 2 by omega]
    exact this
end Go.Cm
