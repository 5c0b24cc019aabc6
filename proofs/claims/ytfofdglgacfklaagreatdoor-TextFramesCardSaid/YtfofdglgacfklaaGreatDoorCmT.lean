/-
  A region that draws an order: whatever the order, the same comes of it.
-/
import Derived.Test.YtfofdglgacfklaaGreatDoorCmS
import Derived.CheckFast
namespace Go.Cm
open Go Go.RowKit

/-! ### Before -/
def beforeStep (acc : Array Nat) (o : Oper) : Array Nat := acc.push (o.after.foldl (fun s e => if Region.binds .any e then s ||| 2 ^ e.on ||| acc.getD e.on 0 else s) 0)
theorem before_def (ops : Array Oper) : Region.before ops = ops.toList.foldl beforeStep #[] := by
  unfold Region.before; rw [← Array.foldl_toList]; rfl

theorem foldl_old : ∀ (l : List Oper) (A : Array Nat) (k : Nat), k < A.size → (l.foldl beforeStep A).getD k 0 = A.getD k 0
  | [], A, k, _ => rfl
  | o :: l, A, k, h => by
    rw [List.foldl_cons, foldl_old l _ k (by simp [beforeStep]; omega)]
    simp only [beforeStep, Array.getD_eq_getD_getElem?, Array.getElem?_push]
    rw [if_neg (by omega)]

theorem before_at : ∀ (l : List Oper) (A : Array Nat) (i : Nat) (o : Oper), l[i]? = some o → ∃ B : Array Nat, B.size = A.size + i ∧ (∀ k, k < B.size → B.getD k 0 = (l.foldl beforeStep A).getD k 0) ∧
    (l.foldl beforeStep A).getD (A.size + i) 0 = o.after.foldl (fun s e => if Region.binds .any e then s ||| 2 ^ e.on ||| B.getD e.on 0 else s) 0
  | [], A, i, o, h => by simp at h
  | p :: l, A, 0, o, h => by
    simp only [List.getElem?_cons_zero, Option.some.injEq] at h
    subst h
    refine ⟨A, rfl, fun k hk => (foldl_old _ _ k hk).symm, ?_⟩
    rw [List.foldl_cons, Nat.add_zero, foldl_old l _ A.size (by simp [beforeStep])]
    simp [beforeStep, Array.getD_eq_getD_getElem?]
  | p :: l, A, i + 1, o, h => by
    rw [List.getElem?_cons_succ] at h
    obtain ⟨B, b1, b2, b3⟩ := before_at l (beforeStep A p) i o h
    have hs : (beforeStep A p).size = A.size + 1 := by simp [beforeStep]
    refine ⟨B, by rw [b1, hs]; omega, fun k hk => by rw [List.foldl_cons]; exact b2 k hk, ?_⟩
    rw [List.foldl_cons, show A.size + (i + 1) = (beforeStep A p).size + i by rw [hs]; omega]
    exact b3

theorem fold_bit {B : Array Nat} {j : Nat} : ∀ (l : List Edge) (s : Nat), (l.foldl (fun s e => if Region.binds .any e then s ||| 2 ^ e.on ||| B.getD e.on 0 else s) s).testBit j = true →
    s.testBit j = true ∨ ∃ e, e ∈ l ∧ Region.binds .any e = true ∧ (e.on = j ∨ (B.getD e.on 0).testBit j = true)
  | [], s, h => Or.inl h
  | e :: l, s, h => by
    rw [List.foldl_cons] at h
    rcases fold_bit l _ h with h1 | ⟨e', h1, h2, h3⟩
    · cases hb : Region.binds .any e with
      | false => rw [hb] at h1; exact Or.inl (by simpa using h1)
      | true =>
        rw [hb] at h1
        simp only [if_true, Nat.testBit_or, Bool.or_eq_true] at h1
        rcases h1 with (h1 | h1) | h1
        · exact Or.inl h1
        · rw [Nat.testBit_two_pow] at h1
          exact Or.inr ⟨e, by simp, hb, Or.inl (of_decide_eq_true h1)⟩
        · exact Or.inr ⟨e, by simp, hb, Or.inr h1⟩
    · exact Or.inr ⟨e', by simp [h1], h2, h3⟩

theorem ordered_edge {ops : Array Oper} {i j : Nat} {o : Oper} (ho : ops[i]? = some o) (h : ordered (Region.before ops) j i = true) :
    ∃ e, e ∈ o.after ∧ Region.binds .any e = true ∧ (e.on = j ∨ (e.on < i ∧ ordered (Region.before ops) j e.on = true)) := by
  unfold ordered at h ⊢
  rw [before_def] at h ⊢
  obtain ⟨B, b1, b2, b3⟩ := before_at ops.toList #[] i o (by simpa using ho)
  simp only [Array.size_empty, Nat.zero_add] at b1 b3
  rw [b3, ← Array.foldl_toList] at h
  rcases fold_bit _ _ h with h1 | ⟨e, h1, h2, h3⟩
  · simp at h1
  · refine ⟨e, Array.mem_toList_iff.1 h1, h2, h3.imp id fun h3 => ?_⟩
    rcases Nat.lt_or_ge e.on i with hlt | hge
    · exact ⟨hlt, by rw [← b2 e.on (by omega)]; exact h3⟩
    · have : B.getD e.on 0 = 0 := by simp [Array.getD_eq_getD_getElem?, Array.getElem?_eq_none (by omega : B.size ≤ e.on)]
      rw [this] at h3; simp at h3

theorem ordered_closed {ops : Array Oper} {X : Nat → Prop} (hcl : ∀ j o, X j → ops[j]? = some o → ∀ e, e ∈ o.after → Region.binds .any e = true → X e.on) (hlt : ∀ j, X j → j < ops.size) {j : Nat} :
    ∀ (n i : Nat), i < n → X i → ordered (Region.before ops) j i = true → X j
  | 0, i, h, _, _ => absurd h (by omega)
  | n + 1, i, h, hx, ho => by
    obtain ⟨o, hoi⟩ : ∃ o, ops[i]? = some o := ⟨ops[i]'(hlt i hx), Array.getElem?_eq_getElem (hlt i hx)⟩
    obtain ⟨e, he, hb, hj⟩ := ordered_edge hoi ho
    have hxe := hcl i o hx hoi e he hb
    rcases hj with rfl | ⟨h1, h2⟩
    · exact hxe
    · exact ordered_closed hcl hlt n e.on (by omega) hxe h2

/-! ### What is asked of the order -/
theorem orderOkAt_spec {ops : Array Oper} {before : Array Nat} {o : Oper} {j : Nat} : ∀ (l : List Oper) (k : Nat), orderOkAt ops before o j l k = true →
    ∀ i p, l[i]? = some p → k + i < j → ordered before (k + i) j = true ∨ p.apart ops o = true
  | [], k, _, i, p, h, _ => by simp at h
  | q :: l, k, h, i, p, hi, hlt => by
    unfold orderOkAt at h
    have hb : Nat.blt k j = true := lt_blt0 (by omega)
    rw [hb, cond_true, Bool.and_eq_true] at h
    cases i with
    | zero =>
      simp only [List.getElem?_cons_zero, Option.some.injEq] at hi
      subst hi
      cases ho : ordered before k j with
      | true => exact Or.inl rfl
      | false => rw [ho] at h; exact Or.inr h.1
    | succ i =>
      rw [List.getElem?_cons_succ] at hi
      have := orderOkAt_spec l (k + 1) h.2 i p hi (by omega)
      rwa [show k + 1 + i = k + (i + 1) by omega] at this

theorem orderOk_spec {ops : Array Oper} {before : Array Nat} : ∀ (l : List Oper) (k : Nat), orderOk ops before l k = true →
    ∀ j o, l[j]? = some o → (∀ i p, ops[i]? = some p → i < k + j → ordered before i (k + j) = true ∨ p.apart ops o = true) ∧ ∀ e, e ∈ o.after → Region.binds .any e = true → e.on < k + j
  | [], k, _, j, o, h => by simp at h
  | q :: l, k, h, j, o, hj => by
    unfold orderOk at h
    simp only [Bool.and_eq_true] at h
    obtain ⟨⟨h1, h2⟩, h3⟩ := h
    cases j with
    | zero =>
      simp only [List.getElem?_cons_zero, Option.some.injEq] at hj
      subst hj
      refine ⟨fun i p hi hlt => ?_, fun e he hb => ?_⟩
      · have := orderOkAt_spec ops.toList 0 h1 i p (by simpa using hi) (by omega)
        simpa using this
      · rw [List.all_eq_true] at h2
        have := h2 e (by simpa using he)
        rw [hb] at this
        exact blt_lt0 this
    | succ j =>
      rw [List.getElem?_cons_succ] at hj
      have := orderOk_spec l (k + 1) h3 j o hj
      rwa [show k + 1 + j = k + (j + 1) by omega] at this

theorem Fr.get_put {fr : Fr} {d t : Nat} {v : Value} (hd : d < fr.n) (hle : fr.n ≤ 1024) : (fr.put d v).get t = if t = d then v else fr.get t := by
  rw [Fr.get_eq, Fr.get_eq, Fr.put_eq]
  show (bif Nat.blt t fr.n then FT.get 5 (FT.put 5 fr.t d v) t else undef) = _
  cases hb : Nat.blt t fr.n with
  | true =>
    have := blt_lt0 hb
    simp only [cond_true]
    rw [FT.get_put 5 fr.t d t v (by show d < 1024; omega) (by show t < 1024; omega)]
  | false =>
    have : t ≠ d := by rintro rfl; rw [lt_blt0 hd] at hb; cases hb
    rw [if_neg this]; rfl
end Go.Cm
