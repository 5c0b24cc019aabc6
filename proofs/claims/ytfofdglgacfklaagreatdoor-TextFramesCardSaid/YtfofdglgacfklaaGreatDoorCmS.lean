/-
  A region that draws an order: what was done, operation by operation; and what was done last.
-/
import Derived.Test.YtfofdglgacfklaaGreatDoorCmR
namespace Go.Cm
open Go Go.RowKit

/-- What was done at one operation. -/
structure Stp (E : Env) (call : FuncId → List Value → M Value) (ops : Array Oper) (o : Oper) (fr fr' : Fr) (R R' : Nat → Option Row) (n n' : Nat) (L W : List Nat) : Prop where
  mono : n ≤ n'
  sub : ∀ r, r ∈ W → r ∈ L
  lt : ∀ r, r ∈ L → r < n'
  same : ∀ r, r ∉ W → (r < n ∨ n' ≤ r) → R' r = R r
  dst : ∃ v, (o.dst = none ∧ fr' = fr) ∨ ∃ t, o.dst = some t ∧ t < fr.n ∧ fr' = fr.put t v
  again : ∀ s2 : St, s2.next = n → (∀ r, r ∈ L → r < n → s2.rows.get r = R r) →
    ∃ s2', evOp E call ops o fr s2 = some (fr', s2') ∧ s2'.next = n' ∧ ∀ r, s2'.rows.get r = if (r ∈ W ∨ n ≤ r) ∧ r < n' then R' r else s2.rows.get r

noncomputable def didOf (n n' : Nat) (L W : List Nat) : Did := { lo := n, hi := n', log := below n L, wlog := below n W }

section
variable {E : Env} {call : FuncId → List Value → M Value} {ops : Array Oper} {before : Array Nat}

theorem evOp_dst {o : Oper} {fr fr' : Fr} {s s' : St} (h : evOp E call ops o fr s = some (fr', s')) : ∃ v, (o.dst = none ∧ fr' = fr) ∨ ∃ t, o.dst = some t ∧ t < fr.n ∧ fr' = fr.put t v := by
  have hsu := evOp_sure h
  unfold evOp at h
  rw [hsu, Bool.not_true, cond_false] at h
  cases hw : wantedA ops fr o with
  | false => rw [hw, cond_false, dst_some] at h; exact ⟨_, h.2⟩
  | true =>
    rw [hw, cond_true, bind_some] at h
    obtain ⟨nx, s1, _, h⟩ := h
    cases nx with
    | value v => simp only [dst_some] at h; exact ⟨_, h.2⟩
    | skip => simp only [dst_some] at h; exact ⟨_, h.2⟩
    | known f args v => simp only [dst_some] at h; exact ⟨_, h.2⟩
    | enter f args =>
      simp only at h
      rw [bind_some] at h
      obtain ⟨v, s2, _, h⟩ := h
      rw [dst_some] at h; exact ⟨_, h.2⟩

theorem settled_spec {j : Nat} {b : Did} : ∀ {ds : List (Nat × Did)}, settled before j b ds = true → ∀ a, a ∈ ds → clash a.2 b = true → ordered before a.1 j = true
  | [], _, a, ha, _ => by simp at ha
  | d :: l, h, a, ha, hc => by
    unfold settled at h
    simp only [List.mem_cons] at ha
    cases hd : clash d.2 b with
    | false =>
      rw [hd, cond_false] at h
      rcases ha with rfl | ha
      · rw [hd] at hc; cases hc
      · exact settled_spec h a ha hc
    | true =>
      rw [hd, cond_true] at h
      cases ho : ordered before d.1 j with
      | false => rw [ho] at h; cases h
      | true =>
        rw [ho, cond_true] at h
        rcases ha with rfl | ha
        · exact ho
        · exact settled_spec h a ha hc

theorem meets_spec : ∀ {l k : List Nat}, meets l k = true ↔ ∃ x, x ∈ l ∧ x ∈ k
  | [], k => by simp [meets]
  | x :: l, k => by
    unfold meets
    cases h : k.any (Nat.beq x) with
    | true =>
      simp only [cond_true, true_iff]
      rw [List.any_eq_true] at h
      obtain ⟨y, hy, he⟩ := h
      have := Nat.eq_of_beq_eq_true he
      subst this
      exact ⟨x, by simp, hy⟩
    | false =>
      simp only [cond_false, meets_spec (l := l) (k := k)]
      constructor
      · rintro ⟨y, h1, h2⟩; exact ⟨y, by simp [h1], h2⟩
      · rintro ⟨y, h1, h2⟩
        simp only [List.mem_cons] at h1
        rcases h1 with rfl | h1
        · have : k.any (Nat.beq y) = true := List.any_eq_true.2 ⟨y, h2, Nat.beq_refl y⟩
          rw [this] at h; cases h
        · exact ⟨y, h1, h2⟩
theorem hasIn_spec {lo hi : Nat} : ∀ {l : List Nat}, hasIn lo hi l = true ↔ ∃ x, x ∈ l ∧ lo ≤ x ∧ x < hi
  | [] => by simp [hasIn]
  | x :: l => by
    unfold hasIn
    cases h : Nat.ble lo x && Nat.blt x hi with
    | true =>
      simp only [cond_true, true_iff]
      simp only [Bool.and_eq_true] at h
      exact ⟨x, by simp, Nat.le_of_ble_eq_true h.1, blt_lt h.2⟩
    | false =>
      simp only [cond_false, hasIn_spec (l := l)]
      constructor
      · rintro ⟨y, h1, h2⟩; exact ⟨y, by simp [h1], h2⟩
      · rintro ⟨y, h1, h2, h3⟩
        simp only [List.mem_cons] at h1
        rcases h1 with rfl | h1
        · have : (Nat.ble lo y && Nat.blt y hi) = true := by simp only [Bool.and_eq_true]; exact ⟨Nat.ble_eq_true_of_le h2, Nat.ble_eq_true_of_le h3⟩
          rw [this] at h; cases h
        · exact ⟨y, h1, h2, h3⟩

theorem clash_of {a b : Did} (h : (∃ x, x ∈ a.wlog ∧ x ∈ b.log) ∨ (∃ x, x ∈ b.wlog ∧ x ∈ a.log) ∨ ∃ x, x ∈ b.log ∧ a.lo ≤ x ∧ x < a.hi) : clash a b = true := by
  unfold clash
  rcases h with h | h | h
  · rw [meets_spec.2 h]; rfl
  · cases meets a.wlog b.log
    · rw [meets_spec.2 h]; rfl
    · rfl
  · cases meets a.wlog b.log
    · cases meets b.wlog a.log
      · have : Nat.beq a.lo a.hi = false := by
          obtain ⟨x, _, h1, h2⟩ := h
          cases hb : Nat.beq a.lo a.hi
          · rfl
          · have := Nat.eq_of_beq_eq_true hb; omega
        simp only [cond_false, this]
        exact hasIn_spec.2 h
      · rfl
    · rfl

theorem keep_old {i : Nat} {d : Did} {ds : List (Nat × Did)} {a : Nat × Did} (h : a ∈ ds) : a ∈ keep i d ds := by
  unfold keep
  split
  · cases Nat.beq d.lo d.hi <;> simp [h]
  · simp [h]
theorem keep_new {i : Nat} {d b : Did} {ds : List (Nat × Did)} (hsub : ∀ x, x ∈ d.wlog → x ∈ d.log) (hc : clash d b = true) : (i, d) ∈ keep i d ds := by
  unfold keep
  split
  · rename_i hl
    cases hb : Nat.beq d.lo d.hi with
    | false => simp
    | true =>
      exfalso
      unfold clash at hc
      have hw : d.wlog = [] := by
        cases hw : d.wlog with
        | nil => rfl
        | cons x l => have := hsub x (by rw [hw]; simp); rw [hl] at this; simp at this
      rw [hw, hl, hb] at hc
      have h1 : meets [] b.log = false := rfl
      have h2 : meets b.wlog [] = false := by
        cases h : meets b.wlog [] with
        | false => rfl
        | true => obtain ⟨x, _, hx⟩ := meets_spec.1 h; simp at hx
      rw [h1, h2] at hc
      cases hc
  · simp

theorem trace (hc : ∀ f args, Loc (call f args)) : ∀ (l : List Oper) (k : Nat) (ds : List (Nat × Did)) (fr fr' : Fr) (s s' : St), evDraw E call ops before l k ds fr s = some (fr', s') →
    ∃ (F : Nat → Fr) (R : Nat → Nat → Option Row) (N : Nat → Nat) (L W : Nat → List Nat),
      (F k = fr ∧ R k = s.rows.get ∧ N k = s.next) ∧ (F (k + l.length) = fr' ∧ R (k + l.length) = s'.rows.get ∧ N (k + l.length) = s'.next) ∧
      ∀ i o, l[i]? = some o → Stp E call ops o (F (k + i)) (F (k + i + 1)) (R (k + i)) (R (k + i + 1)) (N (k + i)) (N (k + i + 1)) (L (k + i)) (W (k + i)) ∧
        (∀ a, a ∈ ds → clash a.2 (didOf (N (k + i)) (N (k + i + 1)) (L (k + i)) (W (k + i))) = true → ordered before a.1 (k + i) = true) ∧
        (∀ j, j < i → clash (didOf (N (k + j)) (N (k + j + 1)) (L (k + j)) (W (k + j))) (didOf (N (k + i)) (N (k + i + 1)) (L (k + i)) (W (k + i))) = true → ordered before (k + j) (k + i) = true)
  | [], k, ds, fr, fr', s, s', h => by
    unfold evDraw at h
    rw [pure_some] at h
    obtain ⟨rfl, rfl⟩ := h
    exact ⟨fun _ => fr', fun _ => s'.rows.get, fun _ => s'.next, fun _ => [], fun _ => [], ⟨rfl, rfl, rfl⟩, ⟨rfl, rfl, rfl⟩, fun i o h => by simp at h⟩
  | o :: l, k, ds, fr, fr', s, s', h => by
    unfold evDraw at h
    rw [bind_some] at h
    obtain ⟨⟨fr1, d⟩, s1, h1, h2⟩ := h
    simp only at h2
    cases hst : settled before k d ds with
    | false => rw [hst, cond_false, fail_some] at h2; exact h2.elim
    | true =>
      rw [hst, cond_true] at h2
      obtain ⟨F, R, N, L, W, ⟨f1, f2, f3⟩, ⟨e1, e2, e3⟩, hall⟩ := trace hc l (k + 1) (keep k d ds) fr1 fr' s1 s' h2
      rw [M.watch_eq] at h1
      cases h3 : evOp E call ops o fr { s with log := [], wlog := [] } with
      | none => rw [h3] at h1; cases h1
      | some p =>
        obtain ⟨fr2, s2⟩ := p
        rw [h3] at h1
        simp only [Option.some.injEq, Prod.mk.injEq] at h1
        obtain ⟨⟨rfl, rfl⟩, rfl⟩ := h1
        obtain ⟨L0, W0, r⟩ := Loc.evOp E hc ops o fr _ _ _ h3
        have hlog : s2.log = L0 := by have := r.log; simpa using this
        have hwlog : s2.wlog = W0 := by have := r.wlog; simpa using this
        have hd : ({ lo := s.next, hi := s2.next, log := below s.next s2.log, wlog := below s.next s2.wlog } : Did) = didOf s.next s2.next L0 W0 := by rw [hlog, hwlog]; rfl
        rw [hd] at hst hall
        have hstp : Stp E call ops o fr fr2 s.rows.get s2.rows.get s.next s2.next L0 W0 := by
          refine ⟨r.next, r.sub, r.lt, r.same, evOp_dst h3, fun t hn hs => ?_⟩
          obtain ⟨t', a1, a2, _, _, a3⟩ := r.again t hn hs
          exact ⟨t', a1, a2, a3⟩
        have kl : k + (o :: l).length = k + 1 + l.length := by simp only [List.length_cons]; omega
        have hf1 : F (k + 1) = fr2 := f1
        have hf2 : R (k + 1) = s2.rows.get := f2
        have hf3 : N (k + 1) = s2.next := f3
        have nk : ∀ i, k + 1 + i ≠ k := fun i => by omega
        have nk2 : ∀ i, k + 1 + i + 1 ≠ k := fun i => by omega
        have n1 : k + 1 ≠ k := by omega
        refine ⟨fun i => if i = k then fr else F i, fun i => if i = k then s.rows.get else R i, fun i => if i = k then s.next else N i, fun i => if i = k then L0 else L i, fun i => if i = k then W0 else W i,
          ⟨by simp, by simp, by simp⟩, ⟨by rw [kl]; simp only [if_neg (nk _)]; exact e1, by rw [kl]; simp only [if_neg (nk _)]; exact e2, by rw [kl]; simp only [if_neg (nk _)]; exact e3⟩, fun i o' hi => ?_⟩
        cases i with
        | zero =>
          simp only [List.getElem?_cons_zero, Option.some.injEq] at hi
          subst hi
          simp only [Nat.add_zero, if_true, if_neg n1, hf1, hf2, hf3]
          exact ⟨hstp, fun a ha hcl => settled_spec hst a ha hcl, fun j hj => absurd hj (by omega)⟩
        | succ i =>
          rw [List.getElem?_cons_succ] at hi
          obtain ⟨g1, g2, g3⟩ := hall i o' hi
          have ki : k + (i + 1) = k + 1 + i := by omega
          simp only [ki, if_neg (nk i), if_neg (nk2 i)]
          refine ⟨g1, fun a ha hcl => g2 a (keep_old ha) hcl, fun j hj hcl => ?_⟩
          cases j with
          | zero =>
            simp only [Nat.add_zero, if_true, if_neg n1, hf3] at hcl ⊢
            exact g2 (k, _) (keep_new (fun x hx => by
              simp only [didOf, mem_below] at hx ⊢; exact ⟨r.sub x hx.1, hx.2⟩) hcl) hcl
          | succ j =>
            have kj : k + (j + 1) = k + 1 + j := by omega
            simp only [kj, if_neg (nk j), if_neg (nk2 j)] at hcl ⊢
            exact g3 j (by omega) hcl
end

/-- Of what stands now, that it is what the last of those did that were done. -/
def Last {α : Type} (X Wr : Nat → Prop) (V : Nat → α) (P : α → Prop) : Prop :=
  ((∀ j, X j → ¬ Wr j) → P (V 0)) ∧ ∀ j, X j → Wr j → (∀ k, X k → Wr k → k ≤ j) → P (V (j + 1))

theorem Last.at_ {α : Type} {X Wr : Nat → Prop} {V : Nat → α} {P : α → Prop} (h : Last X Wr V P) {m i : Nat} (hi : i ≤ m) (hs : ∀ j, j < m → ¬ Wr j → V (j + 1) = V j)
    (hx : ∀ j, j < m → Wr j → (X j ↔ j < i)) (hm : ∀ j, X j → j < m) : P (V i) := by
  have key : ∀ k, k ≤ i → (∀ j, X j → Wr j → j < k) → V k = V i → P (V i) := by
    intro k
    induction k with
    | zero => intro _ hw he; rw [← he]; exact h.1 fun j hj hwr => absurd (hw j hj hwr) (by omega)
    | succ k ih =>
      intro hk hw he
      by_cases hwk : Wr k
      · rw [← he]
        exact h.2 k ((hx k (by omega) hwk).2 (by omega)) hwk fun j hj hwr => by have := hw j hj hwr; omega
      · refine ih (by omega) (fun j hj hwr => ?_) (by rw [← he, hs k (by omega) hwk])
        have := hw j hj hwr
        rcases Nat.lt_or_ge j k with h | h
        · exact h
        · have : j = k := by omega
          subst this; exact absurd hwr hwk
  exact key i (Nat.le_refl _) (fun j hj hwr => (hx j (hm j hj) hwr).1 hj) rfl

theorem Last.step {α : Type} {X Wr : Nat → Prop} {V : Nat → α} {P P' : α → Prop} (h : Last X Wr V P) {i : Nat} (h1 : Wr i → P' (V (i + 1))) (h2 : ¬ Wr i → ∀ x, P x → P' x)
    (h3 : Wr i → ∀ j, X j → Wr j → j < i) : Last (fun j => X j ∨ j = i) Wr V P' := by
  constructor
  · intro hn
    exact h2 (hn i (Or.inr rfl)) _ (h.1 fun j hj => hn j (Or.inl hj))
  · intro j hj hwr hmax
    rcases hj with hj | rfl
    · by_cases hwi : Wr i
      · have a := hmax i (Or.inr rfl) hwi
        have b := h3 hwi j hj hwr
        omega
      · exact h2 hwi _ (h.2 j hj hwr fun k hk => hmax k (Or.inl hk))
    · exact h1 hwr
end Go.Cm
