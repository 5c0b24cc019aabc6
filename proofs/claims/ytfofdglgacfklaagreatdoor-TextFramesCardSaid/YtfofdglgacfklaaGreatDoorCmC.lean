/-
  What a piece of the machine touches is all that it hangs on: 'Loc', piece by piece.
-/
import Derived.Test.YtfofdglgacfklaaGreatDoorCmB
namespace Go.Cm
open Go

/-- A run, seen from elsewhere: L was touched, W written; where L reads the same, and what is made is new, the same comes of it. -/
structure Ran {α : Type} (m : M α) (s : St) (a : α) (s' : St) (L W : List Nat) : Prop where
  next : s.next ≤ s'.next
  log : s'.log = L ++ s.log
  wlog : s'.wlog = W ++ s.wlog
  sub : ∀ r, r ∈ W → r ∈ L
  lt : ∀ r, r ∈ L → r < s'.next
  same : ∀ r, r ∉ W → (r < s.next ∨ s'.next ≤ r) → s'.rows.get r = s.rows.get r
  again : ∀ s2 : St, s2.next = s.next → (∀ r, r ∈ L → r < s.next → s2.rows.get r = s.rows.get r) →
    ∃ s2' : St, m s2 = some (a, s2') ∧ s2'.next = s'.next ∧ s2'.log = L ++ s2.log ∧ s2'.wlog = W ++ s2.wlog ∧
      ∀ r, s2'.rows.get r = if (r ∈ W ∨ s.next ≤ r) ∧ r < s'.next then s'.rows.get r else s2.rows.get r

def Loc {α : Type} (m : M α) : Prop := ∀ s a s', m s = some (a, s') → ∃ L W, Ran m s a s' L W

theorem Ran.still {α : Type} {m : M α} {s : St} {a : α} (h : ∀ s2 : St, m s2 = some (a, s2)) : Ran m s a s [] [] where
  next := Nat.le_refl _
  log := rfl
  wlog := rfl
  sub := fun _ h => h
  lt := fun _ h => by simp at h
  same := fun _ _ _ => rfl
  again := fun s2 hn _ => ⟨s2, h s2, hn, rfl, rfl, fun r => by rw [if_neg]; rintro ⟨h | h, h'⟩ <;> first | (simp at h; done) | omega⟩

theorem Loc.pure {α : Type} (a : α) : Loc (M.pure a) := by
  intro s a' s' h
  injection h with h; injection h with h1 h2; subst h1; subst h2
  exact ⟨[], [], Ran.still (fun _ => rfl)⟩
theorem Loc.fail {α : Type} : Loc (M.fail : M α) := by intro s a s' h; cases h
theorem Loc.lift {α : Type} (o : Option α) : Loc (M.lift o) := by
  cases o with
  | none => intro s a s' h; cases h
  | some a =>
    intro s a' s' h
    injection h with h; injection h with h1 h2; subst h1; subst h2
    exact ⟨[], [], Ran.still (fun _ => rfl)⟩
theorem blt_lt0 {a b : Nat} (h : Nat.blt a b = true) : a < b := Nat.le_of_ble_eq_true h
theorem lt_blt0 {a b : Nat} (h : a < b) : Nat.blt a b = true := Nat.ble_eq_true_of_le h
theorem Loc.row (r : Nat) : Loc (M.row r) := by
  intro s a s' h
  rw [M.row_eq] at h
  cases hb : Nat.blt r s.next with
  | false => rw [hb] at h; cases h
  | true =>
    have hlt := blt_lt0 hb
    rw [hb] at h
    cases hr : s.rows.get r with
    | none => rw [hr] at h; cases h
    | some x =>
      rw [hr] at h
      injection h with h; injection h with h1 h2; subst h1; subst h2
      refine ⟨[r], [], Nat.le_refl _, rfl, rfl, fun _ h => by simp at h, fun q h => by simp at h; subst h; exact hlt, fun _ _ _ => rfl, fun s2 hn hs => ?_⟩
      refine ⟨{ s2 with log := r :: s2.log }, ?_, hn, rfl, rfl, fun q => ?_⟩
      · rw [M.row_eq]; rw [hn, hb, hs r (by simp) hlt, hr]; rfl
      · rw [if_neg]; rintro ⟨h | h, h'⟩
        · simp at h
        · have : q < s.next := h'; omega
theorem Loc.turn (r : Nat) (x : Option Row) : Loc (M.turn r x) := by
  intro s a s' h
  rw [M.turn_eq] at h
  cases hb0 : Nat.blt r s.next with
  | false => rw [hb0] at h; cases h
  | true =>
    have hlt := blt_lt0 hb0
    rw [hb0] at h
    cases hr : s.rows.get r with
    | none => rw [hr] at h; cases h
    | some y =>
      rw [hr] at h
      cases hb : Nat.ble r 1000000000 with
      | false => rw [hb] at h; cases h
      | true =>
        rw [hb] at h
        injection h with h; injection h with h1 h2; subst h1; subst h2
        refine ⟨[r], [r], Nat.le_refl _, rfl, rfl, fun _ h => h, fun q h => by simp at h; subst h; exact hlt, fun q h _ => ?_, fun s2 hn hs => ?_⟩
        · show (D.put x deep s.rows r).get q = _
          rw [D.got _ _ _ _ hb, if_neg (by simpa using h)]
        · refine ⟨{ s2 with rows := D.put x deep s2.rows r, log := r :: s2.log, wlog := r :: s2.wlog }, ?_, hn, rfl, rfl, fun q => ?_⟩
          · rw [M.turn_eq]; rw [hn, hb0, hs r (by simp) hlt, hr]; simp only [hb, cond_true]
          · show (D.put x deep s2.rows r).get q = if _ then (D.put x deep s.rows r).get q else _
            rw [D.got _ _ _ _ hb, D.got _ _ _ _ hb]
            by_cases e : q = r
            · subst e; rw [if_pos rfl, if_pos rfl]; split <;> first | rfl | (rename_i hh; exact absurd ⟨Or.inl (by simp), hlt⟩ hh)
            · rw [if_neg e, if_neg e]
              rw [if_neg]; rintro ⟨h | h, h'⟩
              · simp at h; exact e h
              · have h2 : q < s.next := h'; omega
theorem Loc.fresh (x : Row) : Loc (M.fresh x) := by
  intro s a s' h
  rw [M.fresh_eq] at h
  cases hb : Nat.ble s.next 1000000000 with
  | false => rw [hb] at h; cases h
  | true =>
    rw [hb] at h
    injection h with h; injection h with h1 h2; subst h1; subst h2
    refine ⟨[], [], Nat.le_succ _, rfl, rfl, fun _ h => h, fun q h => by simp at h, fun q _ hq => ?_, fun s2 hn _ => ?_⟩
    · show (D.put (some x) deep s.rows s.next).get q = _
      have hq' : q < s.next ∨ s.next + 1 ≤ q := hq
      rw [D.got _ _ _ _ hb, if_neg (by omega)]
    · refine ⟨{ s2 with rows := D.put (some x) deep s2.rows s2.next, next := Nat.succ s2.next }, ?_, by rw [← hn], rfl, rfl, fun q => ?_⟩
      · rw [M.fresh_eq]; rw [hn, hb]; rfl
      · show (D.put (some x) deep s2.rows s2.next).get q = if (q ∈ ([] : List Nat) ∨ s.next ≤ q) ∧ q < s.next + 1 then (D.put (some x) deep s.rows s.next).get q else _
        rw [hn, D.got _ _ _ _ hb, D.got _ _ _ _ hb]
        by_cases e : q = s.next
        · subst e; rw [if_pos rfl, if_pos rfl]; split <;> first | rfl | (rename_i hh; exact absurd ⟨Or.inr (Nat.le_refl _), Nat.lt_succ_self _⟩ hh)
        · rw [if_neg e, if_neg e, if_neg]
          rintro ⟨h | h, h'⟩
          · simp at h
          · omega
theorem Loc.bind {α β : Type} {m : M α} {f : α → M β} (hm : Loc m) (hf : ∀ a, Loc (f a)) : Loc (M.bind m f) := by
  intro s b s' h
  rw [M.bind_eq] at h
  cases h1 : m s with
  | none => rw [h1] at h; cases h
  | some p =>
    obtain ⟨a, s1⟩ := p
    rw [h1] at h
    obtain ⟨L1, W1, r1⟩ := hm s a s1 h1
    obtain ⟨L2, W2, r2⟩ := hf a s1 b s' h
    have n1 := r1.next
    have n2 := r2.next
    refine ⟨L2 ++ L1, W2 ++ W1, by omega, ?_, ?_, ?_, ?_, ?_, ?_⟩
    · rw [r2.log, r1.log, List.append_assoc]
    · rw [r2.wlog, r1.wlog, List.append_assoc]
    · intro r h; simp only [List.mem_append] at h ⊢; exact h.imp (r2.sub r) (r1.sub r)
    · intro r h; simp only [List.mem_append] at h
      rcases h with h | h
      · exact r2.lt r h
      · have := r1.lt r h; omega
    · intro r h hr
      simp only [List.mem_append, not_or] at h
      rw [r2.same r h.1 (by omega), r1.same r h.2 (by omega)]
    · intro s2 hn hs
      obtain ⟨t1, e1, en1, el1, ew1, er1⟩ := r1.again s2 hn (fun r hr hl => hs r (by simp [hr]) hl)
      obtain ⟨t2, e2, en2, el2, ew2, er2⟩ := r2.again t1 en1 (fun r hr hl => by
          rw [er1]
          by_cases c : (r ∈ W1 ∨ s.next ≤ r) ∧ r < s1.next
          · rw [if_pos c]
          · rw [if_neg c]
            have hw : r ∉ W1 := fun hw => c ⟨Or.inl hw, hl⟩
            have hlt : r < s.next := by
              rcases Nat.lt_or_ge r s.next with h | h
              · exact h
              · exact absurd ⟨Or.inr h, hl⟩ c
            rw [hs r (by simp [hr]) hlt, r1.same r hw (Or.inl hlt)])
      refine ⟨t2, ?_, en2, ?_, ?_, fun r => ?_⟩
      · rw [M.bind_eq]; rw [e1]; exact e2
      · rw [el2, el1, List.append_assoc]
      · rw [ew2, ew1, List.append_assoc]
      · rw [er2, er1]
        by_cases c2 : (r ∈ W2 ∨ s1.next ≤ r) ∧ r < s'.next
        · rw [if_pos c2, if_pos ⟨by rcases c2.1 with h | h; exact Or.inl (by simp [h]); exact Or.inr (by omega), c2.2⟩]
        · rw [if_neg c2]
          by_cases c1 : (r ∈ W1 ∨ s.next ≤ r) ∧ r < s1.next
          · have hw2 : r ∉ W2 := fun hw => c2 ⟨Or.inl hw, by omega⟩
            rw [if_pos c1, if_pos ⟨by rcases c1.1 with h | h; exact Or.inl (by simp [h]); exact Or.inr h, by omega⟩]
            exact (r2.same r hw2 (Or.inl c1.2)).symm
          · rw [if_neg c1, if_neg]
            rintro ⟨h, h'⟩
            rcases h with h | h
            · simp only [List.mem_append] at h
              rcases h with h | h
              · exact c2 ⟨Or.inl h, h'⟩
              · exact c1 ⟨Or.inl h, r1.lt r (r1.sub r h)⟩
            · rcases Nat.lt_or_ge r s1.next with h2 | h2
              · exact c1 ⟨Or.inr h, h2⟩
              · exact c2 ⟨Or.inr h2, h'⟩

theorem mem_below (n r : Nat) : ∀ l : List Nat, r ∈ below n l ↔ r ∈ l ∧ r < n
  | [] => by simp [below_nil]
  | x :: l => by
    rw [below_cons]
    cases h : Nat.blt x n with
    | true =>
      have hx : x < n := Nat.le_of_ble_eq_true h
      simp only [cond_true, List.mem_cons, mem_below n r l]
      constructor
      · rintro (h | h)
        · subst h; exact ⟨Or.inl rfl, hx⟩
        · exact ⟨Or.inr h.1, h.2⟩
      · rintro ⟨h | h, h'⟩
        · exact Or.inl h
        · exact Or.inr ⟨h, h'⟩
    | false =>
      have hx : ¬ x < n := by
        intro hx
        have : Nat.blt x n = true := Nat.ble_eq_true_of_le hx
        rw [this] at h; cases h
      simp only [cond_false, List.mem_cons, mem_below n r l]
      constructor
      · rintro ⟨h, h'⟩; exact ⟨Or.inr h, h'⟩
      · rintro ⟨h | h, h'⟩
        · subst h; exact absurd h' hx
        · exact ⟨h, h'⟩

theorem Loc.within {α : Type} {m : M α} (hm : Loc m) : Loc (M.within m) := by
  intro s a s' h
  rw [M.within_eq] at h
  cases h1 : m { s with log := [], wlog := [] } with
  | none => rw [h1] at h; cases h
  | some p =>
    obtain ⟨a1, s1⟩ := p
    rw [h1] at h
    injection h with h; injection h with e1 e2; subst e1; subst e2
    obtain ⟨L, W, r⟩ := hm { s with log := [], wlog := [] } a1 s1 h1
    have hlog : s1.log = L := by have := r.log; simpa using this
    have hwlog : s1.wlog = W := by have := r.wlog; simpa using this
    refine ⟨below s.next L, below s.next W, r.next, by rw [← hlog], by rw [← hwlog], ?_, ?_, ?_, ?_⟩
    · intro q hq; rw [mem_below] at hq ⊢; exact ⟨r.sub q hq.1, hq.2⟩
    · intro q hq; rw [mem_below] at hq; exact r.lt q hq.1
    · intro q hq hl
      refine r.same q (fun h => hq ((mem_below _ _ _).2 ⟨h, ?_⟩)) hl
      rcases hl with hl | hl
      · exact hl
      · have h1 := r.lt q (r.sub q h)
        have h2 : s1.next ≤ q := hl
        omega
    · intro s2 hn hs
      obtain ⟨t, e, en, el, ew, er⟩ := r.again { s2 with log := [], wlog := [] } hn (fun q hq hl => hs q ((mem_below _ _ _).2 ⟨hq, hl⟩) hl)
      refine ⟨{ t with log := below s2.next t.log ++ s2.log, wlog := below s2.next t.wlog ++ s2.wlog }, ?_, en, ?_, ?_, fun q => ?_⟩
      · rw [M.within_eq]; rw [e]
      · show below s2.next t.log ++ s2.log = _
        rw [el, hn]; simp
      · show below s2.next t.wlog ++ s2.wlog = _
        rw [ew, hn]; simp
      · show t.rows.get q = _
        rw [er]
        show (if (q ∈ W ∨ s.next ≤ q) ∧ q < s1.next then s1.rows.get q else s2.rows.get q) = if (q ∈ below s.next W ∨ s.next ≤ q) ∧ q < s1.next then s1.rows.get q else s2.rows.get q
        by_cases c : (q ∈ W ∨ s.next ≤ q) ∧ q < s1.next
        · rw [if_pos c, if_pos]
          refine ⟨?_, c.2⟩
          rcases Nat.lt_or_ge q s.next with h | h
          · rcases c.1 with hw | hw
            · exact Or.inl ((mem_below _ _ _).2 ⟨hw, h⟩)
            · exact Or.inr hw
          · exact Or.inr h
        · rw [if_neg c, if_neg]
          rintro ⟨h, h'⟩
          refine c ⟨?_, h'⟩
          rcases h with h | h
          · exact Or.inl ((mem_below _ _ _).1 h).1
          · exact Or.inr h

theorem Loc.watch {α : Type} {m : M α} (hm : Loc m) : Loc (M.watch m) := by
  intro s a s' h
  rw [M.watch_eq] at h
  cases h1 : m { s with log := [], wlog := [] } with
  | none => rw [h1] at h; cases h
  | some p =>
    obtain ⟨a1, s1⟩ := p
    rw [h1] at h
    injection h with h; injection h with e1 e2; subst e1; subst e2
    obtain ⟨L, W, r⟩ := hm { s with log := [], wlog := [] } a1 s1 h1
    have hlog : s1.log = L := by have := r.log; simpa using this
    have hwlog : s1.wlog = W := by have := r.wlog; simpa using this
    refine ⟨below s.next L, below s.next W, r.next, by rw [← hlog], by rw [← hwlog], ?_, ?_, ?_, ?_⟩
    · intro q hq; rw [mem_below] at hq ⊢; exact ⟨r.sub q hq.1, hq.2⟩
    · intro q hq; rw [mem_below] at hq; exact r.lt q hq.1
    · intro q hq hl
      refine r.same q (fun h => hq ((mem_below _ _ _).2 ⟨h, ?_⟩)) hl
      rcases hl with hl | hl
      · exact hl
      · have h1 := r.lt q (r.sub q h)
        have h2 : s1.next ≤ q := hl
        omega
    · intro s2 hn hs
      obtain ⟨t, e, en, el, ew, er⟩ := r.again { s2 with log := [], wlog := [] } hn (fun q hq hl => hs q ((mem_below _ _ _).2 ⟨hq, hl⟩) hl)
      have el' : t.log = L := by rw [el]; simp
      have ew' : t.wlog = W := by rw [ew]; simp
      refine ⟨{ t with log := below s2.next t.log ++ s2.log, wlog := below s2.next t.wlog ++ s2.wlog }, ?_, en, ?_, ?_, fun q => ?_⟩
      · rw [M.watch_eq]; rw [e]; simp only [hn, en, el', ew', hlog, hwlog]
      · show below s2.next t.log ++ s2.log = _
        rw [el', hn]
      · show below s2.next t.wlog ++ s2.wlog = _
        rw [ew', hn]
      · show t.rows.get q = _
        rw [er]
        show (if (q ∈ W ∨ s.next ≤ q) ∧ q < s1.next then s1.rows.get q else s2.rows.get q) = if (q ∈ below s.next W ∨ s.next ≤ q) ∧ q < s1.next then s1.rows.get q else s2.rows.get q
        by_cases c : (q ∈ W ∨ s.next ≤ q) ∧ q < s1.next
        · rw [if_pos c, if_pos]
          refine ⟨?_, c.2⟩
          rcases Nat.lt_or_ge q s.next with h | h
          · rcases c.1 with hw | hw
            · exact Or.inl ((mem_below _ _ _).2 ⟨hw, h⟩)
            · exact Or.inr hw
          · exact Or.inr h
        · rw [if_neg c, if_neg]
          rintro ⟨h, h'⟩
          refine c ⟨?_, h'⟩
          rcases h with h | h
          · exact Or.inl ((mem_below _ _ _).1 h).1
          · exact Or.inr h

theorem Loc.cond {α : Type} {b : Bool} {m m' : M α} (h : Loc m) (h' : Loc m') : Loc (bif b then m else m') := by cases b; exact h'; exact h


section
variable (E : Env)

theorem Loc.guard (b : Bool) : Loc (M.guard b) := by
  unfold M.guard
  intro s a s' h
  cases b with
  | false => cases h
  | true => injection h with h; injection h with h1 h2; subst h2; exact ⟨[], [], Ran.still (fun _ => rfl)⟩

theorem Loc.loadA (t : TypeId) (a : Value) : Loc (loadA E t a) := by
  unfold Cm.loadA
  split
  · exact Loc.bind (Loc.guard _) fun _ => Loc.lift _
  · exact Loc.bind (Loc.lift _) fun _ => Loc.bind (Loc.row _) fun _ => Loc.bind (Loc.lift _) fun _ => Loc.lift _
theorem Loc.readF (size : Nat) (x : Value) (n : Nat → Nat) : Loc (readF size x n) :=
  Loc.bind (Loc.lift _) fun _ => Loc.bind (Loc.guard _) fun _ => Loc.bind (Loc.guard _) fun _ => Loc.bind (Loc.lift _) fun _ => Loc.pure _
theorem Loc.writeA (r off : Nat) (l : List Value) : Loc (writeA r off l) :=
  Loc.bind (Loc.row _) fun _ => Loc.bind (Loc.lift _) fun _ => Loc.bind (Loc.guard _) fun _ => Loc.bind (Loc.lift _) fun _ => Loc.turn _ _
theorem Loc.storeA (t : TypeId) (a v : Value) : Loc (storeA E t a v) :=
  Loc.bind (Loc.lift _) fun _ => Loc.bind (Loc.lift _) fun _ => Loc.bind (Loc.guard _) fun _ => Loc.writeA _ _ _
theorem Loc.newA (es : Nat) (cs : List Value) : Loc (newA es cs) := Loc.bind (Loc.fresh _) fun _ => Loc.pure _
theorem Loc.readA (size : Nat) (a : Option Addr) (n : Nat) : Loc (readA size a n) := by
  cases n with
  | zero => exact Loc.pure _
  | succ n => unfold Cm.readA; exact Loc.bind (Loc.lift _) fun _ => Loc.bind (Loc.row _) fun _ => Loc.bind (Loc.lift _) fun _ => Loc.lift _
theorem Loc.buildSliceA (t : TypeId) (len : Nat) (ps : List (Nat × Value)) : Loc (buildSliceA E t len ps) :=
  Loc.bind (Loc.lift _) fun _ => Loc.bind (Loc.lift _) fun _ => Loc.bind (Loc.guard _) fun _ => Loc.bind (Loc.lift _) fun _ => Loc.bind (Loc.fresh _) fun _ => Loc.pure _
theorem Loc.makeSliceA (t : TypeId) (l c : Value) : Loc (makeSliceA E t l c) :=
  Loc.bind (Loc.lift _) fun _ => Loc.bind (Loc.lift _) fun _ => Loc.bind (Loc.lift _) fun _ => Loc.bind (Loc.lift _) fun _ => Loc.bind (Loc.guard _) fun _ => Loc.bind (Loc.fresh _) fun _ => Loc.pure _
theorem Loc.newCells (i : Elem) (z : Bool) (x : Value) : Loc (newCells E i z x) := by
  unfold Cm.newCells
  cases z with
  | true => simp only [cond_true]; exact Loc.bind (Loc.lift _) fun _ => Loc.bind (Loc.guard _) fun _ => Loc.pure _
  | false =>
    simp only [cond_false]
    split
    · exact Loc.bind (Loc.readA _ _ _) fun _ => Loc.pure _
    · exact Loc.bind (Loc.guard _) fun _ => Loc.pure _
    · exact Loc.bind (Loc.guard _) fun _ => Loc.bind (Loc.lift _) fun _ => Loc.pure _
    · exact Loc.readF _ _ _
theorem Loc.leaveA (i : Elem) (b : Option Addr) : Loc (leaveA i b) := by
  unfold Cm.leaveA
  split
  · exact Loc.bind (Loc.row _) fun _ => Loc.bind (Loc.lift _) fun _ => Loc.bind (Loc.guard _) fun _ => Loc.bind (Loc.turn _ _) fun _ => Loc.pure _
  · exact Loc.pure _
theorem Loc.appendA (sT xT : TypeId) (v x : Value) : Loc (appendA E sT xT v x) := by
  refine Loc.bind (Loc.lift _) fun _ => Loc.bind (Loc.lift _) fun _ => Loc.bind (Loc.lift _) fun _ => Loc.bind (Loc.lift _) fun _ => Loc.bind (Loc.newCells _ _ _ _) fun nl => Loc.bind (Loc.guard _) fun _ => Loc.cond ?_ ?_
  · unfold Cm.appendIn
    cases nl.2 with
    | nil => exact Loc.pure _
    | cons => exact Loc.bind (Loc.lift _) fun _ => Loc.bind (Loc.writeA _ _ _) fun _ => Loc.pure _
  · exact Loc.bind (Loc.guard _) fun _ => Loc.bind (Loc.readA _ _ _) fun _ => Loc.bind (Loc.leaveA _ _) fun _ => Loc.bind (Loc.fresh _) fun _ => Loc.pure _
theorem Loc.copied (i : Elem) (n : Nat) (x : Value) : Loc (copied i n x) := by
  unfold Cm.copied
  split
  · exact Loc.bind (Loc.readA _ _ _) fun _ => Loc.pure _
  · exact Loc.bind (Loc.guard _) fun _ => Loc.pure _
  · exact Loc.readF _ _ _
theorem Loc.copyA (dT : TypeId) (d x : Value) : Loc (copyA E dT d x) := by
  refine Loc.bind (Loc.lift _) fun _ => Loc.bind (Loc.lift _) fun _ => Loc.bind (Loc.lift _) fun _ => Loc.bind (Loc.copied _ _ _) fun kl => ?_
  split
  · exact Loc.pure _
  · exact Loc.bind (Loc.lift _) fun _ => Loc.bind (Loc.writeA _ _ _) fun _ => Loc.pure _
theorem Loc.convertA (s d : TypeId) (x : Value) : Loc (convertA E s d x) := by
  unfold Cm.convertA
  refine Loc.cond (Loc.lift _) ?_
  refine Loc.bind (Loc.lift _) fun _ => Loc.bind (Loc.lift _) fun _ => ?_
  split
  · exact Loc.bind (Loc.lift _) fun _ => Loc.bind (Loc.row _) fun _ => Loc.bind (Loc.lift _) fun _ => Loc.bind (Loc.guard _) fun _ => Loc.bind (Loc.lift _) fun _ => Loc.pure _
  · exact Loc.cond (Loc.pure _) (Loc.bind (Loc.lift _) fun _ => Loc.bind (Loc.lift _) fun _ => Loc.bind (Loc.fresh _) fun _ => Loc.pure _)
  · exact Loc.cond (Loc.bind (Loc.lift _) fun _ => Loc.bind (Loc.lift _) fun _ => Loc.bind (Loc.readA _ _ _) fun _ => Loc.bind (Loc.lift _) fun _ => Loc.pure _)
      (Loc.bind (Loc.guard _) fun _ => Loc.bind (Loc.lift _) fun _ => Loc.bind (Loc.lift _) fun _ => Loc.bind (Loc.lift _) fun _ => Loc.bind (Loc.row _) fun _ => Loc.bind (Loc.lift _) fun _ => Loc.bind (Loc.turn _ _) fun _ => Loc.pure _)
  · exact Loc.cond (Loc.lift _) (Loc.bind (Loc.guard _) fun _ => Loc.bind (Loc.lift _) fun _ => Loc.bind (Loc.lift _) fun _ => Loc.bind (Loc.readF _ _ _) fun _ => Loc.bind (Loc.lift _) fun _ => Loc.pure _)
theorem Loc.lenA (t : TypeId) (x : Value) : Loc (lenA E t x) := by
  unfold Cm.lenA
  refine Loc.cond (Loc.lift _) ?_
  refine Loc.bind (Loc.lift _) fun d => ?_
  split
  · exact Loc.bind (Loc.lift _) fun _ => Loc.pure _
  · split
    · exact Loc.bind (Loc.guard _) fun _ => Loc.pure _
    · exact Loc.bind (Loc.lift _) fun _ => Loc.pure _
  · exact Loc.pure _
  · split
    · exact Loc.pure _
    · refine Loc.bind (Loc.row _) fun x => ?_
      split
      · exact Loc.pure _
      · exact Loc.fail
    · exact Loc.fail
  · exact Loc.fail
theorem Loc.clearA (t : TypeId) (x : Value) : Loc (clearA E t x) := by
  refine Loc.bind (Loc.lift _) fun _ => Loc.bind (Loc.lift _) fun _ => Loc.bind (Loc.lift _) fun b => ?_
  split
  · exact Loc.pure _
  · exact Loc.bind (Loc.lift _) fun _ => Loc.bind (Loc.writeA _ _ _) fun _ => Loc.pure _
theorem Loc.asV {m : M Value} (h : Loc m) : Loc (asV m) := Loc.bind h fun _ => Loc.pure _
theorem Loc.asU {m : M Unit} (h : Loc m) : Loc (asU m) := Loc.bind h fun _ => Loc.pure _
theorem Loc.one {f : TypeId → Value → M Value} (h : ∀ t x, Loc (f t x)) (ts : List TypeId) (args : List Value) : Loc (one f ts args) := by
  unfold Cm.one
  repeat' split
  all_goals first | exact h _ _ | exact Loc.fail
theorem Loc.two {f : TypeId → TypeId → Value → Value → M Value} (h : ∀ t u x y, Loc (f t u x y)) (ts : List TypeId) (args : List Value) : Loc (two f ts args) := by
  unfold Cm.two
  repeat' split
  all_goals first | exact h _ _ _ _ | exact Loc.fail
theorem Loc.deleteA (t : TypeId) (m k : Value) : Loc (deleteA E t m k) := by
  unfold Cm.deleteA
  split
  · refine Loc.bind (Loc.lift _) fun _ => Loc.bind (Loc.row _) fun _ => Loc.bind (Loc.lift _) fun _ => Loc.bind (Loc.lift _) fun _ => ?_
    split
    · exact Loc.bind (Loc.turn _ _) fun _ => Loc.pure _
    · exact Loc.bind (Loc.turn _ _) fun _ => Loc.pure _
  · exact Loc.fail
theorem Loc.stringAt (t : TypeId) (a : Addr) (n : Nat) : Loc (stringAt E t a n) :=
  Loc.bind (Loc.lift _) fun _ => Loc.bind (Loc.lift _) fun _ => Loc.bind (Loc.lift _) fun _ => Loc.bind (Loc.row _) fun _ => Loc.bind (Loc.lift _) fun _ => Loc.bind (Loc.guard _) fun _ => Loc.bind (Loc.lift _) fun _ => Loc.bind (Loc.lift _) fun _ => Loc.bind (Loc.turn _ _) fun _ => Loc.pure _
theorem Loc.unsafeStringA (ts : List TypeId) (args : List Value) : Loc (unsafeStringA E ts args) := by
  unfold Cm.unsafeStringA
  split
  · split
    · exact Loc.stringAt _ _ _ _
    · exact Loc.fail
  · split
    · exact Loc.pure _
    · exact Loc.fail
  · exact Loc.fail
theorem Loc.builtinA (b : Builtin) (ts : Array TypeId) (type : TypeId) (args : List Value) : Loc (builtinA E b ts type args) := by
  unfold Cm.builtinA
  split
  · exact Loc.two (fun _ _ _ _ => Loc.appendA _ _ _ _ _) _ _
  · exact Loc.two (fun _ _ _ _ => Loc.copyA _ _ _ _) _ _
  · exact Loc.one (fun _ _ => Loc.lenA _ _ _) _ _
  · exact Loc.one (fun _ _ => Loc.lift _) _ _
  · exact Loc.one (fun _ _ => Loc.clearA _ _ _) _ _
  · exact Loc.two (fun _ _ _ _ => Loc.deleteA _ _ _ _) _ _
  · exact Loc.bind (Loc.guard _) fun _ => Loc.lift _
  · exact Loc.bind (Loc.guard _) fun _ => Loc.lift _
  · exact Loc.lift _
  · exact Loc.unsafeStringA _ _ _
  · exact Loc.fail
theorem Loc.callA (f : FuncId) (args : List Value) : Loc (callA E f args) := by
  unfold Cm.callA
  split
  · exact Loc.bind (Loc.guard _) fun _ => Loc.bind (Loc.lift _) fun _ => Loc.pure _
  · split
    · exact Loc.pure _
    · exact Loc.bind (Loc.lift _) fun _ => Loc.pure _
theorem Loc.nextA (it : Value) (b : Bool) : Loc (nextA it b) :=
  Loc.bind (Loc.guard _) fun _ => Loc.bind (Loc.lift _) fun _ => Loc.bind (Loc.guard _) fun _ => Loc.bind (Loc.row _) fun _ => Loc.bind (Loc.lift _) fun _ =>
    Loc.cond (Loc.bind (Loc.turn _ _) fun _ => Loc.pure _) (Loc.pure _)
theorem Loc.entriesA (x : Value) : Loc (entriesA x) := by
  unfold Cm.entriesA
  split
  · exact Loc.pure _
  · exact Loc.bind (Loc.row _) fun _ => Loc.bind (Loc.lift _) fun _ => Loc.pure _
  · exact Loc.fail
theorem Loc.lookupA (t : TypeId) (x i : Value) (c : Bool) : Loc (lookupA E t x i c) := by
  refine Loc.bind (Loc.lift _) fun _ => Loc.bind (Loc.entriesA _) fun _ => Loc.bind (Loc.lift _) fun _ => ?_
  split
  · exact Loc.bind (Loc.lift _) fun _ => Loc.pure _
  · exact Loc.bind (Loc.lift _) fun _ => Loc.pure _
theorem Loc.updateA (t : TypeId) (m k v : Value) : Loc (updateA E t m k v) := by
  unfold Cm.updateA
  split
  · refine Loc.bind (Loc.lift _) fun _ => Loc.bind (Loc.row _) fun _ => Loc.bind (Loc.lift _) fun _ => Loc.bind (Loc.lift _) fun _ => ?_
    split
    · exact Loc.bind (Loc.lift _) fun _ => Loc.bind (Loc.guard _) fun _ => Loc.turn _ _
    · exact Loc.turn _ _
  · exact Loc.fail
theorem Loc.execA (ρ : Operand → Value) (o : Oper) : Loc (execA E ρ o) := by
  unfold Cm.execA
  split
  · exact Loc.asV (Loc.bind (Loc.lift _) fun _ => Loc.newA _ _)
  · exact Loc.cond Loc.fail (Loc.asV (Loc.newA _ _))
  · exact Loc.asV (Loc.buildSliceA _ _ _ _)
  · exact Loc.asV (Loc.loadA _ _ _)
  · exact Loc.asU (Loc.storeA _ _ _ _)
  · exact Loc.asV (Loc.convertA _ _ _ _)
  · exact Loc.asV (Loc.makeSliceA _ _ _ _)
  · exact Loc.asV (Loc.bind (Loc.lift _) fun _ => Loc.bind (Loc.guard _) fun _ => Loc.bind (Loc.lift _) fun _ => Loc.bind (Loc.fresh _) fun _ => Loc.pure _)
  · exact Loc.asV (Loc.nextA _ _)
  · exact Loc.asV (Loc.bind (Loc.fresh _) fun _ => Loc.pure _)
  · exact Loc.asV (Loc.lookupA _ _ _ _ _)
  · exact Loc.asU (Loc.updateA _ _ _ _ _)
  · unfold opCallA
    split
    · exact Loc.asV (Loc.builtinA _ _ _ _ _)
    · exact Loc.bind (Loc.lift _) fun _ => Loc.callA _ _ _
    · exact Loc.fail
  · exact Loc.asV (Loc.lift _)

theorem Loc.dst (fr : Fr) (d : Option Tmp) (v : Value) : Loc (fr.dst d v) := by
  unfold Fr.dst
  split
  · exact Loc.pure _
  · exact Loc.cond (Loc.pure _) Loc.fail

variable {call : FuncId → List Value → M Value} (hc : ∀ f args, Loc (call f args))
include hc
theorem Loc.evOp (ops : Array Oper) (o : Oper) (fr : Fr) : Loc (evOp E call ops o fr) := by
  unfold Cm.evOp
  refine Loc.cond Loc.fail (Loc.cond (Loc.bind (Loc.execA _ _ _) fun nx => ?_) (Loc.dst _ _ _))
  split
  · exact Loc.dst _ _ _
  · exact Loc.dst _ _ _
  · exact Loc.dst _ _ _
  · exact Loc.bind (hc _ _) fun _ => Loc.dst _ _ _
theorem Loc.evOps (ops : Array Oper) : ∀ (l : List Oper) (fr : Fr), Loc (evOps E call ops l fr)
  | [], _ => Loc.pure _
  | o :: l, fr => Loc.bind (Loc.evOp E hc ops o fr) fun fr => Loc.evOps ops l fr
theorem Loc.evDraw (ops : Array Oper) (before : Array Nat) : ∀ (l : List Oper) (i : Nat) (ds : List (Nat × Did)) (fr : Fr), Loc (evDraw E call ops before l i ds fr)
  | [], _, _, _ => Loc.pure _
  | o :: l, _, _, fr => Loc.bind (Loc.watch (Loc.evOp E hc ops o fr)) fun _ => Loc.cond (Loc.evDraw ops before l _ _ _) Loc.fail
end

theorem Loc.resA (E : Env) (fr : Fr) (r : ResultVar) : Loc (resA E fr r) := by
  cases r
  · exact Loc.pure _
  · exact Loc.loadA _ _ _
theorem Loc.resultsA (E : Env) (fr : Fr) : ∀ l : List ResultVar, Loc (resultsA E fr l)
  | [] => Loc.pure _
  | r :: l => Loc.bind (Loc.resA E fr r) fun _ => Loc.bind (Loc.resultsA E fr l) fun _ => Loc.pure _
theorem Loc.mapL {α β : Type} {f : α → M β} (h : ∀ a, Loc (f a)) : ∀ l : List α, Loc (M.mapL f l)
  | [] => Loc.pure _
  | a :: l => Loc.bind (h a) fun _ => Loc.bind (Loc.mapL h l) fun _ => Loc.pure _
theorem Loc.coolRow (r : Nat) (x : Row) : Loc (coolRow r x) := by
  unfold Cm.coolRow
  split
  · exact Loc.turn _ _
  · exact Loc.pure _
theorem Loc.coolN : ∀ (k : Nat) (v : Value), Loc (coolN k v)
  | 0, _ => Loc.fail
  | k + 1, v => by
    have ih := Loc.coolN k
    unfold Cm.coolN
    split
    · exact Loc.bind (Loc.guard _) fun _ => Loc.bind (Loc.row _) fun _ => Loc.bind (Loc.lift _) fun _ => Loc.bind (Loc.guard _) fun _ => Loc.bind (Loc.lift _) fun _ => Loc.bind (Loc.coolRow _ _) fun _ => Loc.bind (Loc.mapL ih _) fun _ => Loc.pure _
    · exact Loc.pure _
    · exact Loc.bind (Loc.mapL ih _) fun _ => Loc.pure _
    · refine Loc.cond (Loc.pure _) ?_
      split
      · exact Loc.pure _
      · exact Loc.fail
theorem Loc.freshes : ∀ l : List (Nat × List Value), Loc (freshes l)
  | [] => Loc.pure _
  | _ :: l => Loc.bind (Loc.fresh _) fun _ => Loc.freshes l
theorem Loc.nextId : Loc M.nextId := by
  intro s a s' h
  injection h with h; injection h with h1 h2; subst h1; subst h2
  refine ⟨[], [], Nat.le_refl _, rfl, rfl, fun _ h => h, fun q h => by simp at h, fun _ _ _ => rfl, fun s2 hn _ => ⟨s2, ?_, hn, rfl, rfl, fun q => ?_⟩⟩
  · unfold M.nextId; rw [hn]
  · rw [if_neg]; rintro ⟨h | h, h'⟩
    · simp at h
    · omega
theorem Loc.knownF (F : List Value → Option (Value × List (Nat × List Value))) (args : List Value) : Loc (knownF F args) :=
  Loc.within (Loc.bind (Loc.mapL (Loc.coolN 8) _) fun _ => Loc.bind (Loc.lift _) fun _ => Loc.bind (Loc.guard _) fun _ => Loc.bind Loc.nextId fun _ => Loc.bind (Loc.freshes _) fun _ => Loc.lift _)
theorem Loc.sortedA (g : FuncId) (args : List Value) : Loc (sortedA g args) := by
  unfold Cm.sortedA
  refine Loc.bind (Loc.lift _) fun _ => Loc.bind (Loc.lift _) fun _ => Loc.bind (Loc.guard _) fun _ => Loc.bind (Loc.lift _) fun _ => Loc.bind (Loc.lift _) fun _ => Loc.bind (Loc.guard _) fun _ => Loc.bind (Loc.row _) fun _ => Loc.bind (Loc.lift _) fun _ => Loc.bind (Loc.guard _) fun _ =>
    Loc.bind (Loc.lift _) fun _ => Loc.bind (Loc.lift _) fun _ => Loc.bind (Loc.row _) fun _ => Loc.bind (Loc.lift _) fun _ => Loc.bind (Loc.lift _) fun _ => Loc.bind (Loc.guard _) fun _ => ?_
  split
  · exact Loc.pure _
  · exact Loc.bind (Loc.fresh _) fun _ => Loc.pure _
theorem Loc.peeksA (size : Nat) (F : List (List Value) → Option Value) (args : List Value) : Loc (peeksA size F args) :=
  Loc.bind (Loc.mapL (fun _ => Loc.bind (Loc.lift _) fun _ => Loc.readA _ _ _) _) fun _ => Loc.bind (Loc.lift _) fun _ => Loc.bind (Loc.guard _) fun _ => Loc.pure _
theorem Loc.callF (E : Env) {ev : Code → Fr → M (X × Fr)} (h : ∀ c fr, Loc (ev c fr)) (f : FuncId) (args : List Value) : Loc (callF E ev f args) := by
  unfold Cm.callF
  split
  · exact Loc.knownF _ _
  split
  · exact Loc.within (Loc.sortedA _ _)
  split
  · exact Loc.within (Loc.peeksA _ _ _)
  refine Loc.within ?_
  split
  · split
    · refine Loc.cond (Loc.bind (h _ _) fun r => ?_) Loc.fail
      split
      · exact Loc.fail
      · exact Loc.bind (Loc.resultsA _ _ _) fun _ => Loc.pure _
    · exact Loc.fail
  · exact Loc.fail
theorem Loc.ev (E : Env) : ∀ (n : Nat) (c : Code) (fr : Fr), Loc (ev E n c fr)
  | 0, _, _ => Loc.fail
  | n + 1, c, fr => by
    have ih := Loc.ev E n
    have hcall := Loc.callF E ih
    unfold Cm.ev
    split
    · exact Loc.pure _
    · exact Loc.cond (Loc.bind (Loc.evDraw E hcall _ _ _ _ _ _) fun _ => Loc.pure _) (Loc.bind (Loc.evOps E hcall _ _ _) fun _ => Loc.pure _)
    · refine Loc.bind (ih _ _) fun r => ?_
      split
      · exact ih _ _
      · exact Loc.pure _
    · split
      · exact Loc.cond (ih _ _) (ih _ _)
      · exact Loc.fail
    · refine Loc.bind (ih _ _) fun r => ?_
      split
      · exact Loc.cond (Loc.pure _) (Loc.pure _)
      · exact Loc.pure _
    · refine Loc.bind (ih _ _) fun r => ?_
      split
      · exact ih _ _
      · exact Loc.pure _
    · exact Loc.pure _
    · exact ih _ _
    · exact Loc.pure _
    · exact Loc.pure _
    · exact Loc.fail

end Go.Cm
