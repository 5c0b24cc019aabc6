/-
  Regions whose order is plain from their text need not be watched.
-/
import Derived.Test.YtfofdglgacfklaaGreatDoorFmB
namespace Go.Cm
open Go
set_option linter.unusedSimpArgs false

theorem noMem {P : Nat → Prop} : ∀ r, r ∈ ([] : List Nat) → P r := fun _ h => by cases h
theorem ffT {P : Prop} : false = true → P := fun h => by cases h

/-- What a piece does hangs on no log; what it logs was there before (nn: it makes nothing; ro: it writes nothing). -/
def Tr {α : Type} (m : M α) (nn ro : Bool) : Prop := ∀ rows next log wlog, (m ⟨rows, next, [], []⟩ = none ∧ m ⟨rows, next, log, wlog⟩ = none) ∨
  ∃ a rows' next' L W, m ⟨rows, next, [], []⟩ = some (a, ⟨rows', next', L, W⟩) ∧ m ⟨rows, next, log, wlog⟩ = some (a, ⟨rows', next', L ++ log, W ++ wlog⟩) ∧
    (∀ r, r ∈ L → r < next) ∧ (∀ r, r ∈ W → r < next) ∧ True ∧ (nn = true → next' = next) ∧ (ro = true → W = [])

theorem Tr.weak {α : Type} {m : M α} {nn ro : Bool} (h : Tr m true true) : Tr m nn ro := fun rows next log wlog => by
  rcases h rows next log wlog with h | ⟨a, r', n', L, W, h1, h2, h3, h4, h5, h6, h7⟩
  · exact .inl h
  · exact .inr ⟨a, r', n', L, W, h1, h2, h3, h4, h5, fun _ => h6 rfl, fun _ => h7 rfl⟩
theorem Tr.noRo {α : Type} {m : M α} {nn ro : Bool} (h : Tr m nn ro) : Tr m nn false := fun rows next log wlog => by
  rcases h rows next log wlog with h | ⟨a, r', n', L, W, h1, h2, h3, h4, h5, h6, h7⟩
  · exact .inl h
  · exact .inr ⟨a, r', n', L, W, h1, h2, h3, h4, h5, h6, ffT⟩
theorem Tr.noNn {α : Type} {m : M α} {nn ro : Bool} (h : Tr m nn ro) : Tr m false ro := fun rows next log wlog => by
  rcases h rows next log wlog with h | ⟨a, r', n', L, W, h1, h2, h3, h4, h5, h6, h7⟩
  · exact .inl h
  · exact .inr ⟨a, r', n', L, W, h1, h2, h3, h4, h5, ffT, h7⟩
theorem Tr.pure {α : Type} (a : α) {nn ro : Bool} : Tr (M.pure a) nn ro := fun rows next _ _ => .inr ⟨a, rows, next, [], [], rfl, rfl, noMem, noMem, trivial, fun _ => rfl, fun _ => rfl⟩
theorem Tr.fail {α : Type} {nn ro : Bool} : Tr (M.fail : M α) nn ro := fun _ _ _ _ => .inl ⟨rfl, rfl⟩
theorem Tr.lift {α : Type} (o : Option α) {nn ro : Bool} : Tr (M.lift o) nn ro := by
  cases o with
  | none => exact Tr.fail
  | some a => exact Tr.pure a
theorem Tr.guard (b : Bool) {nn ro : Bool} : Tr (M.guard b) nn ro := by
  cases b with
  | false => exact Tr.fail
  | true => exact Tr.pure ()
theorem Tr.bind {α β : Type} {m : M α} {f : α → M β} {nn ro : Bool} (hm : Tr m true ro) (hf : ∀ a, Tr (f a) nn ro) : Tr (M.bind m f) nn ro := fun rows next log wlog => by
  rw [M.bind_eq, M.bind_eq]
  rcases hm rows next log wlog with ⟨h1, h2⟩ | ⟨a, r', n', L, W, h1, h2, h3, h4, h5, h6, h7⟩
  · rw [h1, h2]; exact .inl ⟨rfl, rfl⟩
  · rw [h1, h2]
    have e := h6 rfl
    subst e
    simp only
    rcases hf a r' n' L W with ⟨g1, g2⟩ | ⟨b, r2, n2, L2, W2, g1, g2, g3, g4, g5, g6, g7⟩
    · refine .inl ⟨g2, ?_⟩
      rcases hf a r' n' (L ++ log) (W ++ wlog) with ⟨k1, k2⟩ | ⟨b', r3, n3, L3, W3, k1, k2, _⟩
      · exact k2
      · rw [g1] at k1; cases k1
    · refine .inr ⟨b, r2, n2, L2 ++ L, W2 ++ W, g2, ?_, ?_, ?_, g5, g6, ?_⟩
      · rcases hf a r' n' (L ++ log) (W ++ wlog) with ⟨k1, k2⟩ | ⟨b', r3, n3, L3, W3, k1, k2, _⟩
        · rw [g1] at k1; cases k1
        · rw [g1] at k1
          injection k1 with k1; injection k1 with e1 e2; injection e2 with e2 e3 e4 e5
          subst e1 e2 e3 e4 e5
          rw [k2, List.append_assoc, List.append_assoc]
      · intro r hr; rw [List.mem_append] at hr; rcases hr with hr | hr
        · exact g3 r hr
        · exact h3 r hr
      · intro r hr; rw [List.mem_append] at hr; rcases hr with hr | hr
        · exact g4 r hr
        · exact h4 r hr
      · intro hr; rw [g7 hr, h7 hr]; rfl
theorem Tr.row (r : Nat) {nn ro : Bool} : Tr (M.row r) nn ro := fun rows next log wlog => by
  rw [M.row_eq, M.row_eq]
  cases hb : Nat.blt r next with
  | false => exact .inl ⟨by simp only [hb, cond_false], by simp only [hb, cond_false]⟩
  | true =>
    cases hr : rows.get r with
    | none => simp only [hb, cond_true, hr]; exact .inl ⟨trivial, trivial⟩
    | some x =>
      simp only [hb, cond_true, hr]
      exact .inr ⟨x, rows, next, [r], [], rfl, rfl, fun q hq => by simp at hq; subst hq; exact blt_lt0 hb, noMem, trivial, fun _ => rfl, fun _ => rfl⟩
theorem Tr.turn (r : Nat) (x : Option Row) {nn : Bool} : Tr (M.turn r x) nn false := fun rows next log wlog => by
  rw [M.turn_eq, M.turn_eq]
  cases hb : Nat.blt r next with
  | false => exact .inl ⟨by simp only [hb, cond_false], by simp only [hb, cond_false]⟩
  | true =>
    cases hr : rows.get r with
    | none => simp only [hb, cond_true, hr]; exact .inl ⟨trivial, trivial⟩
    | some y =>
      simp only [hb, cond_true, hr]
      cases hl : Nat.ble r 1000000000 with
      | false => exact .inl ⟨rfl, rfl⟩
      | true => exact .inr ⟨(), D.put x deep rows r, next, [r], [r], rfl, rfl, fun q hq => by simp at hq; subst hq; exact blt_lt0 hb, fun q hq => by simp at hq; subst hq; exact blt_lt0 hb, trivial, fun _ => rfl, ffT⟩
theorem Tr.fresh (x : Row) {ro : Bool} : Tr (M.fresh x) false ro := fun rows next log wlog => by
  rw [M.fresh_eq, M.fresh_eq]
  simp only
  cases Nat.ble next 1000000000 with
  | false => exact .inl ⟨rfl, rfl⟩
  | true => exact .inr ⟨next, D.put (some x) deep rows next, next + 1, [], [], rfl, rfl, noMem, noMem, trivial, ffT, fun _ => rfl⟩
/-- Nothing is looked at. -/
def Silent {α : Type} (m : M α) : Prop := (∀ s, m s = none) ∨ ∃ b, ∀ s, m s = some (b, s)
theorem Silent.pure {α : Type} (a : α) : Silent (M.pure a) := .inr ⟨a, fun _ => rfl⟩
theorem Silent.fail {α : Type} : Silent (M.fail : M α) := .inl fun _ => rfl
theorem Silent.lift {α : Type} (o : Option α) : Silent (M.lift o) := by
  cases o with
  | none => exact Silent.fail
  | some a => exact Silent.pure a
theorem Silent.guard (b : Bool) : Silent (M.guard b) := by
  cases b with
  | false => exact Silent.fail
  | true => exact Silent.pure ()
theorem Silent.bind {α β : Type} {m : M α} {f : α → M β} (hm : Silent m) (hf : ∀ a, Silent (f a)) : Silent (M.bind m f) := by
  rcases hm with h | ⟨a, h⟩
  · exact .inl fun s => by rw [M.bind_eq, h]
  · rcases hf a with g | ⟨b, g⟩
    · exact .inl fun s => by rw [M.bind_eq, h]; exact g s
    · exact .inr ⟨b, fun s => by rw [M.bind_eq, h]; exact g s⟩
theorem Silent.cond {α : Type} {b : Bool} {m m' : M α} (h : Silent m) (h' : Silent m') : Silent (bif b then m else m') := by cases b; exact h'; exact h
theorem Silent.tr {α : Type} {m : M α} {nn ro : Bool} (hm : Silent m) : Tr m nn ro := fun rows next log wlog => by
  rcases hm with h | ⟨b, h⟩
  · exact .inl ⟨h _, h _⟩
  · exact .inr ⟨b, rows, next, [], [], h _, h _, noMem, noMem, trivial, fun _ => rfl, fun _ => rfl⟩
theorem Tr.cond {α : Type} {b : Bool} {m m' : M α} {nn ro : Bool} (h : Tr m nn ro) (h' : Tr m' nn ro) : Tr (bif b then m else m') nn ro := by cases b; exact h'; exact h
theorem Tr.then_ {α β : Type} {m : M α} {nn ro : Bool} (hm : Tr m nn ro) {f : α → M β} (hf : ∀ a, Silent (f a)) : Tr (M.bind m f) nn ro := fun rows next log wlog => by
  rw [M.bind_eq, M.bind_eq]
  rcases hm rows next log wlog with ⟨h1, h2⟩ | ⟨a, r', n', L, W, h1, h2, h3, h4, h5, h6, h7⟩
  · rw [h1, h2]; exact .inl ⟨rfl, rfl⟩
  · rw [h1, h2]
    simp only
    rcases hf a with g | ⟨b, g⟩
    · exact .inl ⟨g _, g _⟩
    · exact .inr ⟨b, r', n', L, W, g _, g _, h3, h4, h5, h6, h7⟩
theorem below_all : ∀ (n : Nat) (l : List Nat), (∀ r, r ∈ l → r < n) → below n l = l
  | _, [], _ => rfl
  | n, x :: l, h => by rw [below_cons, lt_blt0 (h x (by simp)), cond_true, below_all n l fun r hr => h r (by simp [hr])]
theorem below_lt : ∀ (n : Nat) (l : List Nat) (r : Nat), r ∈ below n l → r < n
  | _, [], _, h => by cases h
  | n, x :: l, r, h => by
    rw [below_cons] at h
    cases hb : Nat.blt x n with
    | false => rw [hb, cond_false] at h; exact below_lt n l r h
    | true =>
      rw [hb, cond_true, List.mem_cons] at h
      rcases h with rfl | h
      · exact blt_lt0 hb
      · exact below_lt n l r h
theorem Tr.within {α : Type} (m : M α) : Tr (M.within m) false false := fun rows next log wlog => by
  rw [M.within_eq, M.within_eq]
  simp only
  cases h : m ⟨rows, next, [], []⟩ with
  | none => exact .inl ⟨rfl, rfl⟩
  | some p =>
    refine .inr ⟨p.1, p.2.rows, p.2.next, below next p.2.log, below next p.2.wlog, ?_, rfl, below_lt _ _, below_lt _ _, trivial, ffT, ffT⟩
    simp only [List.append_nil]

section
variable {E : Env}
theorem Tr.loadA (t : TypeId) (a : Value) {nn ro : Bool} : Tr (loadA E t a) nn ro := by
  unfold Cm.loadA; split
  · exact Tr.bind (Tr.guard _) fun _ => Tr.lift _
  · exact Tr.bind (Tr.lift _) fun _ => Tr.bind (Tr.row _) fun _ => Tr.bind (Tr.lift _) fun _ => Tr.lift _
theorem Tr.readF (size : Nat) (x : Value) (n : Nat → Nat) {nn ro : Bool} : Tr (readF size x n) nn ro :=
  Tr.bind (Tr.lift _) fun _ => Tr.bind (Tr.guard _) fun _ => Tr.bind (Tr.guard _) fun _ => Tr.bind (Tr.lift _) fun _ => Tr.pure _
theorem Tr.writeA (r off : Nat) (l : List Value) {nn : Bool} : Tr (writeA r off l) nn false :=
  Tr.bind (Tr.row _) fun _ => Tr.bind (Tr.lift _) fun _ => Tr.bind (Tr.guard _) fun _ => Tr.bind (Tr.lift _) fun _ => Tr.turn _ _
theorem Tr.storeA (t : TypeId) (a v : Value) {nn : Bool} : Tr (storeA E t a v) nn false :=
  Tr.bind (Tr.lift _) fun _ => Tr.bind (Tr.lift _) fun _ => Tr.bind (Tr.guard _) fun _ => Tr.writeA _ _ _
theorem Tr.newA (es : Nat) (cs : List Value) {ro : Bool} : Tr (newA es cs) false ro := Tr.then_ (Tr.fresh _) fun _ => Silent.pure _
theorem Tr.allocA (t : TypeId) {ro : Bool} : Tr (allocA E t) false ro := Tr.bind (Tr.lift _) fun _ => Tr.newA _ _
theorem Tr.readA (size : Nat) (a : Option Addr) (n : Nat) {nn ro : Bool} : Tr (readA size a n) nn ro := by
  cases n with
  | zero => exact Tr.pure _
  | succ n => unfold Cm.readA; exact Tr.bind (Tr.lift _) fun _ => Tr.bind (Tr.row _) fun _ => Tr.bind (Tr.lift _) fun _ => Tr.lift _
theorem Tr.buildSliceA (t : TypeId) (len : Nat) (ps : List (Nat × Value)) {ro : Bool} : Tr (buildSliceA E t len ps) false ro :=
  Tr.bind (Tr.lift _) fun _ => Tr.bind (Tr.lift _) fun _ => Tr.bind (Tr.guard _) fun _ => Tr.bind (Tr.lift _) fun _ => Tr.then_ (Tr.fresh _) fun _ => Silent.pure _
theorem Tr.makeSliceA (t : TypeId) (l c : Value) {ro : Bool} : Tr (makeSliceA E t l c) false ro :=
  Tr.bind (Tr.lift _) fun _ => Tr.bind (Tr.lift _) fun _ => Tr.bind (Tr.lift _) fun _ => Tr.bind (Tr.lift _) fun _ => Tr.bind (Tr.guard _) fun _ => Tr.then_ (Tr.fresh _) fun _ => Silent.pure _
theorem Tr.newCells (i : Elem) (z : Bool) (x : Value) {nn ro : Bool} : Tr (newCells E i z x) nn ro := by
  unfold Cm.newCells
  refine Tr.cond (Tr.bind (Tr.lift _) fun _ => Tr.bind (Tr.guard _) fun _ => Tr.pure _) ?_
  split
  · exact Tr.bind (Tr.readA _ _ _) fun _ => Tr.pure _
  · exact Tr.bind (Tr.guard _) fun _ => Tr.pure _
  · exact Tr.bind (Tr.guard _) fun _ => Tr.bind (Tr.lift _) fun _ => Tr.pure _
  · exact Tr.readF _ _ _
theorem Tr.leaveA (i : Elem) (b : Option Addr) {nn : Bool} : Tr (leaveA i b) nn false := by
  unfold Cm.leaveA
  split
  · exact Tr.bind (Tr.row _) fun _ => Tr.bind (Tr.lift _) fun _ => Tr.bind (Tr.guard _) fun _ => Tr.bind (Tr.turn _ _) fun _ => Tr.pure _
  · exact Tr.pure _
theorem Tr.appendA (sT xT : TypeId) (v x : Value) : Tr (appendA E sT xT v x) false false := by
  refine Tr.bind (Tr.lift _) fun _ => Tr.bind (Tr.lift _) fun _ => Tr.bind (Tr.lift _) fun _ => Tr.bind (Tr.lift _) fun _ => Tr.bind (Tr.newCells _ _ _) fun nl => Tr.bind (Tr.guard _) fun _ => Tr.cond ?_ ?_
  · unfold Cm.appendIn
    split
    · exact Tr.pure _
    · exact Tr.bind (Tr.lift _) fun _ => Tr.bind (Tr.writeA _ _ _) fun _ => Tr.pure _
  · exact Tr.bind (Tr.guard _) fun _ => Tr.bind (Tr.readA _ _ _) fun _ => Tr.bind (Tr.leaveA _ _) fun _ => Tr.then_ (Tr.fresh _) fun _ => Silent.pure _
theorem Tr.convertA (s d : TypeId) (x : Value) : Tr (convertA E s d x) false false := by
  unfold Cm.convertA
  refine Tr.cond (Tr.lift _) ?_
  refine Tr.bind (Tr.lift _) fun _ => Tr.bind (Tr.lift _) fun _ => ?_
  split
  · exact Tr.bind (Tr.lift _) fun _ => Tr.bind (Tr.row _) fun _ => Tr.bind (Tr.lift _) fun _ => Tr.bind (Tr.guard _) fun _ => Tr.bind (Tr.lift _) fun _ => Tr.pure _
  · exact Tr.cond (Tr.pure _) (Tr.bind (Tr.lift _) fun _ => Tr.bind (Tr.lift _) fun _ => Tr.then_ (Tr.fresh _) fun _ => Silent.pure _)
  · exact Tr.cond (Tr.bind (Tr.lift _) fun _ => Tr.bind (Tr.lift _) fun _ => Tr.bind (Tr.readA _ _ _) fun _ => Tr.bind (Tr.lift _) fun _ => Tr.pure _)
      (Tr.bind (Tr.guard _) fun _ => Tr.bind (Tr.lift _) fun _ => Tr.bind (Tr.lift _) fun _ => Tr.bind (Tr.lift _) fun _ => Tr.bind (Tr.row _) fun _ => Tr.bind (Tr.lift _) fun _ => Tr.bind (Tr.turn _ _) fun _ => Tr.pure _)
  · exact Tr.cond (Tr.lift _) (Tr.bind (Tr.guard _) fun _ => Tr.bind (Tr.lift _) fun _ => Tr.bind (Tr.lift _) fun _ => Tr.bind (Tr.readF _ _ _) fun _ => Tr.bind (Tr.lift _) fun _ => Tr.pure _)
/-- To a number. -/
theorem silent_convert {s d : TypeId} {x : Value} (h : numT E d = true) : Silent (convertA E s d x) := by
  unfold numT at h
  cases hd : E.und d with
  | none => rw [hd] at h; cases h
  | some dd =>
    rw [hd] at h
    have h : isNum dd = true := h
    have h1 : isString dd = false := by cases dd <;> first | rfl | cases h
    have h2 : sliceT dd = none := by cases dd <;> first | rfl | cases h
    unfold Cm.convertA
    rw [hd]
    refine Silent.cond (Silent.lift _) (Silent.bind (Silent.lift _) fun sd => ?_)
    rw [show M.lift (some dd) = M.pure dd from rfl, bind_pure_l]
    have h3 : ptrT sd dd = none := by cases dd <;> first | (cases h; done) | (cases sd <;> rfl)
    split
    · unfold ptrA; rw [h3]; exact .inl fun _ => rfl
    · rw [h1, cond_false]; unfold bytesNew; rw [h2]; exact .inl fun _ => rfl
    · rw [h1, cond_false]; unfold markA; rw [h2]
      refine Silent.bind (Silent.guard _) fun _ => .inl fun _ => rfl
    · exact Silent.cond (Silent.lift _) (by rw [h1]; exact .inl fun _ => rfl)
theorem Tr.lenA (t : TypeId) (x : Value) {nn ro : Bool} : Tr (lenA E t x) nn ro := by
  unfold Cm.lenA
  refine Tr.cond (Tr.lift _) (Tr.bind (Tr.lift _) fun _ => ?_)
  split
  · exact Tr.bind (Tr.lift _) fun _ => Tr.pure _
  · split
    · exact Tr.bind (Tr.guard _) fun _ => Tr.pure _
    · exact Tr.bind (Tr.lift _) fun _ => Tr.pure _
  · exact Tr.pure _
  · split
    · exact Tr.pure _
    · refine Tr.bind (Tr.row _) fun _ => ?_
      split
      · exact Tr.pure _
      · exact Tr.fail
    · exact Tr.fail
  · exact Tr.fail
theorem Tr.entriesA (x : Value) {nn ro : Bool} : Tr (entriesA x) nn ro := by
  unfold Cm.entriesA
  split
  · exact Tr.pure _
  · exact Tr.bind (Tr.row _) fun _ => Tr.bind (Tr.lift _) fun _ => Tr.pure _
  · exact Tr.fail
theorem Tr.lookupA (t : TypeId) (x i : Value) (c : Bool) {nn ro : Bool} : Tr (lookupA E t x i c) nn ro := by
  unfold Cm.lookupA
  refine Tr.bind (Tr.lift _) fun _ => Tr.bind (Tr.entriesA _) fun _ => Tr.bind (Tr.lift _) fun _ => ?_
  split
  · exact Tr.bind (Tr.lift _) fun _ => Tr.pure _
  · exact Tr.bind (Tr.lift _) fun _ => Tr.pure _
theorem Tr.updateA (t : TypeId) (m k v : Value) {nn : Bool} : Tr (updateA E t m k v) nn false := by
  unfold Cm.updateA
  split
  · refine Tr.bind (Tr.lift _) fun _ => Tr.bind (Tr.row _) fun _ => Tr.bind (Tr.lift _) fun _ => Tr.bind (Tr.lift _) fun _ => ?_
    split
    · exact Tr.bind (Tr.lift _) fun _ => Tr.bind (Tr.guard _) fun _ => Tr.turn _ _
    · exact Tr.turn _ _
  · exact Tr.fail
theorem Tr.deleteA (t : TypeId) (m k : Value) {nn : Bool} : Tr (deleteA E t m k) nn false := by
  unfold Cm.deleteA
  split
  · refine Tr.bind (Tr.lift _) fun _ => Tr.bind (Tr.row _) fun _ => Tr.bind (Tr.lift _) fun _ => Tr.bind (Tr.lift _) fun _ => ?_
    split
    · exact Tr.bind (Tr.turn _ _) fun _ => Tr.pure _
    · exact Tr.bind (Tr.turn _ _) fun _ => Tr.pure _
  · exact Tr.fail
theorem Tr.rangeA (t : TypeId) (x : Value) {ro : Bool} : Tr (rangeA E t x) false ro :=
  Tr.bind (Tr.lift _) fun _ => Tr.bind (Tr.guard _) fun _ => Tr.bind (Tr.lift _) fun _ => Tr.then_ (Tr.fresh _) fun _ => Silent.pure _
theorem Tr.nextA (it : Value) (b : Bool) {nn : Bool} : Tr (nextA it b) nn false := by
  unfold Cm.nextA
  refine Tr.bind (Tr.guard _) fun _ => Tr.bind (Tr.lift _) fun _ => Tr.bind (Tr.guard _) fun _ => Tr.bind (Tr.row _) fun _ => Tr.bind (Tr.lift _) fun _ => Tr.cond ?_ (Tr.pure _)
  exact Tr.bind (Tr.turn _ _) fun _ => Tr.pure _
theorem Tr.copied (i : Elem) (n : Nat) (x : Value) {nn ro : Bool} : Tr (copied i n x) nn ro := by
  unfold Cm.copied
  split
  · exact Tr.bind (Tr.readA _ _ _) fun _ => Tr.pure _
  · exact Tr.bind (Tr.guard _) fun _ => Tr.pure _
  · exact Tr.readF _ _ _
theorem Tr.copyA (dT : TypeId) (d x : Value) {nn : Bool} : Tr (copyA E dT d x) nn false := by
  refine Tr.bind (Tr.lift _) fun _ => Tr.bind (Tr.lift _) fun _ => Tr.bind (Tr.lift _) fun _ => Tr.bind (Tr.copied _ _ _) fun kl => ?_
  split
  · exact Tr.pure _
  · exact Tr.bind (Tr.lift _) fun _ => Tr.bind (Tr.writeA _ _ _) fun _ => Tr.pure _
end
end Go.Cm
