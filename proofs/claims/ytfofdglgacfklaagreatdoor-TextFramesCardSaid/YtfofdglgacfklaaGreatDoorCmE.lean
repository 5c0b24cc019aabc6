/-
  How the machine's state stands to the model's world, and what keeps it so.
-/
import Derived.Test.YtfofdglgacfklaaGreatDoorCmD
namespace Go.Cm
open Go Go.RowKit

/-- An entry of a map. -/
inductive ERels (μ : Mu) : List MapEntry → List MapEntry → Prop
  | nil : ERels μ [] []
  | cons (e e' : MapEntry) (l l' : List MapEntry) (hk : plain e.key = true) (hk' : e'.key = e.key) (hv : VRel μ e.val e'.val) (hb : e'.born = e.born) (hl : ERels μ l l') : ERels μ (e :: l) (e' :: l')

/-- A block of cells whose frozen part, if there is one, lies behind a place in it. -/
def Marked (w : World) (L : Place) : Prop := ((L.es = 0 → L.o = 0) ∧ L.es < tagT) ∧ ∃ (c : Array Value) (e : TypeId) (fr : Nat × Nat), w.heap[L.b]? = some (.cells c e fr) ∧ L.o + L.ext ≤ c.size ∧ (fr.1 = fr.2 ∨ (L.o + L.ext ≤ fr.1 ∧ fr.1 < fr.2)) ∧ (L.ty = 0 ∨ L.ty = e + 1)

theorem codeE_zero (es : Nat) : codeE es 0 = es := rfl
theorem sizeE_code {es : Nat} (h : es < tagT) (ty : Nat) : sizeE (codeE es ty) = es := by
  show (es + tagT * ty) % tagT = es
  rw [Nat.add_mul_mod_self_left, Nat.mod_eq_of_lt h]
theorem codeE_inj {a b t u : Nat} (ha : a < tagT) (hb : b < tagT) (h : codeE a t = codeE b u) : a = b ∧ t = u := by
  have h1 := sizeE_code ha t
  rw [h, sizeE_code hb u] at h1
  subst h1
  have h2 : b + tagT * t = b + tagT * u := h
  have h3 : tagT * t = tagT * u := by omega
  exact ⟨rfl, Nat.eq_of_mul_eq_mul_left (by unfold tagT; omega) h3⟩

theorem Marked.setCell {w : World} {L : Place} (h : Marked w L) (o : Nat) (v : Value) : Marked (w.setCell ⟨L.b, o, none⟩ v) L := by
  obtain ⟨h0, c, e, fr, h1, h2, h3⟩ := h
  refine ⟨h0, c.setIfInBounds o v, e, fr, ?_, by simpa using h2, h3⟩
  simp only [World.setCell, Array.getElem?_modify, if_true, h1, Option.map_some]
  rfl
theorem Marked.setCells {L : Place} : ∀ (vs : List Value) (o : Nat) (w : World), Marked w L → Marked (w.setCells L.b o vs) L
  | [], _, _, h => h
  | v :: vs, o, w, h => by rw [World.setCells]; exact Marked.setCells vs (o + 1) _ (h.setCell o v)
theorem Marked.alloc (w : World) (c : Array Value) (t : TypeId) (es ty n : Nat) (h : n ≤ c.size) (he : es < tagT) (ht : ty = 0 ∨ ty = t + 1) : Marked (w.alloc (.cells c t)) ⟨w.heap.size, 0, n, es, ty⟩ := by
  refine ⟨⟨fun _ => rfl, he⟩, c, t, (0, 0), ?_, by simpa using h, Or.inl rfl, ht⟩
  show (w.heap.push _)[w.heap.size]? = _
  simp

def RowOk (base : Nat) (μ : Mu) (w : World) (L : Place) : Row → Prop
  | .cells ro es cs => (∀ (i : Nat) (v : Value), cs[i]? = some v → ∃ v', w.cell? ⟨L.b, L.o + i, none⟩ = some v' ∧ VRel μ v v') ∧ cs.length ≤ L.ext ∧
      (ro = false → (base ≤ L.b ∧ Marked w L) ∧ es = codeE L.es L.ty ∧ ∀ i, i < L.ext → (w.cell? ⟨L.b, L.o + i, none⟩).isSome = true ∧ w.frozen? ⟨L.b, L.o + i, none⟩ = false)
  | .map es clock => base ≤ L.b ∧ ∃ es' : List MapEntry, w.heap[L.b]? = some (.map ⟨es'⟩ clock) ∧ ERels μ es es'
  | .iter s pos => base ≤ L.b ∧ L.o = 0 ∧ w.heap[L.b]? = some (.stringIter s pos)

def Row.free : Row → Bool
  | .cells ro _ _ => !ro
  | _ => true

structure SRel (base : Nat) (μ : Mu) (R : Nat → Option Row) (w : World) : Prop where
  ge : base ≤ w.heap.size
  dom : ∀ r x L, R r = some x → μ r = some L → L.b < w.heap.size
  row : ∀ r x, R r = some x → ∃ L, μ r = some L ∧ RowOk base μ w L x
  apart : ∀ r q x y L K, r ≠ q → R r = some x → R q = some y → μ r = some L → μ q = some K → x.free = true → L.b ≠ K.b
  cold : ∀ b o, μ.fz b = some o → w.heap[b]? = some o
  hot : ∀ r x L, R r = some x → x.free = true → μ r = some L → μ.fz L.b = none
  old : ∀ r x L, R r = some x → μ r = some L → base ≤ L.b ∨ μ.fz L.b ≠ none

theorem SRel.coldNew {base : Nat} {μ : Mu} {R : Nat → Option Row} {w : World} (h : SRel base μ R w) {b : Nat} (hb : w.heap.size ≤ b) : μ.fz b = none := by
  cases e : μ.fz b with
  | none => rfl
  | some o =>
    have := h.cold b o e
    rw [Array.getElem?_eq_none hb] at this
    cases this

structure Grew (base : Nat) (μ μ' : Mu) (n n' : Nat) (w w' : World) : Prop where
  le : μ.le μ'
  new : ∀ r, μ r = none → μ' r ≠ none → n ≤ r ∧ r < n'
  fzn : ∀ b, μ.fz b = none → μ'.fz b ≠ none → base ≤ b
  below : Below base w w'

theorem Mu.le_refl (μ : Mu) : μ.le μ := ⟨fun _ _ h => h, fun _ _ h => h, rfl⟩
theorem Mu.le_trans {a b c : Mu} (h : a.le b) (k : b.le c) : a.le c := ⟨fun r L e => k.at_ r L (h.at_ r L e), fun r L e => k.fz r L (h.fz r L e), k.sy.trans h.sy⟩

theorem Grew.refl (base : Nat) (μ : Mu) (n n' : Nat) (w : World) : Grew base μ μ n n' w w := ⟨Mu.le_refl μ, fun _ h h' => absurd h h', fun _ h h' => absurd h h', Below.refl _ _⟩
theorem Grew.trans {base : Nat} {μ1 μ2 μ3 : Mu} {n1 n2 n3 : Nat} {w1 w2 w3 : World} (h : Grew base μ1 μ2 n1 n2 w1 w2) (k : Grew base μ2 μ3 n2 n3 w2 w3)
    (h12 : n1 ≤ n2) (h23 : n2 ≤ n3) : Grew base μ1 μ3 n1 n3 w1 w3 :=
  ⟨Mu.le_trans h.le k.le, fun r a b => by
    cases e : μ2.at_ r with
    | none => have := k.new r e b; omega
    | some L => have := h.new r a (by rw [e]; simp); omega, fun r a b => by
    cases e : μ2.fz r with
    | none => exact k.fzn r e b
    | some L => exact h.fzn r a (by rw [e]; simp), h.below.trans k.below⟩

theorem ERels.mono {μ μ' : Mu} (hm : μ.le μ') : ∀ {l l' : List MapEntry}, ERels μ l l' → ERels μ' l l'
  | _, _, .nil => .nil
  | _, _, .cons e e' l l' hk hk' hv hb hl => .cons e e' l l' hk hk' (hv.mono hm) hb (ERels.mono hm hl)

theorem cell?_block {w w' : World} {b : Nat} (h : w'.heap[b]? = w.heap[b]?) (o : Nat) : w'.cell? ⟨b, o, none⟩ = w.cell? ⟨b, o, none⟩ := by
  unfold World.cell?; simp only [h]
theorem frozen?_block {w w' : World} {b : Nat} (h : w'.heap[b]? = w.heap[b]?) (o : Nat) : w'.frozen? ⟨b, o, none⟩ = w.frozen? ⟨b, o, none⟩ := by
  unfold World.frozen?; simp only [h]

theorem RowOk.move {base : Nat} {μ μ' : Mu} (hm : μ.le μ') {w w' : World} {L : Place} (h : w'.heap[L.b]? = w.heap[L.b]?) {x : Row} (hr : RowOk base μ w L x) : RowOk base μ' w' L x := by
  cases x with
  | cells ro es cs =>
    obtain ⟨h1, h2, h3⟩ := hr
    refine ⟨fun i v hv => ?_, h2, fun hro => ?_⟩
    · obtain ⟨v', hc, hv'⟩ := h1 i v hv
      exact ⟨v', by rw [cell?_block h]; exact hc, hv'.mono hm⟩
    · obtain ⟨a, b, c⟩ := h3 hro
      refine ⟨⟨a.1, ?_⟩, b, fun i hi => by rw [cell?_block h, frozen?_block h]; exact c i hi⟩
      obtain ⟨k0, c, e, fr, k1, k2⟩ := a.2
      exact ⟨k0, c, e, fr, by rw [h]; exact k1, k2⟩
  | map es clock => obtain ⟨h1, es', h2, h3⟩ := hr; exact ⟨h1, es', by rw [h]; exact h2, h3.mono hm⟩
  | iter s pos => exact ⟨hr.1, hr.2.1, by rw [h]; exact hr.2.2⟩

/-- Where the world has only grown. -/
theorem SRel.grow {base : Nat} {μ : Mu} {R : Nat → Option Row} {w w' : World} (h : SRel base μ R w) (hb : Below w.heap.size w w') : SRel base μ R w' where
  ge := Nat.le_trans h.ge hb.size
  dom := fun r x L hx e => Nat.lt_of_lt_of_le (h.dom r x L hx e) hb.size
  row := fun r x e => by
    obtain ⟨L, hL, hr⟩ := h.row r x e
    exact ⟨L, hL, hr.move (Mu.le_refl μ) (hb.block _ (h.dom r x L e hL))⟩
  apart := h.apart
  cold := fun b o e => by
    have := h.cold b o e
    rw [hb.block b ((Array.getElem?_eq_some_iff.1 this).1)]; exact this
  hot := h.hot
  old := h.old

theorem SRel.less {base : Nat} {μ : Mu} {R R' : Nat → Option Row} {w : World} (h : SRel base μ R w) (hs : ∀ r x, R' r = some x → R r = some x) : SRel base μ R' w where
  ge := h.ge
  dom := fun r x L hx e => h.dom r x L (hs r x hx) e
  row := fun r x e => h.row r x (hs r x e)
  apart := fun r q x y L K hne hx hy => h.apart r q x y L K hne (hs r x hx) (hs q y hy)
  cold := h.cold
  hot := fun r x L hx => h.hot r x L (hs r x hx)
  old := fun r x L hx => h.old r x L (hs r x hx)

def Mu.with (μ : Mu) (n : Nat) (L : Place) : Mu := { μ with at_ := fun r => if r = n then some L else μ r }
theorem Mu.with_eq (μ : Mu) (n : Nat) (L : Place) (r : Nat) : (μ.with n L) r = if r = n then some L else μ r := rfl
theorem Mu.le_with {μ : Mu} {n : Nat} (h : μ n = none) (L : Place) : μ.le (μ.with n L) := ⟨fun r K e => by
  show (if r = n then some L else μ r) = some K
  rw [if_neg (fun hr => by subst hr; rw [h] at e; exact nomatch e)]; exact e, fun _ _ h => h, rfl⟩
theorem Mu.with_at (μ : Mu) (n : Nat) (L : Place) : μ.with n L n = some L := by simp [Mu.with]

/-- A new row, in a new block. -/
theorem SRel.extend {base : Nat} {μ : Mu} {R R' : Nat → Option Row} {w w' : World} (h : SRel base μ R w) (n : Nat) (hn : μ n = none) (x : Row) (L : Place)
    (hb : Below w.heap.size w w') (h1 : w.heap.size ≤ L.b) (h2 : L.b < w'.heap.size) (hx : RowOk base (μ.with n L) w' L x)
    (hR : ∀ r, R' r = if r = n then some x else R r) : SRel base (μ.with n L) R' w' where
  ge := Nat.le_trans h.ge hb.size
  dom := fun r y K hy e => by
    rw [hR] at hy
    rw [Mu.with_eq] at e
    by_cases hr : r = n
    · rw [if_pos hr] at e; injection e with e; subst e; exact h2
    · rw [if_neg hr] at e hy; exact Nat.lt_of_lt_of_le (h.dom r y K hy e) hb.size
  row := fun r y e => by
    rw [hR] at e
    by_cases hr : r = n
    · subst hr; rw [if_pos rfl] at e; injection e with e; subst e
      exact ⟨L, Mu.with_at _ _ _, hx⟩
    · rw [if_neg hr] at e
      obtain ⟨K, hK, hr'⟩ := h.row r y e
      exact ⟨K, by rw [Mu.with_eq]; rw [if_neg hr]; exact hK, hr'.move (Mu.le_with hn L) (hb.block _ (h.dom r y K e hK))⟩
  apart := fun r q y z K1 K2 hne hy hz e1 e2 hf => by
    rw [hR] at hy hz
    rw [Mu.with_eq] at e1 e2
    by_cases hr : r = n
    · rw [if_pos hr] at e1; injection e1 with e1; subst e1
      have hq : q ≠ n := fun hq => hne (hr.trans hq.symm)
      rw [if_neg hq] at e2 hz
      have := h.dom q z K2 hz e2
      omega
    · rw [if_neg hr] at e1 hy
      by_cases hq : q = n
      · rw [if_pos hq] at e2; injection e2 with e2; subst e2
        have := h.dom r y K1 hy e1
        omega
      · rw [if_neg hq] at e2 hz
        exact h.apart r q y z K1 K2 hne hy hz e1 e2 hf
  cold := fun b o e => by
    have := h.cold b o e
    rw [hb.block b ((Array.getElem?_eq_some_iff.1 this).1)]; exact this
  hot := fun r y K hy hf e => by
    rw [hR] at hy
    rw [Mu.with_eq] at e
    show μ.fz K.b = none
    by_cases hr : r = n
    · rw [if_pos hr] at e; injection e with e; subst e; exact h.coldNew h1
    · rw [if_neg hr] at e hy; exact h.hot r y K hy hf e
  old := fun r y K hy e => by
    rw [hR] at hy
    rw [Mu.with_eq] at e
    by_cases hr : r = n
    · rw [if_pos hr] at e; injection e with e; subst e; exact Or.inl (Nat.le_trans h.ge h1)
    · rw [if_neg hr] at e hy; exact h.old r y K hy e

/-- A row of one's own, written. -/
theorem SRel.turn {base : Nat} {μ : Mu} {R R' : Nat → Option Row} {w w' : World} (h : SRel base μ R w) (r : Nat) (x : Row) (L : Place) (hr : R r = some x) (hf : x.free = true) (hL : μ r = some L)
    (hs : w'.heap.size = w.heap.size) (hb : ∀ b, b ≠ L.b → w'.heap[b]? = w.heap[b]?) (y : Option Row) (hy : ∀ z, y = some z → RowOk base μ w' L z)
    (hR : ∀ q, R' q = if q = r then y else R q) : SRel base μ R' w' where
  ge := by rw [hs]; exact h.ge
  dom := fun q z K hz e => by
    rw [hs]
    rw [hR] at hz
    by_cases hq : q = r
    · subst hq; rw [hL] at e; injection e with e; subst e; exact h.dom q x L hr hL
    · rw [if_neg hq] at hz; exact h.dom q z K hz e
  row := fun q z e => by
    rw [hR] at e
    by_cases hq : q = r
    · subst hq; rw [if_pos rfl] at e; exact ⟨L, hL, hy z e⟩
    · rw [if_neg hq] at e
      obtain ⟨K, hK, hk⟩ := h.row q z e
      exact ⟨K, hK, hk.move (Mu.le_refl μ) (hb _ fun e' => h.apart r q x z L K (fun e => hq e.symm) hr e hL hK hf e'.symm)⟩
  apart := fun p q a b K1 K2 hne ha hb' e1 e2 hfa => by
    rw [hR] at ha hb'
    by_cases hp : p = r
    · subst hp
      have hq : q ≠ p := fun e => hne e.symm
      rw [if_neg hq] at hb'
      rw [hL] at e1; injection e1 with e1; subst e1
      exact h.apart p q x b L K2 hne hr hb' hL e2 hf
    · rw [if_neg hp] at ha
      by_cases hq : q = r
      · subst hq
        rw [hL] at e2; injection e2 with e2; subst e2
        exact fun e => h.apart q p x a L K1 (fun e => hne e.symm) hr ha hL e1 hf e.symm
      · rw [if_neg hq] at hb'
        exact h.apart p q a b K1 K2 hne ha hb' e1 e2 hfa
  cold := fun b o e => by
    rw [hb b (fun e' => by subst e'; rw [h.hot r x L hr hf hL] at e; cases e)]
    exact h.cold b o e
  hot := fun q a K ha hfa e => by
    rw [hR] at ha
    by_cases hq : q = r
    · subst hq; rw [hL] at e; injection e with e; subst e; exact h.hot q x L hr hf hL
    · rw [if_neg hq] at ha; exact h.hot q a K ha hfa e
  old := fun q a K ha e => by
    rw [hR] at ha
    by_cases hq : q = r
    · subst hq; rw [hL] at e; injection e with e; subst e; exact h.old q x L hr hL
    · rw [if_neg hq] at ha; exact h.old q a K ha e

/-! ### What a piece of the machine that answers has done -/

theorem bind_some {α β : Type} {m : M α} {f : α → M β} {s : St} {p : β × St} : M.bind m f s = some p ↔ ∃ a s1, m s = some (a, s1) ∧ f a s1 = some p := by
  rw [M.bind_eq]
  cases h : m s with
  | none => simp
  | some q =>
    obtain ⟨a, s1⟩ := q
    simp only [Option.some.injEq, Prod.mk.injEq]
    exact ⟨fun h => ⟨a, s1, ⟨rfl, rfl⟩, h⟩, fun ⟨_, _, ⟨e1, e2⟩, h⟩ => by subst e1; subst e2; exact h⟩
theorem pure_some {α : Type} {a b : α} {s s' : St} : M.pure a s = some (b, s') ↔ b = a ∧ s' = s := by
  unfold M.pure; simp only [Option.some.injEq, Prod.mk.injEq]; exact ⟨fun h => ⟨h.1.symm, h.2.symm⟩, fun h => ⟨h.1.symm, h.2.symm⟩⟩
theorem lift_some {α : Type} {o : Option α} {b : α} {s s' : St} : M.lift o s = some (b, s') ↔ o = some b ∧ s' = s := by
  rw [M.lift_eq]
  cases o with
  | none => simp
  | some a => simp only [Option.some.injEq, Prod.mk.injEq]; exact ⟨fun h => ⟨h.1, h.2.symm⟩, fun h => ⟨h.1, h.2.symm⟩⟩
theorem fail_some {α : Type} {s : St} {p : α × St} : (M.fail : M α) s = some p ↔ False := by simp [M.fail]
theorem guard_some {b : Bool} {s s' : St} : M.guard b s = some ((), s') ↔ b = true ∧ s' = s := by
  unfold M.guard; cases b <;> simp; exact ⟨fun h => h.symm, fun h => h.symm⟩
theorem guardO_some {b : Bool} {u : Unit} : guardO b = some u ↔ b = true := by cases b <;> simp [guardO]
theorem lift_bind {α β : Type} {o : Option α} {f : α → M β} {s : St} {p : β × St} : M.bind (M.lift o) f s = some p ↔ ∃ a, o = some a ∧ f a s = some p := by
  rw [bind_some]
  constructor
  · rintro ⟨a, s1, h, k⟩; obtain ⟨h1, rfl⟩ := lift_some.1 h; exact ⟨a, h1, k⟩
  · rintro ⟨a, h, k⟩; exact ⟨a, s, lift_some.2 ⟨h, rfl⟩, k⟩
theorem guard_bind {β : Type} {b : Bool} {f : Unit → M β} {s : St} {p : β × St} : M.bind (M.guard b) f s = some p ↔ b = true ∧ f () s = some p := by
  rw [bind_some]
  constructor
  · rintro ⟨a, s1, h, k⟩; obtain ⟨h1, rfl⟩ := guard_some.1 h; exact ⟨h1, k⟩
  · rintro ⟨h, k⟩; exact ⟨(), s, guard_some.2 ⟨h, rfl⟩, k⟩
theorem row_bind {β : Type} {r : Nat} {f : Row → M β} {s : St} {p : β × St} : M.bind (M.row r) f s = some p ↔ Nat.blt r s.next = true ∧ ∃ x, s.rows.get r = some x ∧ f x { s with log := r :: s.log } = some p := by
  rw [M.bind_eq, M.row_eq]
  cases hb : Nat.blt r s.next with
  | false => simp
  | true =>
    cases h : s.rows.get r with
    | none => simp
    | some x => simp
theorem turn_some {r : Nat} {y : Option Row} {s s' : St} : M.turn r y s = some ((), s') ↔
    Nat.blt r s.next = true ∧ (∃ x, s.rows.get r = some x) ∧ Nat.ble r 1000000000 = true ∧ s' = { s with rows := D.put y deep s.rows r, log := r :: s.log, wlog := r :: s.wlog } := by
  rw [M.turn_eq]
  cases hb : Nat.blt r s.next with
  | false => simp
  | true =>
    cases h : s.rows.get r with
    | none => simp
    | some x => cases hb : Nat.ble r 1000000000 <;> simp; constructor <;> exact fun h => h.symm
theorem fresh_bind {β : Type} {x : Row} {f : Nat → M β} {s : St} {p : β × St} : M.bind (M.fresh x) f s = some p ↔
    Nat.ble s.next 1000000000 = true ∧ f s.next { s with rows := D.put (some x) deep s.rows s.next, next := Nat.succ s.next } = some p := by
  rw [M.bind_eq, M.fresh_eq]
  cases hb : Nat.ble s.next 1000000000 <;> simp

theorem asRef_some {v : Value} {p : Nat × Nat} : asRef v = some p ↔ v = .pointer (some ⟨p.1, p.2, none⟩) := by
  unfold asRef
  split
  · simp only [Option.some.injEq]
    constructor
    · intro h; subst h; rfl
    · intro h; injection h with h; injection h with h; injection h with h1 h2; obtain ⟨a, b⟩ := p; simp at h1 h2; rw [h1, h2]
  · rename_i hn
    simp only [reduceCtorEq, false_iff]
    intro h; exact hn _ _ h
theorem asSlice_some {v : Value} {p : Option Addr × Nat × Nat} : asSlice v = some p ↔ v = .slice p.1 p.2.1 p.2.2 := by
  unfold asSlice
  split
  · simp only [Option.some.injEq]
    constructor
    · intro h; subst h; rfl
    · intro h; injection h with h1 h2 h3; obtain ⟨a, b, c⟩ := p; simp at h1 h2 h3; rw [h1, h2, h3]
  · rename_i hn
    simp only [reduceCtorEq, false_iff]
    intro h; exact hn _ _ _ h
theorem asAggA_some {v : Value} {l : List Value} : asAggA v = some l ↔ ∃ c, v = .agg c ∧ c.toList = l := by
  cases v <;> simp [asAggA]
theorem asStr_some {v : Value} {s : ByteArray} : asStr v = some s ↔ v = .string s := by
  cases v <;> simp [asStr]
theorem idx_some {v : Value} {n : Nat} : idx v = some n ↔ ∃ k, v = .int k (.ofNat n) := by
  unfold idx
  split
  · constructor
    · intro h; injection h with h; subst h; exact ⟨_, rfl⟩
    · rintro ⟨k, h⟩; injection h with h1 h2; injection h2 with h2; rw [h2]
  · rename_i hn
    simp only [reduceCtorEq, false_iff, not_exists]
    exact fun k h => hn _ _ h
theorem sliceT_some {d : TypeDesc} {e : TypeId} : sliceT d = some e ↔ d = .slice e := by cases d <;> simp [sliceT]
theorem structT_some {d : TypeDesc} {e : Array Field} : structT d = some e ↔ d = .struct e := by cases d <;> simp [structT]
theorem cellsR_some {x : Row} {cs : List Value} : cellsR x = some cs ↔ ∃ ro es, x = .cells ro es cs := by cases x <;> simp [cellsR]
theorem ownR_some {x : Row} {p : Nat × List Value} : ownR x = some p ↔ x = .cells false p.1 p.2 := by
  cases x with
  | cells ro es cs => cases ro <;> simp [ownR]; constructor
                      · intro h; subst h; exact ⟨rfl, rfl⟩
                      · rintro ⟨h1, h2⟩; rw [h1, h2]
  | map => simp [ownR]
  | iter => simp [ownR]

end Go.Cm
