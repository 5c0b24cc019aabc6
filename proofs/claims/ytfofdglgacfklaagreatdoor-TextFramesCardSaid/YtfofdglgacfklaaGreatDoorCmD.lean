/-
  How the machine's values and rows stand to the model's.
-/
import Derived.Test.YtfofdglgacfklaaGreatDoorCmC
import Derived.Below
import Derived.Laws.IdiomCopy
namespace Go.Cm
open Go Go.RowKit

/-- Where a row lies in the model's memory: its block, its first cell, how many cells there are its own, and the cells of an element. -/
structure Place where
  b : Nat
  o : Nat
  ext : Nat
  es : Nat
  ty : Nat

/-- Where the rows lie; and the blocks that nobody writes any more, as they are. -/
structure Mu where
  at_ : Nat → Option Place
  fz : Nat → Option Obj
  sy : Nat → Value → Prop := fun _ _ => False
instance : CoeFun Mu (fun _ => Nat → Option Place) := ⟨Mu.at_⟩

/-- A cell of a block that nobody writes any more. -/
def objAt (fz : Nat → Option Obj) (b o : Nat) : Option Value :=
  match fz b with
  | some (.cells c _ _) => c[o]?
  | _ => none

mutual
/-- What is cold, and what it is. -/
inductive Cold (fz : Nat → Option Obj) : Value → Value → Prop
  | plain (v : Value) (h : plain v = true) : Cold fz v v
  | arr (n : Nat) (cs : List Value) (a : Addr) (cap : Nat) (l' : List Value) (hs : n = 0 ∨ a.spot = none) (hc : n ≤ cap) (hl : Colds fz cs l') (hm : ∀ (i : Nat) (v : Value), l'[i]? = some v → objAt fz a.block (a.off + i) = some v) :
      Cold fz (.func (.yield 0) ⟨cs⟩ #[.int .i64 (.ofNat n)]) (.slice (some a) n cap)
  | ref (o : Nat) (cs : List Value) (b z : Nat) (l' : List Value) (hl : Colds fz cs l') (hm : ∀ (i : Nat) (v : Value), l'[i]? = some v → objAt fz b (z + i) = some v) :
      Cold fz (.func (.yield 1) ⟨cs⟩ #[.int .i64 (.ofNat o)]) (.pointer (some ⟨b, z + o, none⟩))
  | agg (c c' : Array Value) (h : Colds fz c.toList c'.toList) : Cold fz (.agg c) (.agg c')
inductive Colds (fz : Nat → Option Obj) : List Value → List Value → Prop
  | nil : Colds fz [] []
  | cons (v v' : Value) (l l' : List Value) (h : Cold fz v v') (hl : Colds fz l l') : Colds fz (v :: l) (v' :: l')
end

/-- What the bits of b leave of a number. -/
def lowOf (n : Int) (b : Nat) : Int := IntKind.i64.wrap (BitVec.ofInt 64 n &&& BitVec.ofInt 64 b).toNat
def SymOk (c : Nat) (n : Int) : Prop :=
  c < 3802951800684688204490109616128 ∧ match c % 3 with
  | 0 => lowOf n 255 % (symM c : Nat) = (symK c : Nat)
  | 1 => 0 ≤ n ∧ n % (symM c : Nat) = (symK c : Nat)
  | _ => lowOf n (symM c) = (symK c : Nat)

/-- What a token may stand for: one cell. -/
def tokB : Value → Bool
  | .agg _ | .tuple _ => false
  | _ => true
theorem tokB_one {v : Value} (h : tokB v = true) : v.oneCell' = true := by cases v <;> first | rfl | cases h

mutual
inductive VRel (μ : Mu) : Value → Value → Prop
  | plain (v : Value) (h : plain v = true) : VRel μ v v
  | ptr (r off : Nat) (L : Place) (h : μ r = some L) : VRel μ (.pointer (some ⟨r, off, none⟩)) (.pointer (some ⟨L.b, L.o + off, none⟩))
  | slice (r off len cap : Nat) (L : Place) (h : μ r = some L) : VRel μ (.slice (some ⟨r, off, none⟩) len cap) (.slice (some ⟨L.b, L.o + off, none⟩) len cap)
  | grown (r off len cap cap' : Nat) (L : Place) (h : μ r = some L) (hc : cap ≤ cap') (hx : off + cap' * L.es ≤ L.ext) :
      VRel μ (.slice (some ⟨r, off, some L.es⟩) len cap) (.slice (some ⟨L.b, L.o + off, none⟩) len cap')
  | over (a a' : Addr) : VRel μ (.slice (some a) 0 0) (.slice (some a') 0 0)
  | map (r : Nat) (L : Place) (h : μ r = some L) : VRel μ (.map (some r)) (.map (some L.b))
  | func (f : FuncId) (a a' c c' : Array Value) (ha : VRels μ a.toList a'.toList) (hc : VRels μ c.toList c'.toList) : VRel μ (.func (.func f) a c) (.func (.func f) a' c')
  | arr (n : Nat) (cs : List Value) (a : Addr) (cap : Nat) (l' : List Value) (hs : n = 0 ∨ a.spot = none) (hc : n ≤ cap) (hl : Colds μ.fz cs l') (hm : ∀ (i : Nat) (v : Value), l'[i]? = some v → objAt μ.fz a.block (a.off + i) = some v) :
      VRel μ (.func (.yield 0) ⟨cs⟩ #[.int .i64 (.ofNat n)]) (.slice (some a) n cap)
  | ref (o : Nat) (cs : List Value) (b z : Nat) (l' : List Value) (hl : Colds μ.fz cs l') (hm : ∀ (i : Nat) (v : Value), l'[i]? = some v → objAt μ.fz b (z + i) = some v) :
      VRel μ (.func (.yield 1) ⟨cs⟩ #[.int .i64 (.ofNat o)]) (.pointer (some ⟨b, z + o, none⟩))
  | iface (t : TypeId) (v v' : Value) (h : VRel μ v v') : VRel μ (.iface t v) (.iface t v')
  | sym (c : Nat) (n : Int) (h : SymOk c n) : VRel μ (.chan (some c)) (.int .i64 n)
  | tok (c : Nat) (v' : Value) (hc : 3802951800684688204490109616128 ≤ c) (ho : tokB v' = true) (h : μ.sy c v') : VRel μ (.chan (some c)) v'
  | any (v' : Value) : VRel μ (.func (.yield 2) #[] #[]) v'
  | agg (c c' : Array Value) (h : VRels μ c.toList c'.toList) : VRel μ (.agg c) (.agg c')
  | tuple (c c' : Array Value) (h : VRels μ c.toList c'.toList) : VRel μ (.tuple c) (.tuple c')
inductive VRels (μ : Mu) : List Value → List Value → Prop
  | nil : VRels μ [] []
  | cons (v v' : Value) (l l' : List Value) (h : VRel μ v v') (hl : VRels μ l l') : VRels μ (v :: l) (v' :: l')
end

section
variable {μ : Mu}

theorem VRels.length : ∀ {l l' : List Value}, VRels μ l l' → l'.length = l.length
  | [], _, h => by cases h; rfl
  | _ :: l, _, h => by cases h with | cons v v' l l' h hl => simp [hl.length]

theorem VRels.get : ∀ {l l' : List Value}, VRels μ l l' → ∀ (i : Nat) (v : Value), l[i]? = some v → ∃ v', l'[i]? = some v' ∧ VRel μ v v'
  | [], _, _, i, v, h => by simp at h
  | x :: l, _, h, i, v, hv => by
    cases h with
    | cons _ v' _ l' h hl =>
      cases i with
      | zero => simp at hv; subst hv; exact ⟨v', rfl, h⟩
      | succ i => simp at hv; obtain ⟨u, hu, hr⟩ := hl.get i v hv; exact ⟨u, by simpa using hu, hr⟩

theorem VRels.of_get : ∀ (l l' : List Value), l'.length = l.length → (∀ (i : Nat) (v : Value), l[i]? = some v → ∃ v', l'[i]? = some v' ∧ VRel μ v v') → VRels μ l l'
  | [], l', hl, _ => by cases l' with | nil => exact .nil | cons => simp at hl
  | x :: l, l', hl, h => by
    cases l' with
    | nil => simp at hl
    | cons y l' =>
      obtain ⟨v', h0, hr⟩ := h 0 x rfl
      simp at h0; subst h0
      exact .cons _ _ _ _ hr (VRels.of_get l l' (by simpa using hl) fun i v hv => by
        obtain ⟨u, hu, hur⟩ := h (i + 1) v (by simpa using hv)
        exact ⟨u, by simpa using hu, hur⟩)

theorem VRels.append : ∀ {a a' b b' : List Value}, VRels μ a a' → VRels μ b b' → VRels μ (a ++ b) (a' ++ b')
  | [], _, _, _, h, k => by cases h; exact k
  | _ :: _, _, _, _, h, k => by cases h with | cons _ _ _ _ h hl => exact .cons _ _ _ _ h (hl.append k)

theorem VRels.take {l l' : List Value} (h : VRels μ l l') (n : Nat) : VRels μ (l.take n) (l'.take n) :=
  VRels.of_get _ _ (by simp [h.length]) fun i v hv => by
    rw [List.getElem?_take] at hv
    split at hv
    · rename_i hi
      obtain ⟨u, hu, hr⟩ := h.get i v hv
      exact ⟨u, by rw [List.getElem?_take, if_pos hi]; exact hu, hr⟩
    · cases hv

theorem VRels.drop {l l' : List Value} (h : VRels μ l l') (n : Nat) : VRels μ (l.drop n) (l'.drop n) :=
  VRels.of_get _ _ (by simp [h.length]) fun i v hv => by
    rw [List.getElem?_drop] at hv ⊢
    exact h.get _ v hv

theorem plains_cons {v : Value} {l : List Value} : plains (v :: l) = true ↔ Cm.plain v = true ∧ plains l = true := by
  rw [plains]
  cases h : Cm.plain v <;> simp

theorem VRels.plain : ∀ {l : List Value}, plains l = true → VRels μ l l
  | [], _ => .nil
  | v :: l, h => by
    have := plains_cons.1 h
    exact .cons _ _ _ _ (.plain v this.1) (VRels.plain this.2)

theorem plainN_succ : ∀ (k : Nat) (v : Value), plainN k v = true → plainN (k + 1) v = true
  | 0, v, h => by simp [plainN] at h
  | k + 1, v, h => by
    have ih := plainN_succ k
    have il : ∀ l : List Value, l.all (plainN k) = true → l.all (plainN (k + 1)) = true := by
      intro l hl; rw [List.all_eq_true] at hl ⊢; exact fun x hx => ih x (hl x hx)
    unfold plainN at h ⊢
    split at h <;> first
      | rfl
      | (simp only [Bool.and_eq_true] at h ⊢; exact ⟨il _ h.1, il _ h.2⟩)
      | exact ih _ h
      | exact il _ h
      | cases h

theorem plainN_le {k m : Nat} (h : k ≤ m) (v : Value) (hv : plainN k v = true) : plainN m v = true := by
  induction h with
  | refl => exact hv
  | step _ ih => exact plainN_succ _ v ih

theorem plain_of {k : Nat} (hk : k ≤ 6) (v : Value) (hv : plainN k v = true) : Cm.plain v = true := plainN_le hk v hv

theorem plains_of {k : Nat} (hk : k ≤ 6) : ∀ l : List Value, l.all (plainN k) = true → plains l = true
  | [], _ => rfl
  | v :: l, h => by
    simp only [List.all_cons, Bool.and_eq_true] at h
    exact plains_cons.2 ⟨plain_of hk v h.1, plains_of hk l h.2⟩

theorem VRel.eqN : ∀ (k : Nat) (v v' : Value), plainN k v = true → VRel μ v v' → v' = v
  | 0, _, _, h, _ => by simp [plainN] at h
  | k + 1, v, v', hp, h => by
    have il : ∀ l l' : List Value, l.all (plainN k) = true → VRels μ l l' → l' = l := by
      intro l
      induction l with
      | nil => intro l' _ h; cases h; rfl
      | cons x l ih =>
        intro l' ha h
        cases h with
        | cons _ y _ m hx hl =>
          simp only [List.all_cons, Bool.and_eq_true] at ha
          rw [VRel.eqN k x y ha.1 hx, ih m ha.2 hl]
    cases h with
    | plain => rfl
    | ptr => simp [plainN] at hp
    | slice => simp [plainN] at hp
    | grown => simp [plainN] at hp
    | over => simp [plainN] at hp
    | sym => simp [plainN] at hp
    | tok => simp [plainN] at hp
    | map => simp [plainN] at hp
    | arr => simp [plainN] at hp
    | ref => simp [plainN] at hp
    | any => simp [plainN] at hp
    | func f a a' c c' ha hc =>
      simp only [plainN, Bool.and_eq_true] at hp
      have e1 := il _ _ hp.1 ha
      have e2 := il _ _ hp.2 hc
      cases a; cases a'; cases c; cases c'; simp at e1 e2; subst e1; subst e2; rfl
    | iface t u u' h => simp only [plainN] at hp; rw [VRel.eqN k u u' hp h]
    | agg c c' h => simp only [plainN] at hp; have e := il _ _ hp h; cases c; cases c'; simp at e; subst e; rfl
    | tuple c c' h => simp only [plainN] at hp; have e := il _ _ hp h; cases c; cases c'; simp at e; subst e; rfl

theorem VRel.eq {v v' : Value} (hp : Cm.plain v = true) (h : VRel μ v v') : v' = v := VRel.eqN 6 v v' hp h

theorem VRels.eq : ∀ {l l' : List Value}, plains l = true → VRels μ l l' → l' = l
  | [], _, _, h => by cases h; rfl
  | v :: l, _, hp, h => by
    have := plains_cons.1 hp
    cases h with
    | cons _ _ _ _ h hl => rw [VRel.eq this.1 h, VRels.eq this.2 hl]

theorem VRel.ofBool {b : Bool} {v' : Value} (h : VRel μ (.bool b) v') : v' = .bool b := h.eq rfl
theorem VRel.ofInt {k : IntKind} {n : Int} {v' : Value} (h : VRel μ (.int k n) v') : v' = .int k n := h.eq rfl
theorem VRel.ofString {s : ByteArray} {v' : Value} (h : VRel μ (.string s) v') : v' = .string s := h.eq rfl

theorem VRel.ofPtr {r off : Nat} {v' : Value} (h : VRel μ (.pointer (some ⟨r, off, none⟩)) v') : ∃ L, μ r = some L ∧ v' = .pointer (some ⟨L.b, L.o + off, none⟩) := by
  cases h with
  | plain _ h => simp [Cm.plain, plainN] at h
  | ptr _ _ L h => exact ⟨L, h, rfl⟩

theorem VRel.ofSlice {a : Addr} {len cap : Nat} {v' : Value} (h : VRel μ (.slice (some a) len cap) v') :
    (∃ L, a.spot = none ∧ μ a.block = some L ∧ v' = .slice (some ⟨L.b, L.o + a.off, none⟩) len cap) ∨
    (∃ L cap', a.spot = some L.es ∧ μ a.block = some L ∧ cap ≤ cap' ∧ a.off + cap' * L.es ≤ L.ext ∧ v' = .slice (some ⟨L.b, L.o + a.off, none⟩) len cap') ∨
    (∃ a', len = 0 ∧ cap = 0 ∧ v' = .slice (some a') 0 0) := by
  cases h with
  | plain _ h => simp [Cm.plain, plainN] at h
  | slice r off _ _ L h => exact Or.inl ⟨L, rfl, h, rfl⟩
  | grown r off _ _ cap' L h hc hx => exact Or.inr (Or.inl ⟨L, cap', rfl, h, hc, hx, rfl⟩)
  | over _ a' => exact Or.inr (Or.inr ⟨a', rfl, rfl, rfl⟩)

theorem VRel.ofNilSlice {len cap : Nat} {v' : Value} (h : VRel μ (.slice none len cap) v') : v' = .slice none len cap := h.eq rfl

theorem plain_agg {c : Array Value} (h : Cm.plain (.agg c) = true) : plains c.toList = true := plains_of (k := 5) (by omega) _ h
theorem plain_tuple {c : Array Value} (h : Cm.plain (.tuple c) = true) : plains c.toList = true := plains_of (k := 5) (by omega) _ h

theorem VRel.ofAgg {c : Array Value} {v' : Value} (h : VRel μ (.agg c) v') : ∃ c', v' = .agg c' ∧ VRels μ c.toList c'.toList := by
  cases h with
  | plain _ h => exact ⟨c, rfl, VRels.plain (plain_agg h)⟩
  | agg _ c' h => exact ⟨c', rfl, h⟩
theorem VRel.ofTuple {c : Array Value} {v' : Value} (h : VRel μ (.tuple c) v') : ∃ c', v' = .tuple c' ∧ VRels μ c.toList c'.toList := by
  cases h with
  | plain _ h => exact ⟨c, rfl, VRels.plain (plain_tuple h)⟩
  | tuple _ c' h => exact ⟨c', rfl, h⟩
theorem VRel.ofFunc {f : FuncId} {a c : Array Value} {v' : Value} (h : VRel μ (.func (.func f) a c) v') :
    ∃ a' c', v' = .func (.func f) a' c' ∧ VRels μ a.toList a'.toList ∧ VRels μ c.toList c'.toList := by
  cases h with
  | plain _ h =>
    have h' : (a.toList.all (plainN 5) && c.toList.all (plainN 5)) = true := h
    simp only [Bool.and_eq_true] at h'
    exact ⟨a, c, rfl, VRels.plain (plains_of (by omega) _ h'.1), VRels.plain (plains_of (by omega) _ h'.2)⟩
  | func _ _ a' _ c' ha hc => exact ⟨a', c', rfl, ha, hc⟩
theorem VRel.ofIface {t : TypeId} {v v' : Value} (h : VRel μ (.iface t v) v') : ∃ u, v' = .iface t u ∧ VRel μ v u := by
  cases h with
  | plain _ h => exact ⟨v, rfl, .plain v (plain_of (k := 5) (by omega) v h)⟩
  | iface _ _ v' h => exact ⟨v', rfl, h⟩
theorem VRel.ofMap {r : Nat} {v' : Value} (h : VRel μ (.map (some r)) v') : ∃ L, μ r = some L ∧ v' = .map (some L.b) := by
  cases h with
  | plain _ h => simp [Cm.plain, plainN] at h
  | map _ L h => exact ⟨L, h, rfl⟩

theorem VRel.cells {v v' : Value} (h : VRel μ v v') (hj : isJunk v = false) : VRels μ v.cells.toList v'.cells.toList := by
  cases h with
  | plain v hp =>
    cases v <;> first
      | exact .cons _ _ _ _ (.plain _ hp) .nil
      | exact VRels.plain (plain_agg hp)
  | ptr r off L h => exact .cons _ _ _ _ (.ptr r off L h) .nil
  | slice r off l c L h => exact .cons _ _ _ _ (.slice r off l c L h) .nil
  | grown r off l c c' L h hc hx => exact .cons _ _ _ _ (.grown r off l c c' L h hc hx) .nil
  | over a a' => exact .cons _ _ _ _ (.over a a') .nil
  | map r L h => exact .cons _ _ _ _ (.map r L h) .nil
  | func f a a' c c' ha hc => exact .cons _ _ _ _ (.func f a a' c c' ha hc) .nil
  | iface t v v' h => exact .cons _ _ _ _ (.iface t v v' h) .nil
  | sym c n h => exact .cons _ _ _ _ (.sym c n h) .nil
  | tok c v' hc ho h =>
    have : v'.cells = #[v'] := by
      cases v' with
      | agg cs => cases ho
      | _ => rfl
    rw [this]
    exact .cons _ _ _ _ (.tok c v' hc ho h) .nil
  | arr n cs a cap l' hs hc hl hm => exact .cons _ _ _ _ (.arr n cs a cap l' hs hc hl hm) .nil
  | ref o cs b z l' hl hm => exact .cons _ _ _ _ (.ref o cs b z l' hl hm) .nil
  | any v' => simp [isJunk] at hj
  | agg c c' h => exact h
  | tuple c c' h => exact .cons _ _ _ _ (.tuple c c' h) .nil

theorem VRel.one1 {v v' : Value} (h : VRel μ v v') (ho : Cm.one1 v = true) : v'.oneCell' = true := by
  cases h with
  | plain v _ => cases v <;> first | rfl | cases ho
  | any => cases ho
  | agg => cases ho
  | tuple => cases ho
  | tok _ _ _ ho' => exact tokB_one ho'
  | _ => rfl

theorem VRels.oneCells : ∀ {l l' : List Value}, VRels μ l l' → Cm.oneCells l = true → ∀ v ∈ l', v.oneCell' = true
  | [], _, h, _ => by cases h; intro v hv; simp at hv
  | x :: l, _, h, ho => by
    cases h with
    | cons _ y _ m h hl =>
      unfold Cm.oneCells at ho
      cases hx : Cm.one1 x with
      | false => rw [hx] at ho; cases ho
      | true =>
        rw [hx] at ho
        intro v hv
        rcases List.mem_cons.1 hv with e | e
        · subst e; exact h.one1 hx
        · exact hl.oneCells ho v e
end

/-- More names: what stood still stands. -/
structure Mu.le (μ μ' : Mu) : Prop where
  at_ : ∀ r L, μ r = some L → μ' r = some L
  fz : ∀ b o, μ.fz b = some o → μ'.fz b = some o
  sy : μ'.sy = μ.sy
instance {μ μ' : Mu} : CoeFun (Mu.le μ μ') (fun _ => ∀ r L, μ r = some L → μ' r = some L) := ⟨Mu.le.at_⟩

theorem objAt_mono {fz fz' : Nat → Option Obj} (h : ∀ b o, fz b = some o → fz' b = some o) {b o : Nat} {v : Value} (hv : objAt fz b o = some v) : objAt fz' b o = some v := by
  unfold objAt at hv ⊢
  cases hb : fz b with
  | none => rw [hb] at hv; cases hv
  | some x => rw [hb] at hv; rw [h b x hb]; exact hv

mutual
theorem Cold.mono {fz fz' : Nat → Option Obj} (hm : ∀ b o, fz b = some o → fz' b = some o) {v v' : Value} : Cold fz v v' → Cold fz' v v'
  | .plain v h => .plain v h
  | .arr n cs a cap l' hs hc hl h => .arr n cs a cap l' hs hc (Colds.mono hm hl) fun i v hv => objAt_mono hm (h i v hv)
  | .ref o cs b z l' hl h => .ref o cs b z l' (Colds.mono hm hl) fun i v hv => objAt_mono hm (h i v hv)
  | .agg c c' h => .agg c c' (Colds.mono hm h)
theorem Colds.mono {fz fz' : Nat → Option Obj} (hm : ∀ b o, fz b = some o → fz' b = some o) {l l' : List Value} : Colds fz l l' → Colds fz' l l'
  | .nil => .nil
  | .cons v v' l l' h hl => .cons v v' l l' (Cold.mono hm h) (Colds.mono hm hl)
end
mutual
theorem Cold.rel {μ : Mu} {v v' : Value} : Cold μ.fz v v' → VRel μ v v'
  | .plain v h => .plain v h
  | .arr n cs a cap l' hs hc hl h => .arr n cs a cap l' hs hc hl h
  | .ref o cs b z l' hl h => .ref o cs b z l' hl h
  | .agg c c' h => .agg c c' (Colds.rel h)
theorem Colds.rel {μ : Mu} {l l' : List Value} : Colds μ.fz l l' → VRels μ l l'
  | .nil => .nil
  | .cons v v' l l' h hl => .cons v v' l l' (Cold.rel h) (Colds.rel hl)
end
theorem Colds.length {fz : Nat → Option Obj} : ∀ {l l' : List Value}, Colds fz l l' → l'.length = l.length
  | [], _, h => by cases h; rfl
  | _ :: l, _, h => by cases h with | cons v v' l l' h hl => simp [hl.length]
theorem Colds.get {fz : Nat → Option Obj} : ∀ {l l' : List Value}, Colds fz l l' → ∀ (i : Nat) (v : Value), l[i]? = some v → ∃ v', l'[i]? = some v' ∧ Cold fz v v'
  | [], _, _, i, v, h => by simp at h
  | x :: l, _, h, i, v, hv => by
    cases h with
    | cons _ v' _ l' h hl =>
      cases i with
      | zero => simp at hv; subst hv; exact ⟨v', rfl, h⟩
      | succ i => simp at hv; obtain ⟨u, hu, hr⟩ := hl.get i v hv; exact ⟨u, by simpa using hu, hr⟩
theorem Colds.of_get {fz : Nat → Option Obj} : ∀ (l l' : List Value), l'.length = l.length → (∀ (i : Nat) (v : Value), l[i]? = some v → ∃ v', l'[i]? = some v' ∧ Cold fz v v') → Colds fz l l'
  | [], l', hl, _ => by cases l' with | nil => exact .nil | cons => simp at hl
  | x :: l, l', hl, h => by
    cases l' with
    | nil => simp at hl
    | cons y l' =>
      obtain ⟨v', h0, hr⟩ := h 0 x rfl
      simp at h0; subst h0
      exact .cons _ _ _ _ hr (Colds.of_get l l' (by simpa using hl) fun i v hv => by
        obtain ⟨u, hu, hur⟩ := h (i + 1) v (by simpa using hv)
        exact ⟨u, by simpa using hu, hur⟩)
theorem Colds.take {fz : Nat → Option Obj} {l l' : List Value} (h : Colds fz l l') (n : Nat) : Colds fz (l.take n) (l'.take n) :=
  Colds.of_get _ _ (by simp [h.length]) fun i v hv => by
    rw [List.getElem?_take] at hv
    split at hv
    · rename_i hi
      obtain ⟨u, hu, hr⟩ := h.get i v hv
      exact ⟨u, by rw [List.getElem?_take, if_pos hi]; exact hu, hr⟩
    · cases hv
theorem Colds.drop {fz : Nat → Option Obj} {l l' : List Value} (h : Colds fz l l') (n : Nat) : Colds fz (l.drop n) (l'.drop n) :=
  Colds.of_get _ _ (by simp [h.length]) fun i v hv => by
    rw [List.getElem?_drop] at hv ⊢
    exact h.get _ v hv

theorem asFz_some {v : Value} {p : Nat × Nat × List Value} : asFz v = some p ↔ v = .func (.yield p.1) ⟨p.2.2⟩ #[.int .i64 (.ofNat p.2.1)] := by
  obtain ⟨k, n, cs⟩ := p
  constructor
  · intro h
    unfold asFz at h
    split at h
    · rename_i k' cs' c
      split at h
      · rename_i n' hc
        simp only [Option.some.injEq, Prod.mk.injEq] at h
        obtain ⟨rfl, rfl, rfl⟩ := h
        obtain ⟨cl⟩ := c
        simp only at hc
        subst hc
        rfl
      · cases h
    · cases h
  · rintro rfl; rfl

/-- What a cold slice is. -/
theorem VRel.ofArr {μ : Mu} {n : Nat} {cs : List Value} {v' : Value} (h : VRel μ (.func (.yield 0) ⟨cs⟩ #[.int .i64 (.ofNat n)]) v') :
    ∃ (a : Addr) (cap : Nat) (l' : List Value), v' = .slice (some a) n cap ∧ (n = 0 ∨ a.spot = none) ∧ n ≤ cap ∧ Colds μ.fz cs l' ∧ ∀ (i : Nat) (v : Value), l'[i]? = some v → objAt μ.fz a.block (a.off + i) = some v := by
  cases h with
  | plain _ h => simp [Cm.plain, plainN] at h
  | arr _ _ a cap l' hs hc hl hm => exact ⟨a, cap, l', rfl, hs, hc, hl, hm⟩
theorem VRel.ofRef {μ : Mu} {o : Nat} {cs : List Value} {v' : Value} (h : VRel μ (.func (.yield 1) ⟨cs⟩ #[.int .i64 (.ofNat o)]) v') :
    ∃ (b z : Nat) (l' : List Value), v' = .pointer (some ⟨b, z + o, none⟩) ∧ Colds μ.fz cs l' ∧ ∀ (i : Nat) (v : Value), l'[i]? = some v → objAt μ.fz b (z + i) = some v := by
  cases h with
  | plain _ h => simp [Cm.plain, plainN] at h
  | ref _ _ b z l' hl hm => exact ⟨b, z, l', rfl, hl, hm⟩

mutual
theorem VRel.mono {μ μ' : Mu} (hm : μ.le μ') {v v' : Value} : VRel μ v v' → VRel μ' v v'
  | .plain v h => .plain v h
  | .ptr r off L h => .ptr r off L (hm _ _ h)
  | .slice r off len cap L h => .slice r off len cap L (hm _ _ h)
  | .grown r off len cap cap' L h hc hx => .grown r off len cap cap' L (hm _ _ h) hc hx
  | .over a a' => .over a a'
  | .map r L h => .map r L (hm _ _ h)
  | .func f a a' c c' ha hc => .func f a a' c c' (VRels.mono hm ha) (VRels.mono hm hc)
  | .iface t v v' h => .iface t v v' (VRel.mono hm h)
  | .sym c n h => .sym c n h
  | .tok c v' hc ho h => .tok c v' hc ho (by rw [hm.sy]; exact h)
  | .arr n cs a cap l' hs hc hl h => .arr n cs a cap l' hs hc (Colds.mono hm.fz hl) fun i v hv => objAt_mono hm.fz (h i v hv)
  | .ref o cs b z l' hl h => .ref o cs b z l' (Colds.mono hm.fz hl) fun i v hv => objAt_mono hm.fz (h i v hv)
  | .any v' => .any v'
  | .agg c c' h => .agg c c' (VRels.mono hm h)
  | .tuple c c' h => .tuple c c' (VRels.mono hm h)
theorem VRels.mono {μ μ' : Mu} (hm : μ.le μ') {l l' : List Value} : VRels μ l l' → VRels μ' l l'
  | .nil => .nil
  | .cons v v' l l' h hl => .cons v v' l l' (VRel.mono hm h) (VRels.mono hm hl)
end

end Go.Cm
