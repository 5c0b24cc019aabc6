/-
  How the machine's values and rows stand to the model's. How the machine's state stands to the model's world, and what keeps it so. The operations on memory: what the machine does, the model does.
-/
import Derived.Test.YtkcibhokjiciiaaMa
import Derived.Below
import Derived.Laws.IdiomCopy
namespace Go.Cm
open Go Go.RowKit

/-- Where a row lies in the model's memory: its block, its first cell, how many cells there are its own, and the cells of an element. -/
structure Place where
  b : Nat
  o : Nat
  ext : Nat
  es : Nat
  ty : Nat

/-- Where the rows lie; and the blocks that nobody writes any more, as they are. -/
structure Mu where
  at_ : Nat → Option Place
  fz : Nat → Option Obj
  sy : Nat → Value → Prop := fun _ _ => False
instance : CoeFun Mu (fun _ => Nat → Option Place) := ⟨Mu.at_⟩

/-- A cell of a block that nobody writes any more. -/
def objAt (fz : Nat → Option Obj) (b o : Nat) : Option Value :=
  match fz b with
  | some (.cells c _ _) => c[o]?
  | _ => none

mutual
/-- What is cold, and what it is. -/
inductive Cold (fz : Nat → Option Obj) : Value → Value → Prop
  | plain (v : Value) (h : plain v = true) : Cold fz v v
  | arr (n : Nat) (cs : List Value) (a : Addr) (cap : Nat) (l' : List Value) (hs : n = 0 ∨ a.spot = none) (hc : n ≤ cap) (hl : Colds fz cs l') (hm : ∀ (i : Nat) (v : Value), l'[i]? = some v → objAt fz a.block (a.off + i) = some v) :
      Cold fz (.func (.yield 0) ⟨cs⟩ #[.int .i64 (.ofNat n)]) (.slice (some a) n cap)
  | ref (o : Nat) (cs : List Value) (b z : Nat) (l' : List Value) (hl : Colds fz cs l') (hm : ∀ (i : Nat) (v : Value), l'[i]? = some v → objAt fz b (z + i) = some v) :
      Cold fz (.func (.yield 1) ⟨cs⟩ #[.int .i64 (.ofNat o)]) (.pointer (some ⟨b, z + o, none⟩))
  | agg (c c' : Array Value) (h : Colds fz c.toList c'.toList) : Cold fz (.agg c) (.agg c')
inductive Colds (fz : Nat → Option Obj) : List Value → List Value → Prop
  | nil : Colds fz [] []
  | cons (v v' : Value) (l l' : List Value) (h : Cold fz v v') (hl : Colds fz l l') : Colds fz (v :: l) (v' :: l')
end

/-- What the bits of b leave of a number. -/
def lowOf (n : Int) (b : Nat) : Int := IntKind.i64.wrap (BitVec.ofInt 64 n &&& BitVec.ofInt 64 b).toNat
def SymOk (c : Nat) (n : Int) : Prop :=
  c < 3802951800684688204490109616128 ∧ match c % 3 with
  | 0 => lowOf n 255 % (symM c : Nat) = (symK c : Nat)
  | 1 => 0 ≤ n ∧ n % (symM c : Nat) = (symK c : Nat)
  | _ => lowOf n (symM c) = (symK c : Nat)

/-- What a token may stand for: one cell. -/
def tokB : Value → Bool
  | .agg _ | .tuple _ => false
  | _ => true
theorem tokB_one {v : Value} (h : tokB v = true) : v.oneCell' = true := by cases v <;> first | rfl | cases h

mutual
inductive VRel (μ : Mu) : Value → Value → Prop
  | plain (v : Value) (h : plain v = true) : VRel μ v v
  | ptr (r off : Nat) (L : Place) (h : μ r = some L) : VRel μ (.pointer (some ⟨r, off, none⟩)) (.pointer (some ⟨L.b, L.o + off, none⟩))
  | slice (r off len cap : Nat) (L : Place) (h : μ r = some L) : VRel μ (.slice (some ⟨r, off, none⟩) len cap) (.slice (some ⟨L.b, L.o + off, none⟩) len cap)
  | grown (r off len cap cap' : Nat) (L : Place) (h : μ r = some L) (hc : cap ≤ cap') (hx : off + cap' * L.es ≤ L.ext) :
      VRel μ (.slice (some ⟨r, off, some L.es⟩) len cap) (.slice (some ⟨L.b, L.o + off, none⟩) len cap')
  | over (a a' : Addr) : VRel μ (.slice (some a) 0 0) (.slice (some a') 0 0)
  | map (r : Nat) (L : Place) (h : μ r = some L) : VRel μ (.map (some r)) (.map (some L.b))
  | func (f : FuncId) (a a' c c' : Array Value) (ha : VRels μ a.toList a'.toList) (hc : VRels μ c.toList c'.toList) : VRel μ (.func (.func f) a c) (.func (.func f) a' c')
  | arr (n : Nat) (cs : List Value) (a : Addr) (cap : Nat) (l' : List Value) (hs : n = 0 ∨ a.spot = none) (hc : n ≤ cap) (hl : Colds μ.fz cs l') (hm : ∀ (i : Nat) (v : Value), l'[i]? = some v → objAt μ.fz a.block (a.off + i) = some v) :
      VRel μ (.func (.yield 0) ⟨cs⟩ #[.int .i64 (.ofNat n)]) (.slice (some a) n cap)
  | ref (o : Nat) (cs : List Value) (b z : Nat) (l' : List Value) (hl : Colds μ.fz cs l') (hm : ∀ (i : Nat) (v : Value), l'[i]? = some v → objAt μ.fz b (z + i) = some v) :
      VRel μ (.func (.yield 1) ⟨cs⟩ #[.int .i64 (.ofNat o)]) (.pointer (some ⟨b, z + o, none⟩))
  | iface (t : TypeId) (v v' : Value) (h : VRel μ v v') : VRel μ (.iface t v) (.iface t v')
  | sym (c : Nat) (n : Int) (h : SymOk c n) : VRel μ (.chan (some c)) (.int .i64 n)
  | tok (c : Nat) (v' : Value) (hc : 3802951800684688204490109616128 ≤ c) (ho : tokB v' = true) (h : μ.sy c v') : VRel μ (.chan (some c)) v'
  | any (v' : Value) : VRel μ (.func (.yield 2) #[] #[]) v'
  | agg (c c' : Array Value) (h : VRels μ c.toList c'.toList) : VRel μ (.agg c) (.agg c')
  | tuple (c c' : Array Value) (h : VRels μ c.toList c'.toList) : VRel μ (.tuple c) (.tuple c')
inductive VRels (μ : Mu) : List Value → List Value → Prop
  | nil : VRels μ [] []
  | cons (v v' : Value) (l l' : List Value) (h : VRel μ v v') (hl : VRels μ l l') : VRels μ (v :: l) (v' :: l')
end

section
variable {μ : Mu}

theorem VRels.length : ∀ {l l' : List Value}, VRels μ l l' → l'.length = l.length
  | [], _, h => by cases h; rfl
  | _ :: l, _, h => by cases h with | cons v v' l l' h hl => simp [hl.length]

theorem VRels.get : ∀ {l l' : List Value}, VRels μ l l' → ∀ (i : Nat) (v : Value), l[i]? = some v → ∃ v', l'[i]? = some v' ∧ VRel μ v v'
  | [], _, _, i, v, h => by simp at h
  | x :: l, _, h, i, v, hv => by
    cases h with
    | cons _ v' _ l' h hl =>
      cases i with
      | zero => simp at hv; subst hv; exact ⟨v', rfl, h⟩
      | succ i => simp at hv; obtain ⟨u, hu, hr⟩ := hl.get i v hv; exact ⟨u, by simpa using hu, hr⟩

theorem VRels.of_get : ∀ (l l' : List Value), l'.length = l.length → (∀ (i : Nat) (v : Value), l[i]? = some v → ∃ v', l'[i]? = some v' ∧ VRel μ v v') → VRels μ l l'
  | [], l', hl, _ => by cases l' with | nil => exact .nil | cons => simp at hl
  | x :: l, l', hl, h => by
    cases l' with
    | nil => simp at hl
    | cons y l' =>
      obtain ⟨v', h0, hr⟩ := h 0 x rfl
      simp at h0; subst h0
      exact .cons _ _ _ _ hr (VRels.of_get l l' (by simpa using hl) fun i v hv => by
        obtain ⟨u, hu, hur⟩ := h (i + 1) v (by simpa using hv)
        exact ⟨u, by simpa using hu, hur⟩)

theorem VRels.append : ∀ {a a' b b' : List Value}, VRels μ a a' → VRels μ b b' → VRels μ (a ++ b) (a' ++ b')
  | [], _, _, _, h, k => by cases h; exact k
  | _ :: _, _, _, _, h, k => by cases h with | cons _ _ _ _ h hl => exact .cons _ _ _ _ h (hl.append k)

theorem VRels.take {l l' : List Value} (h : VRels μ l l') (n : Nat) : VRels μ (l.take n) (l'.take n) :=
  VRels.of_get _ _ (by simp [h.length]) fun i v hv => by
    rw [List.getElem?_take] at hv
    split at hv
    · rename_i hi
      obtain ⟨u, hu, hr⟩ := h.get i v hv
      exact ⟨u, by rw [List.getElem?_take, if_pos hi]; exact hu, hr⟩
    · cases hv

theorem VRels.drop {l l' : List Value} (h : VRels μ l l') (n : Nat) : VRels μ (l.drop n) (l'.drop n) :=
  VRels.of_get _ _ (by simp [h.length]) fun i v hv => by
    rw [List.getElem?_drop] at hv ⊢
    exact h.get _ v hv

theorem plains_cons {v : Value} {l : List Value} : plains (v :: l) = true ↔ Cm.plain v = true ∧ plains l = true := by
  rw [plains]
  cases h : Cm.plain v <;> simp

theorem VRels.plain : ∀ {l : List Value}, plains l = true → VRels μ l l
  | [], _ => .nil
  | v :: l, h => by
    have := plains_cons.1 h
    exact .cons _ _ _ _ (.plain v this.1) (VRels.plain this.2)

theorem plainN_succ : ∀ (k : Nat) (v : Value), plainN k v = true → plainN (k + 1) v = true
  | 0, v, h => by simp [plainN] at h
  | k + 1, v, h => by
    have ih := plainN_succ k
    have il : ∀ l : List Value, l.all (plainN k) = true → l.all (plainN (k + 1)) = true := by
      intro l hl; rw [List.all_eq_true] at hl ⊢; exact fun x hx => ih x (hl x hx)
    unfold plainN at h ⊢
    split at h <;> first
      | rfl
      | (simp only [Bool.and_eq_true] at h ⊢; exact ⟨il _ h.1, il _ h.2⟩)
      | exact ih _ h
      | exact il _ h
      | cases h

theorem plainN_le {k m : Nat} (h : k ≤ m) (v : Value) (hv : plainN k v = true) : plainN m v = true := by
  induction h with
  | refl => exact hv
  | step _ ih => exact plainN_succ _ v ih

theorem plain_of {k : Nat} (hk : k ≤ 6) (v : Value) (hv : plainN k v = true) : Cm.plain v = true := plainN_le hk v hv

theorem plains_of {k : Nat} (hk : k ≤ 6) : ∀ l : List Value, l.all (plainN k) = true → plains l = true
  | [], _ => rfl
  | v :: l, h => by
    simp only [List.all_cons, Bool.and_eq_true] at h
    exact plains_cons.2 ⟨plain_of hk v h.1, plains_of hk l h.2⟩

theorem VRel.eqN : ∀ (k : Nat) (v v' : Value), plainN k v = true → VRel μ v v' → v' = v
  | 0, _, _, h, _ => by simp [plainN] at h
  | k + 1, v, v', hp, h => by
    have il : ∀ l l' : List Value, l.all (plainN k) = true → VRels μ l l' → l' = l := by
      intro l
      induction l with
      | nil => intro l' _ h; cases h; rfl
      | cons x l ih =>
        intro l' ha h
        cases h with
        | cons _ y _ m hx hl =>
          simp only [List.all_cons, Bool.and_eq_true] at ha
          rw [VRel.eqN k x y ha.1 hx, ih m ha.2 hl]
    cases h with
    | plain => rfl
    | ptr => simp [plainN] at hp
    | slice => simp [plainN] at hp
    | grown => simp [plainN] at hp
    | over => simp [plainN] at hp
    | sym => simp [plainN] at hp
    | tok => simp [plainN] at hp
    | map => simp [plainN] at hp
    | arr => simp [plainN] at hp
    | ref => simp [plainN] at hp
    | any => simp [plainN] at hp
    | func f a a' c c' ha hc =>
      simp only [plainN, Bool.and_eq_true] at hp
      have e1 := il _ _ hp.1 ha
      have e2 := il _ _ hp.2 hc
      cases a; cases a'; cases c; cases c'; simp at e1 e2; subst e1; subst e2; rfl
    | iface t u u' h => simp only [plainN] at hp; rw [VRel.eqN k u u' hp h]
    | agg c c' h => simp only [plainN] at hp; have e := il _ _ hp h; cases c; cases c'; simp at e; subst e; rfl
    | tuple c c' h => simp only [plainN] at hp; have e := il _ _ hp h; cases c; cases c'; simp at e; subst e; rfl

theorem VRel.eq {v v' : Value} (hp : Cm.plain v = true) (h : VRel μ v v') : v' = v := VRel.eqN 6 v v' hp h

theorem VRels.eq : ∀ {l l' : List Value}, plains l = true → VRels μ l l' → l' = l
  | [], _, _, h => by cases h; rfl
  | v :: l, _, hp, h => by
    have := plains_cons.1 hp
    cases h with
    | cons _ _ _ _ h hl => rw [VRel.eq this.1 h, VRels.eq this.2 hl]

theorem VRel.ofBool {b : Bool} {v' : Value} (h : VRel μ (.bool b) v') : v' = .bool b := h.eq rfl
theorem VRel.ofInt {k : IntKind} {n : Int} {v' : Value} (h : VRel μ (.int k n) v') : v' = .int k n := h.eq rfl
theorem VRel.ofString {s : ByteArray} {v' : Value} (h : VRel μ (.string s) v') : v' = .string s := h.eq rfl

theorem VRel.ofPtr {r off : Nat} {v' : Value} (h : VRel μ (.pointer (some ⟨r, off, none⟩)) v') : ∃ L, μ r = some L ∧ v' = .pointer (some ⟨L.b, L.o + off, none⟩) := by
  cases h with
  | plain _ h => simp [Cm.plain, plainN] at h
  | ptr _ _ L h => exact ⟨L, h, rfl⟩

theorem VRel.ofSlice {a : Addr} {len cap : Nat} {v' : Value} (h : VRel μ (.slice (some a) len cap) v') :
    (∃ L, a.spot = none ∧ μ a.block = some L ∧ v' = .slice (some ⟨L.b, L.o + a.off, none⟩) len cap) ∨
    (∃ L cap', a.spot = some L.es ∧ μ a.block = some L ∧ cap ≤ cap' ∧ a.off + cap' * L.es ≤ L.ext ∧ v' = .slice (some ⟨L.b, L.o + a.off, none⟩) len cap') ∨
    (∃ a', len = 0 ∧ cap = 0 ∧ v' = .slice (some a') 0 0) := by
  cases h with
  | plain _ h => simp [Cm.plain, plainN] at h
  | slice r off _ _ L h => exact Or.inl ⟨L, rfl, h, rfl⟩
  | grown r off _ _ cap' L h hc hx => exact Or.inr (Or.inl ⟨L, cap', rfl, h, hc, hx, rfl⟩)
  | over _ a' => exact Or.inr (Or.inr ⟨a', rfl, rfl, rfl⟩)

theorem VRel.ofNilSlice {len cap : Nat} {v' : Value} (h : VRel μ (.slice none len cap) v') : v' = .slice none len cap := h.eq rfl

theorem plain_agg {c : Array Value} (h : Cm.plain (.agg c) = true) : plains c.toList = true := plains_of (k := 5) (by omega) _ h
theorem plain_tuple {c : Array Value} (h : Cm.plain (.tuple c) = true) : plains c.toList = true := plains_of (k := 5) (by omega) _ h

theorem VRel.ofAgg {c : Array Value} {v' : Value} (h : VRel μ (.agg c) v') : ∃ c', v' = .agg c' ∧ VRels μ c.toList c'.toList := by
  cases h with
  | plain _ h => exact ⟨c, rfl, VRels.plain (plain_agg h)⟩
  | agg _ c' h => exact ⟨c', rfl, h⟩
theorem VRel.ofTuple {c : Array Value} {v' : Value} (h : VRel μ (.tuple c) v') : ∃ c', v' = .tuple c' ∧ VRels μ c.toList c'.toList := by
  cases h with
  | plain _ h => exact ⟨c, rfl, VRels.plain (plain_tuple h)⟩
  | tuple _ c' h => exact ⟨c', rfl, h⟩
theorem VRel.ofFunc {f : FuncId} {a c : Array Value} {v' : Value} (h : VRel μ (.func (.func f) a c) v') :
    ∃ a' c', v' = .func (.func f) a' c' ∧ VRels μ a.toList a'.toList ∧ VRels μ c.toList c'.toList := by
  cases h with
  | plain _ h =>
    have h' : (a.toList.all (plainN 5) && c.toList.all (plainN 5)) = true := h
    simp only [Bool.and_eq_true] at h'
    exact ⟨a, c, rfl, VRels.plain (plains_of (by omega) _ h'.1), VRels.plain (plains_of (by omega) _ h'.2)⟩
  | func _ _ a' _ c' ha hc => exact ⟨a', c', rfl, ha, hc⟩
theorem VRel.ofIface {t : TypeId} {v v' : Value} (h : VRel μ (.iface t v) v') : ∃ u, v' = .iface t u ∧ VRel μ v u := by
  cases h with
  | plain _ h => exact ⟨v, rfl, .plain v (plain_of (k := 5) (by omega) v h)⟩
  | iface _ _ v' h => exact ⟨v', rfl, h⟩
theorem VRel.ofMap {r : Nat} {v' : Value} (h : VRel μ (.map (some r)) v') : ∃ L, μ r = some L ∧ v' = .map (some L.b) := by
  cases h with
  | plain _ h => simp [Cm.plain, plainN] at h
  | map _ L h => exact ⟨L, h, rfl⟩

theorem VRel.cells {v v' : Value} (h : VRel μ v v') (hj : isJunk v = false) : VRels μ v.cells.toList v'.cells.toList := by
  cases h with
  | plain v hp =>
    cases v <;> first
      | exact .cons _ _ _ _ (.plain _ hp) .nil
      | exact VRels.plain (plain_agg hp)
  | ptr r off L h => exact .cons _ _ _ _ (.ptr r off L h) .nil
  | slice r off l c L h => exact .cons _ _ _ _ (.slice r off l c L h) .nil
  | grown r off l c c' L h hc hx => exact .cons _ _ _ _ (.grown r off l c c' L h hc hx) .nil
  | over a a' => exact .cons _ _ _ _ (.over a a') .nil
  | map r L h => exact .cons _ _ _ _ (.map r L h) .nil
  | func f a a' c c' ha hc => exact .cons _ _ _ _ (.func f a a' c c' ha hc) .nil
  | iface t v v' h => exact .cons _ _ _ _ (.iface t v v' h) .nil
  | sym c n h => exact .cons _ _ _ _ (.sym c n h) .nil
  | tok c v' hc ho h =>
    have : v'.cells = #[v'] := by
      cases v' with
      | agg cs => cases ho
      | _ => rfl
    rw [this]
    exact .cons _ _ _ _ (.tok c v' hc ho h) .nil
  | arr n cs a cap l' hs hc hl hm => exact .cons _ _ _ _ (.arr n cs a cap l' hs hc hl hm) .nil
  | ref o cs b z l' hl hm => exact .cons _ _ _ _ (.ref o cs b z l' hl hm) .nil
  | any v' => simp [isJunk] at hj
  | agg c c' h => exact h
  | tuple c c' h => exact .cons _ _ _ _ (.tuple c c' h) .nil

theorem VRel.one1 {v v' : Value} (h : VRel μ v v') (ho : Cm.one1 v = true) : v'.oneCell' = true := by
  cases h with
  | plain v _ => cases v <;> first | rfl | cases ho
  | any => cases ho
  | agg => cases ho
  | tuple => cases ho
  | tok _ _ _ ho' => exact tokB_one ho'
  | _ => rfl

theorem VRels.oneCells : ∀ {l l' : List Value}, VRels μ l l' → Cm.oneCells l = true → ∀ v ∈ l', v.oneCell' = true
  | [], _, h, _ => by cases h; intro v hv; simp at hv
  | x :: l, _, h, ho => by
    cases h with
    | cons _ y _ m h hl =>
      unfold Cm.oneCells at ho
      cases hx : Cm.one1 x with
      | false => rw [hx] at ho; cases ho
      | true =>
        rw [hx] at ho
        intro v hv
        rcases List.mem_cons.1 hv with e | e
        · subst e; exact h.one1 hx
        · exact hl.oneCells ho v e
end

/-- More names: what stood still stands. -/
structure Mu.le (μ μ' : Mu) : Prop where
  at_ : ∀ r L, μ r = some L → μ' r = some L
  fz : ∀ b o, μ.fz b = some o → μ'.fz b = some o
  sy : μ'.sy = μ.sy
instance {μ μ' : Mu} : CoeFun (Mu.le μ μ') (fun _ => ∀ r L, μ r = some L → μ' r = some L) := ⟨Mu.le.at_⟩

theorem objAt_mono {fz fz' : Nat → Option Obj} (h : ∀ b o, fz b = some o → fz' b = some o) {b o : Nat} {v : Value} (hv : objAt fz b o = some v) : objAt fz' b o = some v := by
  unfold objAt at hv ⊢
  cases hb : fz b with
  | none => rw [hb] at hv; cases hv
  | some x => rw [hb] at hv; rw [h b x hb]; exact hv

mutual
theorem Cold.mono {fz fz' : Nat → Option Obj} (hm : ∀ b o, fz b = some o → fz' b = some o) {v v' : Value} : Cold fz v v' → Cold fz' v v'
  | .plain v h => .plain v h
  | .arr n cs a cap l' hs hc hl h => .arr n cs a cap l' hs hc (Colds.mono hm hl) fun i v hv => objAt_mono hm (h i v hv)
  | .ref o cs b z l' hl h => .ref o cs b z l' (Colds.mono hm hl) fun i v hv => objAt_mono hm (h i v hv)
  | .agg c c' h => .agg c c' (Colds.mono hm h)
theorem Colds.mono {fz fz' : Nat → Option Obj} (hm : ∀ b o, fz b = some o → fz' b = some o) {l l' : List Value} : Colds fz l l' → Colds fz' l l'
  | .nil => .nil
  | .cons v v' l l' h hl => .cons v v' l l' (Cold.mono hm h) (Colds.mono hm hl)
end
mutual
theorem Cold.rel {μ : Mu} {v v' : Value} : Cold μ.fz v v' → VRel μ v v'
  | .plain v h => .plain v h
  | .arr n cs a cap l' hs hc hl h => .arr n cs a cap l' hs hc hl h
  | .ref o cs b z l' hl h => .ref o cs b z l' hl h
  | .agg c c' h => .agg c c' (Colds.rel h)
theorem Colds.rel {μ : Mu} {l l' : List Value} : Colds μ.fz l l' → VRels μ l l'
  | .nil => .nil
  | .cons v v' l l' h hl => .cons v v' l l' (Cold.rel h) (Colds.rel hl)
end
theorem Colds.length {fz : Nat → Option Obj} : ∀ {l l' : List Value}, Colds fz l l' → l'.length = l.length
  | [], _, h => by cases h; rfl
  | _ :: l, _, h => by cases h with | cons v v' l l' h hl => simp [hl.length]
theorem Colds.get {fz : Nat → Option Obj} : ∀ {l l' : List Value}, Colds fz l l' → ∀ (i : Nat) (v : Value), l[i]? = some v → ∃ v', l'[i]? = some v' ∧ Cold fz v v'
  | [], _, _, i, v, h => by simp at h
  | x :: l, _, h, i, v, hv => by
    cases h with
    | cons _ v' _ l' h hl =>
      cases i with
      | zero => simp at hv; subst hv; exact ⟨v', rfl, h⟩
      | succ i => simp at hv; obtain ⟨u, hu, hr⟩ := hl.get i v hv; exact ⟨u, by simpa using hu, hr⟩
theorem Colds.of_get {fz : Nat → Option Obj} : ∀ (l l' : List Value), l'.length = l.length → (∀ (i : Nat) (v : Value), l[i]? = some v → ∃ v', l'[i]? = some v' ∧ Cold fz v v') → Colds fz l l'
  | [], l', hl, _ => by cases l' with | nil => exact .nil | cons => simp at hl
  | x :: l, l', hl, h => by
    cases l' with
    | nil => simp at hl
    | cons y l' =>
      obtain ⟨v', h0, hr⟩ := h 0 x rfl
      simp at h0; subst h0
      exact .cons _ _ _ _ hr (Colds.of_get l l' (by simpa using hl) fun i v hv => by
        obtain ⟨u, hu, hur⟩ := h (i + 1) v (by simpa using hv)
        exact ⟨u, by simpa using hu, hur⟩)
theorem Colds.take {fz : Nat → Option Obj} {l l' : List Value} (h : Colds fz l l') (n : Nat) : Colds fz (l.take n) (l'.take n) :=
  Colds.of_get _ _ (by simp [h.length]) fun i v hv => by
    rw [List.getElem?_take] at hv
    split at hv
    · rename_i hi
      obtain ⟨u, hu, hr⟩ := h.get i v hv
      exact ⟨u, by rw [List.getElem?_take, if_pos hi]; exact hu, hr⟩
    · cases hv
theorem Colds.drop {fz : Nat → Option Obj} {l l' : List Value} (h : Colds fz l l') (n : Nat) : Colds fz (l.drop n) (l'.drop n) :=
  Colds.of_get _ _ (by simp [h.length]) fun i v hv => by
    rw [List.getElem?_drop] at hv ⊢
    exact h.get _ v hv

theorem asFz_some {v : Value} {p : Nat × Nat × List Value} : asFz v = some p ↔ v = .func (.yield p.1) ⟨p.2.2⟩ #[.int .i64 (.ofNat p.2.1)] := by
  obtain ⟨k, n, cs⟩ := p
  constructor
  · intro h
    unfold asFz at h
    split at h
    · rename_i k' cs' c
      split at h
      · rename_i n' hc
        simp only [Option.some.injEq, Prod.mk.injEq] at h
        obtain ⟨rfl, rfl, rfl⟩ := h
        obtain ⟨cl⟩ := c
        simp only at hc
        subst hc
        rfl
      · cases h
    · cases h
  · rintro rfl; rfl

/-- What a cold slice is. -/
theorem VRel.ofArr {μ : Mu} {n : Nat} {cs : List Value} {v' : Value} (h : VRel μ (.func (.yield 0) ⟨cs⟩ #[.int .i64 (.ofNat n)]) v') :
    ∃ (a : Addr) (cap : Nat) (l' : List Value), v' = .slice (some a) n cap ∧ (n = 0 ∨ a.spot = none) ∧ n ≤ cap ∧ Colds μ.fz cs l' ∧ ∀ (i : Nat) (v : Value), l'[i]? = some v → objAt μ.fz a.block (a.off + i) = some v := by
  cases h with
  | plain _ h => simp [Cm.plain, plainN] at h
  | arr _ _ a cap l' hs hc hl hm => exact ⟨a, cap, l', rfl, hs, hc, hl, hm⟩
theorem VRel.ofRef {μ : Mu} {o : Nat} {cs : List Value} {v' : Value} (h : VRel μ (.func (.yield 1) ⟨cs⟩ #[.int .i64 (.ofNat o)]) v') :
    ∃ (b z : Nat) (l' : List Value), v' = .pointer (some ⟨b, z + o, none⟩) ∧ Colds μ.fz cs l' ∧ ∀ (i : Nat) (v : Value), l'[i]? = some v → objAt μ.fz b (z + i) = some v := by
  cases h with
  | plain _ h => simp [Cm.plain, plainN] at h
  | ref _ _ b z l' hl hm => exact ⟨b, z, l', rfl, hl, hm⟩

mutual
theorem VRel.mono {μ μ' : Mu} (hm : μ.le μ') {v v' : Value} : VRel μ v v' → VRel μ' v v'
  | .plain v h => .plain v h
  | .ptr r off L h => .ptr r off L (hm _ _ h)
  | .slice r off len cap L h => .slice r off len cap L (hm _ _ h)
  | .grown r off len cap cap' L h hc hx => .grown r off len cap cap' L (hm _ _ h) hc hx
  | .over a a' => .over a a'
  | .map r L h => .map r L (hm _ _ h)
  | .func f a a' c c' ha hc => .func f a a' c c' (VRels.mono hm ha) (VRels.mono hm hc)
  | .iface t v v' h => .iface t v v' (VRel.mono hm h)
  | .sym c n h => .sym c n h
  | .tok c v' hc ho h => .tok c v' hc ho (by rw [hm.sy]; exact h)
  | .arr n cs a cap l' hs hc hl h => .arr n cs a cap l' hs hc (Colds.mono hm.fz hl) fun i v hv => objAt_mono hm.fz (h i v hv)
  | .ref o cs b z l' hl h => .ref o cs b z l' (Colds.mono hm.fz hl) fun i v hv => objAt_mono hm.fz (h i v hv)
  | .any v' => .any v'
  | .agg c c' h => .agg c c' (VRels.mono hm h)
  | .tuple c c' h => .tuple c c' (VRels.mono hm h)
theorem VRels.mono {μ μ' : Mu} (hm : μ.le μ') {l l' : List Value} : VRels μ l l' → VRels μ' l l'
  | .nil => .nil
  | .cons v v' l l' h hl => .cons v v' l l' (VRel.mono hm h) (VRels.mono hm hl)
end

end Go.Cm
namespace Go.Cm
open Go Go.RowKit

/-- An entry of a map. -/
inductive ERels (μ : Mu) : List MapEntry → List MapEntry → Prop
  | nil : ERels μ [] []
  | cons (e e' : MapEntry) (l l' : List MapEntry) (hk : plain e.key = true) (hk' : e'.key = e.key) (hv : VRel μ e.val e'.val) (hb : e'.born = e.born) (hl : ERels μ l l') : ERels μ (e :: l) (e' :: l')

/-- A block of cells whose frozen part, if there is one, lies behind a place in it. -/
def Marked (w : World) (L : Place) : Prop := ((L.es = 0 → L.o = 0) ∧ L.es < tagT) ∧ ∃ (c : Array Value) (e : TypeId) (fr : Nat × Nat), w.heap[L.b]? = some (.cells c e fr) ∧ L.o + L.ext ≤ c.size ∧ (fr.1 = fr.2 ∨ (L.o + L.ext ≤ fr.1 ∧ fr.1 < fr.2)) ∧ (L.ty = 0 ∨ L.ty = e + 1)

theorem codeE_zero (es : Nat) : codeE es 0 = es := rfl
theorem sizeE_code {es : Nat} (h : es < tagT) (ty : Nat) : sizeE (codeE es ty) = es := by
  show (es + tagT * ty) % tagT = es
  rw [Nat.add_mul_mod_self_left, Nat.mod_eq_of_lt h]
theorem codeE_inj {a b t u : Nat} (ha : a < tagT) (hb : b < tagT) (h : codeE a t = codeE b u) : a = b ∧ t = u := by
  have h1 := sizeE_code ha t
  rw [h, sizeE_code hb u] at h1
  subst h1
  have h2 : b + tagT * t = b + tagT * u := h
  have h3 : tagT * t = tagT * u := by omega
  exact ⟨rfl, Nat.eq_of_mul_eq_mul_left (by unfold tagT; omega) h3⟩

theorem Marked.setCell {w : World} {L : Place} (h : Marked w L) (o : Nat) (v : Value) : Marked (w.setCell ⟨L.b, o, none⟩ v) L := by
  obtain ⟨h0, c, e, fr, h1, h2, h3⟩ := h
  refine ⟨h0, c.setIfInBounds o v, e, fr, ?_, by simpa using h2, h3⟩
  simp only [World.setCell, Array.getElem?_modify, if_true, h1, Option.map_some]
  rfl
theorem Marked.setCells {L : Place} : ∀ (vs : List Value) (o : Nat) (w : World), Marked w L → Marked (w.setCells L.b o vs) L
  | [], _, _, h => h
  | v :: vs, o, w, h => by rw [World.setCells]; exact Marked.setCells vs (o + 1) _ (h.setCell o v)
theorem Marked.alloc (w : World) (c : Array Value) (t : TypeId) (es ty n : Nat) (h : n ≤ c.size) (he : es < tagT) (ht : ty = 0 ∨ ty = t + 1) : Marked (w.alloc (.cells c t)) ⟨w.heap.size, 0, n, es, ty⟩ := by
  refine ⟨⟨fun _ => rfl, he⟩, c, t, (0, 0), ?_, by simpa using h, Or.inl rfl, ht⟩
  show (w.heap.push _)[w.heap.size]? = _
  simp

def RowOk (base : Nat) (μ : Mu) (w : World) (L : Place) : Row → Prop
  | .cells ro es cs => (∀ (i : Nat) (v : Value), cs[i]? = some v → ∃ v', w.cell? ⟨L.b, L.o + i, none⟩ = some v' ∧ VRel μ v v') ∧ cs.length ≤ L.ext ∧
      (ro = false → (base ≤ L.b ∧ Marked w L) ∧ es = codeE L.es L.ty ∧ ∀ i, i < L.ext → (w.cell? ⟨L.b, L.o + i, none⟩).isSome = true ∧ w.frozen? ⟨L.b, L.o + i, none⟩ = false)
  | .map es clock => base ≤ L.b ∧ ∃ es' : List MapEntry, w.heap[L.b]? = some (.map ⟨es'⟩ clock) ∧ ERels μ es es'
  | .iter s pos => base ≤ L.b ∧ L.o = 0 ∧ w.heap[L.b]? = some (.stringIter s pos)

def Row.free : Row → Bool
  | .cells ro _ _ => !ro
  | _ => true

structure SRel (base : Nat) (μ : Mu) (R : Nat → Option Row) (w : World) : Prop where
  ge : base ≤ w.heap.size
  dom : ∀ r x L, R r = some x → μ r = some L → L.b < w.heap.size
  row : ∀ r x, R r = some x → ∃ L, μ r = some L ∧ RowOk base μ w L x
  apart : ∀ r q x y L K, r ≠ q → R r = some x → R q = some y → μ r = some L → μ q = some K → x.free = true → L.b ≠ K.b
  cold : ∀ b o, μ.fz b = some o → w.heap[b]? = some o
  hot : ∀ r x L, R r = some x → x.free = true → μ r = some L → μ.fz L.b = none
  old : ∀ r x L, R r = some x → μ r = some L → base ≤ L.b ∨ μ.fz L.b ≠ none

theorem SRel.coldNew {base : Nat} {μ : Mu} {R : Nat → Option Row} {w : World} (h : SRel base μ R w) {b : Nat} (hb : w.heap.size ≤ b) : μ.fz b = none := by
  cases e : μ.fz b with
  | none => rfl
  | some o =>
    have := h.cold b o e
    rw [Array.getElem?_eq_none hb] at this
    cases this

structure Grew (base : Nat) (μ μ' : Mu) (n n' : Nat) (w w' : World) : Prop where
  le : μ.le μ'
  new : ∀ r, μ r = none → μ' r ≠ none → n ≤ r ∧ r < n'
  fzn : ∀ b, μ.fz b = none → μ'.fz b ≠ none → base ≤ b
  below : Below base w w'

theorem Mu.le_refl (μ : Mu) : μ.le μ := ⟨fun _ _ h => h, fun _ _ h => h, rfl⟩
theorem Mu.le_trans {a b c : Mu} (h : a.le b) (k : b.le c) : a.le c := ⟨fun r L e => k.at_ r L (h.at_ r L e), fun r L e => k.fz r L (h.fz r L e), k.sy.trans h.sy⟩

theorem Grew.refl (base : Nat) (μ : Mu) (n n' : Nat) (w : World) : Grew base μ μ n n' w w := ⟨Mu.le_refl μ, fun _ h h' => absurd h h', fun _ h h' => absurd h h', Below.refl _ _⟩
theorem Grew.trans {base : Nat} {μ1 μ2 μ3 : Mu} {n1 n2 n3 : Nat} {w1 w2 w3 : World} (h : Grew base μ1 μ2 n1 n2 w1 w2) (k : Grew base μ2 μ3 n2 n3 w2 w3)
    (h12 : n1 ≤ n2) (h23 : n2 ≤ n3) : Grew base μ1 μ3 n1 n3 w1 w3 :=
  ⟨Mu.le_trans h.le k.le, fun r a b => by
    cases e : μ2.at_ r with
    | none => have := k.new r e b; omega
    | some L => have := h.new r a (by rw [e]; simp); omega, fun r a b => by
    cases e : μ2.fz r with
    | none => exact k.fzn r e b
    | some L => exact h.fzn r a (by rw [e]; simp), h.below.trans k.below⟩

theorem ERels.mono {μ μ' : Mu} (hm : μ.le μ') : ∀ {l l' : List MapEntry}, ERels μ l l' → ERels μ' l l'
  | _, _, .nil => .nil
  | _, _, .cons e e' l l' hk hk' hv hb hl => .cons e e' l l' hk hk' (hv.mono hm) hb (ERels.mono hm hl)

theorem cell?_block {w w' : World} {b : Nat} (h : w'.heap[b]? = w.heap[b]?) (o : Nat) : w'.cell? ⟨b, o, none⟩ = w.cell? ⟨b, o, none⟩ := by
  unfold World.cell?; simp only [h]
theorem frozen?_block {w w' : World} {b : Nat} (h : w'.heap[b]? = w.heap[b]?) (o : Nat) : w'.frozen? ⟨b, o, none⟩ = w.frozen? ⟨b, o, none⟩ := by
  unfold World.frozen?; simp only [h]

theorem RowOk.move {base : Nat} {μ μ' : Mu} (hm : μ.le μ') {w w' : World} {L : Place} (h : w'.heap[L.b]? = w.heap[L.b]?) {x : Row} (hr : RowOk base μ w L x) : RowOk base μ' w' L x := by
  cases x with
  | cells ro es cs =>
    obtain ⟨h1, h2, h3⟩ := hr
    refine ⟨fun i v hv => ?_, h2, fun hro => ?_⟩
    · obtain ⟨v', hc, hv'⟩ := h1 i v hv
      exact ⟨v', by rw [cell?_block h]; exact hc, hv'.mono hm⟩
    · obtain ⟨a, b, c⟩ := h3 hro
      refine ⟨⟨a.1, ?_⟩, b, fun i hi => by rw [cell?_block h, frozen?_block h]; exact c i hi⟩
      obtain ⟨k0, c, e, fr, k1, k2⟩ := a.2
      exact ⟨k0, c, e, fr, by rw [h]; exact k1, k2⟩
  | map es clock => obtain ⟨h1, es', h2, h3⟩ := hr; exact ⟨h1, es', by rw [h]; exact h2, h3.mono hm⟩
  | iter s pos => exact ⟨hr.1, hr.2.1, by rw [h]; exact hr.2.2⟩

/-- Where the world has only grown. -/
theorem SRel.grow {base : Nat} {μ : Mu} {R : Nat → Option Row} {w w' : World} (h : SRel base μ R w) (hb : Below w.heap.size w w') : SRel base μ R w' where
  ge := Nat.le_trans h.ge hb.size
  dom := fun r x L hx e => Nat.lt_of_lt_of_le (h.dom r x L hx e) hb.size
  row := fun r x e => by
    obtain ⟨L, hL, hr⟩ := h.row r x e
    exact ⟨L, hL, hr.move (Mu.le_refl μ) (hb.block _ (h.dom r x L e hL))⟩
  apart := h.apart
  cold := fun b o e => by
    have := h.cold b o e
    rw [hb.block b ((Array.getElem?_eq_some_iff.1 this).1)]; exact this
  hot := h.hot
  old := h.old

theorem SRel.less {base : Nat} {μ : Mu} {R R' : Nat → Option Row} {w : World} (h : SRel base μ R w) (hs : ∀ r x, R' r = some x → R r = some x) : SRel base μ R' w where
  ge := h.ge
  dom := fun r x L hx e => h.dom r x L (hs r x hx) e
  row := fun r x e => h.row r x (hs r x e)
  apart := fun r q x y L K hne hx hy => h.apart r q x y L K hne (hs r x hx) (hs q y hy)
  cold := h.cold
  hot := fun r x L hx => h.hot r x L (hs r x hx)
  old := fun r x L hx => h.old r x L (hs r x hx)

def Mu.with (μ : Mu) (n : Nat) (L : Place) : Mu := { μ with at_ := fun r => if r = n then some L else μ r }
theorem Mu.with_eq (μ : Mu) (n : Nat) (L : Place) (r : Nat) : (μ.with n L) r = if r = n then some L else μ r := rfl
theorem Mu.le_with {μ : Mu} {n : Nat} (h : μ n = none) (L : Place) : μ.le (μ.with n L) := ⟨fun r K e => by
  show (if r = n then some L else μ r) = some K
  rw [if_neg (fun hr => by subst hr; rw [h] at e; exact nomatch e)]; exact e, fun _ _ h => h, rfl⟩
theorem Mu.with_at (μ : Mu) (n : Nat) (L : Place) : μ.with n L n = some L := by simp [Mu.with]

/-- A new row, in a new block. -/
theorem SRel.extend {base : Nat} {μ : Mu} {R R' : Nat → Option Row} {w w' : World} (h : SRel base μ R w) (n : Nat) (hn : μ n = none) (x : Row) (L : Place)
    (hb : Below w.heap.size w w') (h1 : w.heap.size ≤ L.b) (h2 : L.b < w'.heap.size) (hx : RowOk base (μ.with n L) w' L x)
    (hR : ∀ r, R' r = if r = n then some x else R r) : SRel base (μ.with n L) R' w' where
  ge := Nat.le_trans h.ge hb.size
  dom := fun r y K hy e => by
    rw [hR] at hy
    rw [Mu.with_eq] at e
    by_cases hr : r = n
    · rw [if_pos hr] at e; injection e with e; subst e; exact h2
    · rw [if_neg hr] at e hy; exact Nat.lt_of_lt_of_le (h.dom r y K hy e) hb.size
  row := fun r y e => by
    rw [hR] at e
    by_cases hr : r = n
    · subst hr; rw [if_pos rfl] at e; injection e with e; subst e
      exact ⟨L, Mu.with_at _ _ _, hx⟩
    · rw [if_neg hr] at e
      obtain ⟨K, hK, hr'⟩ := h.row r y e
      exact ⟨K, by rw [Mu.with_eq]; rw [if_neg hr]; exact hK, hr'.move (Mu.le_with hn L) (hb.block _ (h.dom r y K e hK))⟩
  apart := fun r q y z K1 K2 hne hy hz e1 e2 hf => by
    rw [hR] at hy hz
    rw [Mu.with_eq] at e1 e2
    by_cases hr : r = n
    · rw [if_pos hr] at e1; injection e1 with e1; subst e1
      have hq : q ≠ n := fun hq => hne (hr.trans hq.symm)
      rw [if_neg hq] at e2 hz
      have := h.dom q z K2 hz e2
      omega
    · rw [if_neg hr] at e1 hy
      by_cases hq : q = n
      · rw [if_pos hq] at e2; injection e2 with e2; subst e2
        have := h.dom r y K1 hy e1
        omega
      · rw [if_neg hq] at e2 hz
        exact h.apart r q y z K1 K2 hne hy hz e1 e2 hf
  cold := fun b o e => by
    have := h.cold b o e
    rw [hb.block b ((Array.getElem?_eq_some_iff.1 this).1)]; exact this
  hot := fun r y K hy hf e => by
    rw [hR] at hy
    rw [Mu.with_eq] at e
    show μ.fz K.b = none
    by_cases hr : r = n
    · rw [if_pos hr] at e; injection e with e; subst e; exact h.coldNew h1
    · rw [if_neg hr] at e hy; exact h.hot r y K hy hf e
  old := fun r y K hy e => by
    rw [hR] at hy
    rw [Mu.with_eq] at e
    by_cases hr : r = n
    · rw [if_pos hr] at e; injection e with e; subst e; exact Or.inl (Nat.le_trans h.ge h1)
    · rw [if_neg hr] at e hy; exact h.old r y K hy e

/-- A row of one's own, written. -/
theorem SRel.turn {base : Nat} {μ : Mu} {R R' : Nat → Option Row} {w w' : World} (h : SRel base μ R w) (r : Nat) (x : Row) (L : Place) (hr : R r = some x) (hf : x.free = true) (hL : μ r = some L)
    (hs : w'.heap.size = w.heap.size) (hb : ∀ b, b ≠ L.b → w'.heap[b]? = w.heap[b]?) (y : Option Row) (hy : ∀ z, y = some z → RowOk base μ w' L z)
    (hR : ∀ q, R' q = if q = r then y else R q) : SRel base μ R' w' where
  ge := by rw [hs]; exact h.ge
  dom := fun q z K hz e => by
    rw [hs]
    rw [hR] at hz
    by_cases hq : q = r
    · subst hq; rw [hL] at e; injection e with e; subst e; exact h.dom q x L hr hL
    · rw [if_neg hq] at hz; exact h.dom q z K hz e
  row := fun q z e => by
    rw [hR] at e
    by_cases hq : q = r
    · subst hq; rw [if_pos rfl] at e; exact ⟨L, hL, hy z e⟩
    · rw [if_neg hq] at e
      obtain ⟨K, hK, hk⟩ := h.row q z e
      exact ⟨K, hK, hk.move (Mu.le_refl μ) (hb _ fun e' => h.apart r q x z L K (fun e => hq e.symm) hr e hL hK hf e'.symm)⟩
  apart := fun p q a b K1 K2 hne ha hb' e1 e2 hfa => by
    rw [hR] at ha hb'
    by_cases hp : p = r
    · subst hp
      have hq : q ≠ p := fun e => hne e.symm
      rw [if_neg hq] at hb'
      rw [hL] at e1; injection e1 with e1; subst e1
      exact h.apart p q x b L K2 hne hr hb' hL e2 hf
    · rw [if_neg hp] at ha
      by_cases hq : q = r
      · subst hq
        rw [hL] at e2; injection e2 with e2; subst e2
        exact fun e => h.apart q p x a L K1 (fun e => hne e.symm) hr ha hL e1 hf e.symm
      · rw [if_neg hq] at hb'
        exact h.apart p q a b K1 K2 hne ha hb' e1 e2 hfa
  cold := fun b o e => by
    rw [hb b (fun e' => by subst e'; rw [h.hot r x L hr hf hL] at e; cases e)]
    exact h.cold b o e
  hot := fun q a K ha hfa e => by
    rw [hR] at ha
    by_cases hq : q = r
    · subst hq; rw [hL] at e; injection e with e; subst e; exact h.hot q x L hr hf hL
    · rw [if_neg hq] at ha; exact h.hot q a K ha hfa e
  old := fun q a K ha e => by
    rw [hR] at ha
    by_cases hq : q = r
    · subst hq; rw [hL] at e; injection e with e; subst e; exact h.old q x L hr hL
    · rw [if_neg hq] at ha; exact h.old q a K ha e

/-! ### What a piece of the machine that answers has done -/

theorem bind_some {α β : Type} {m : M α} {f : α → M β} {s : St} {p : β × St} : M.bind m f s = some p ↔ ∃ a s1, m s = some (a, s1) ∧ f a s1 = some p := by
  rw [M.bind_eq]
  cases h : m s with
  | none => simp
  | some q =>
    obtain ⟨a, s1⟩ := q
    simp only [Option.some.injEq, Prod.mk.injEq]
    exact ⟨fun h => ⟨a, s1, ⟨rfl, rfl⟩, h⟩, fun ⟨_, _, ⟨e1, e2⟩, h⟩ => by subst e1; subst e2; exact h⟩
theorem pure_some {α : Type} {a b : α} {s s' : St} : M.pure a s = some (b, s') ↔ b = a ∧ s' = s := by
  unfold M.pure; simp only [Option.some.injEq, Prod.mk.injEq]; exact ⟨fun h => ⟨h.1.symm, h.2.symm⟩, fun h => ⟨h.1.symm, h.2.symm⟩⟩
theorem lift_some {α : Type} {o : Option α} {b : α} {s s' : St} : M.lift o s = some (b, s') ↔ o = some b ∧ s' = s := by
  rw [M.lift_eq]
  cases o with
  | none => simp
  | some a => simp only [Option.some.injEq, Prod.mk.injEq]; exact ⟨fun h => ⟨h.1, h.2.symm⟩, fun h => ⟨h.1, h.2.symm⟩⟩
theorem fail_some {α : Type} {s : St} {p : α × St} : (M.fail : M α) s = some p ↔ False := by simp [M.fail]
theorem guard_some {b : Bool} {s s' : St} : M.guard b s = some ((), s') ↔ b = true ∧ s' = s := by
  unfold M.guard; cases b <;> simp; exact ⟨fun h => h.symm, fun h => h.symm⟩
theorem guardO_some {b : Bool} {u : Unit} : guardO b = some u ↔ b = true := by cases b <;> simp [guardO]
theorem lift_bind {α β : Type} {o : Option α} {f : α → M β} {s : St} {p : β × St} : M.bind (M.lift o) f s = some p ↔ ∃ a, o = some a ∧ f a s = some p := by
  rw [bind_some]
  constructor
  · rintro ⟨a, s1, h, k⟩; obtain ⟨h1, rfl⟩ := lift_some.1 h; exact ⟨a, h1, k⟩
  · rintro ⟨a, h, k⟩; exact ⟨a, s, lift_some.2 ⟨h, rfl⟩, k⟩
theorem guard_bind {β : Type} {b : Bool} {f : Unit → M β} {s : St} {p : β × St} : M.bind (M.guard b) f s = some p ↔ b = true ∧ f () s = some p := by
  rw [bind_some]
  constructor
  · rintro ⟨a, s1, h, k⟩; obtain ⟨h1, rfl⟩ := guard_some.1 h; exact ⟨h1, k⟩
  · rintro ⟨h, k⟩; exact ⟨(), s, guard_some.2 ⟨h, rfl⟩, k⟩
theorem row_bind {β : Type} {r : Nat} {f : Row → M β} {s : St} {p : β × St} : M.bind (M.row r) f s = some p ↔ Nat.blt r s.next = true ∧ ∃ x, s.rows.get r = some x ∧ f x { s with log := r :: s.log } = some p := by
  rw [M.bind_eq, M.row_eq]
  cases hb : Nat.blt r s.next with
  | false => simp
  | true =>
    cases h : s.rows.get r with
    | none => simp
    | some x => simp
theorem turn_some {r : Nat} {y : Option Row} {s s' : St} : M.turn r y s = some ((), s') ↔
    Nat.blt r s.next = true ∧ (∃ x, s.rows.get r = some x) ∧ Nat.ble r 1000000000 = true ∧ s' = { s with rows := D.put y deep s.rows r, log := r :: s.log, wlog := r :: s.wlog } := by
  rw [M.turn_eq]
  cases hb : Nat.blt r s.next with
  | false => simp
  | true =>
    cases h : s.rows.get r with
    | none => simp
    | some x => cases hb : Nat.ble r 1000000000 <;> simp; constructor <;> exact fun h => h.symm
theorem fresh_bind {β : Type} {x : Row} {f : Nat → M β} {s : St} {p : β × St} : M.bind (M.fresh x) f s = some p ↔
    Nat.ble s.next 1000000000 = true ∧ f s.next { s with rows := D.put (some x) deep s.rows s.next, next := Nat.succ s.next } = some p := by
  rw [M.bind_eq, M.fresh_eq]
  cases hb : Nat.ble s.next 1000000000 <;> simp

theorem asRef_some {v : Value} {p : Nat × Nat} : asRef v = some p ↔ v = .pointer (some ⟨p.1, p.2, none⟩) := by
  unfold asRef
  split
  · simp only [Option.some.injEq]
    constructor
    · intro h; subst h; rfl
    · intro h; injection h with h; injection h with h; injection h with h1 h2; obtain ⟨a, b⟩ := p; simp at h1 h2; rw [h1, h2]
  · rename_i hn
    simp only [reduceCtorEq, false_iff]
    intro h; exact hn _ _ h
theorem asSlice_some {v : Value} {p : Option Addr × Nat × Nat} : asSlice v = some p ↔ v = .slice p.1 p.2.1 p.2.2 := by
  unfold asSlice
  split
  · simp only [Option.some.injEq]
    constructor
    · intro h; subst h; rfl
    · intro h; injection h with h1 h2 h3; obtain ⟨a, b, c⟩ := p; simp at h1 h2 h3; rw [h1, h2, h3]
  · rename_i hn
    simp only [reduceCtorEq, false_iff]
    intro h; exact hn _ _ _ h
theorem asAggA_some {v : Value} {l : List Value} : asAggA v = some l ↔ ∃ c, v = .agg c ∧ c.toList = l := by
  cases v <;> simp [asAggA]
theorem asStr_some {v : Value} {s : ByteArray} : asStr v = some s ↔ v = .string s := by
  cases v <;> simp [asStr]
theorem idx_some {v : Value} {n : Nat} : idx v = some n ↔ ∃ k, v = .int k (.ofNat n) := by
  unfold idx
  split
  · constructor
    · intro h; injection h with h; subst h; exact ⟨_, rfl⟩
    · rintro ⟨k, h⟩; injection h with h1 h2; injection h2 with h2; rw [h2]
  · rename_i hn
    simp only [reduceCtorEq, false_iff, not_exists]
    exact fun k h => hn _ _ h
theorem sliceT_some {d : TypeDesc} {e : TypeId} : sliceT d = some e ↔ d = .slice e := by cases d <;> simp [sliceT]
theorem structT_some {d : TypeDesc} {e : Array Field} : structT d = some e ↔ d = .struct e := by cases d <;> simp [structT]
theorem cellsR_some {x : Row} {cs : List Value} : cellsR x = some cs ↔ ∃ ro es, x = .cells ro es cs := by cases x <;> simp [cellsR]
theorem ownR_some {x : Row} {p : Nat × List Value} : ownR x = some p ↔ x = .cells false p.1 p.2 := by
  cases x with
  | cells ro es cs => cases ro <;> simp [ownR]; constructor
                      · intro h; subst h; exact ⟨rfl, rfl⟩
                      · rintro ⟨h1, h2⟩; rw [h1, h2]
  | map => simp [ownR]
  | iter => simp [ownR]

end Go.Cm
namespace Go.Cm
open Go Go.RowKit

/-- A call of which is known beforehand what it answers, and that of what there was nothing turns. -/
def Known (P : Program) (f : FuncId) (args : Array Value) (v : Value) (w : World) : Prop :=
  (∃ w', (callFunc f args).run P w = .ok (.value v) w' ∧ Below w.heap.size w w') ∨
  ((callFunc f args).run P w = .ok (.enter f args) w ∧ Calls P f args w fun e w' => e = .returned v ∧ Below w.heap.size w w')

/-- What comes of a call of cold things: a value, with rows of its own; all else that it shows is cold. -/
structure DeepRes (fz : Nat → Option Obj) (w w' : World) (μ : Mu) (v v' : Value) (rows : List (Nat × List Value)) : Prop where
  le : ∀ b o, fz b = some o → μ.fz b = some o
  new : ∀ b, fz b = none → μ.fz b ≠ none → w.heap.size ≤ b
  below : Below w.heap.size w w'
  rel : VRel μ v v'
  srel : SRel w.heap.size μ (fun k => (rows[k]?).map fun r => .cells false r.1 r.2) w'
  dom : ∀ k L, μ k = some L → k < rows.length
def DeepOk (P : Program) (f : FuncId) (ds : List Value) (v : Value) (rows : List (Nat × List Value)) : Prop :=
  ∀ (fz : Nat → Option Obj) (w : World) (args' : Array Value), (∀ b o, fz b = some o → w.heap[b]? = some o) → Colds fz ds args'.toList →
    Calls P f args' w fun e w' => ∃ v' μ, e = .returned v' ∧ DeepRes fz w w' μ v v' rows

/-- What a plain value, or a token, stands for. -/
def TokV (sy : Nat → Value → Prop) (v v' : Value) : Prop := (plain v = true ∧ v' = v) ∨ ∃ c, 3802951800684688204490109616128 ≤ c ∧ tokB v' = true ∧ v = .chan (some c) ∧ sy c v'
theorem TokV.rel {μ : Mu} {v v' : Value} (h : TokV μ.sy v v') : VRel μ v v' := by
  rcases h with ⟨hp, rfl⟩ | ⟨c, hc, ho, rfl, h⟩
  · exact .plain _ hp
  · exact .tok c v' hc ho h
theorem isTok_some {v : Value} (h : isTok v = true) : ∃ c, 3802951800684688204490109616128 ≤ c ∧ v = .chan (some c) := by
  unfold isTok at h
  split at h
  · exact ⟨_, Nat.le_of_ble_eq_true h, rfl⟩
  · cases h
theorem TokV.of {μ : Mu} {v v' : Value} (h : VRel μ v v') (ht : tokish v = true) : TokV μ.sy v v' := by
  unfold tokish at ht
  cases hb : isTok v with
  | true =>
    obtain ⟨c, hc, rfl⟩ := isTok_some hb
    right
    cases h with
    | plain _ hp => simp [Cm.plain, plainN] at hp
    | sym _ n hs => have := hs.1; omega
    | tok _ _ _ ho hs => exact ⟨c, hc, ho, rfl, hs⟩
  | false =>
    rw [hb, cond_false] at ht
    exact Or.inl ⟨ht, h.eq ht⟩

/-- What 'f' answers where it is handed the closure 'g' over a cell that holds a map of whole numbers: the keys, sorted, in new memory. -/
def SkOk (P : Program) (f g : FuncId) : Prop := ∀ (w : World) (bp b : Nat) (es : List MapEntry) (clock : Nat) (ks : List Int), w.cell? ⟨bp, 0, none⟩ = some (.map (some b)) → w.heap[b]? = some (.map ⟨es⟩ clock) →
  es.map (·.key) = ks.map (Value.int .i64) → (∀ n, n ∈ ks → -9223372036854775808 ≤ n ∧ n ≤ 9223372036854775807) → ks.Nodup → (es.map (·.born)).Nodup → (∀ x, x ∈ es → x.born < clock) → ks.length ≤ 1000 →
  Calls P f #[.func (.func g) #[] #[.pointer (some ⟨bp, 0, none⟩)]] w fun e w' => ∃ v ss, e = .returned v ∧ Below w.heap.size w w' ∧ ss.Perm ks ∧ ss.Pairwise (· ≤ ·) ∧ ((ss = [] ∧ v = .slice none 0 0) ∨
    ∃ blk cap cur t, ss ≠ [] ∧ v = .slice (some ⟨blk, 0, none⟩) ss.length cap ∧ w.heap.size ≤ blk ∧ w'.heap[blk]? = some (.cells cur t (0, 0)) ∧ ss.length ≤ cap ∧ cur.size = cap ∧ cur.toList.take ss.length = ss.map (Value.int .i64))

/-- An argument that is a slice of these values. -/
def SliceAt (μ : Mu) (w : World) (size : Nat) (l : List Value) (x' : Value) : Prop :=
  ∃ (a' : Option Addr) (n c : Nat) (l' : List Value), x' = .slice a' n c ∧ VRels μ l l' ∧ l'.length = n * size ∧ (n ≠ 0 → ∃ b off, a' = some ⟨b, off, none⟩ ∧ ∀ (j : Nat) (u : Value), l'[j]? = some u → w.cell? ⟨b, off + j, none⟩ = some u)
inductive SlicesAt (μ : Mu) (w : World) (size : Nat) : List (List Value) → List Value → Prop
  | nil : SlicesAt μ w size [] []
  | cons (l : List Value) (x' : Value) (ls : List (List Value)) (xs : List Value) (h : SliceAt μ w size l x') (hl : SlicesAt μ w size ls xs) : SlicesAt μ w size (l :: ls) (x' :: xs)
/-- A function that answers by what its slices hold. -/
def PkOk (P : Program) (sy : Nat → Value → Prop) (f : FuncId) (size : Nat) (F : List (List Value) → Option Value) : Prop :=
  ∀ (ls : List (List Value)) (v : Value) (μ : Mu) (w : World) (args' : Array Value), F ls = some v → plain v = true → μ.sy = sy → SlicesAt μ w size ls args'.toList →
    Calls P f args' w fun e w' => e = .returned v ∧ Below w.heap.size w w'

/-- What is looked up is the program's. -/
structure Env.Ok (E : Env) : Prop where
  und : ∀ t d, E.und t = some d → E.P.underlying t = some d
  info : ∀ t i, E.info t = some i → E.P.info? t = some i
  fn : ∀ f fn, E.fn f = some fn → E.P.funcs[f]? = some fn ∧ fn.name ≠ "runtime.NumGoroutine" ∧ fn.body.isSome = true
  ext : ∀ f e args v, E.ext f = some e → plains args = true → e args = some v → plain v = true ∧ ∀ w, Known E.P f ⟨args⟩ v w
  mixed : E.P.follows .mixedOrders = true
  sk : ∀ f g, E.sk f = some g → SkOk E.P f g
  pk : ∀ f p, E.pk f = some p → PkOk E.P E.sy f p.1 p.2
  askB : ∀ (μ : Mu) (l l' : List Value) (v : Value), E.askB l = some v → μ.sy = E.sy → VRels μ l l' → ∃ ns : List Int, l' = ns.map (Value.int .u8) ∧ TokV E.sy v (.string ⟨⟨ns.map fun n => UInt8.ofNat n.toNat⟩⟩)
  askY : ∀ (x x' : Value) (l : List Value), E.askY x = some l → TokV E.sy x x' → ∃ t : ByteArray, x' = .string t ∧ l.length = t.size ∧ ∀ (i : Nat) (v : Value), l[i]? = some v → ∃ b, t.data.toList[i]? = some b ∧ TokV E.sy v (.int .u8 b.toNat)
  dk : ∀ f F ds v rows, E.dk f = some F → F ds = some (v, rows) → DeepOk E.P f ds v rows
  ask : ∀ op t xo yo x y v x' y' w, E.ask op x y = some v → TokV E.sy x x' → TokV E.sy y y' → ∃ v', (do eqGuard op t xo yo x' y'; binOp op t x' y').run E.P w = .ok v' w ∧ TokV E.sy v v'
  askLen : ∀ (t ty : TypeId) (x v x' : Value) (w : World) (ts : Array TypeId) (args : Array Value), E.askLen t x = some v → TokV E.sy x x' → ts[0]? = some t → args[0]? = some x' → ∃ v', (Builtin.len_ ts ty args).run E.P w = .ok v' w ∧ TokV E.sy v v'
  kt : ∀ f e args v (μ : Mu) args' (w : World), E.kt f = some e → e args = some v → μ.sy = E.sy → (∀ b o, μ.fz b = some o → w.heap[b]? = some o) → VRels μ args args'.toList → ∃ v', VRel μ v v' ∧ Known E.P f args' v' w
  askC : ∀ (s d : TypeId) (x v x' : Value) (w : World), E.askC s d x = some v → TokV E.sy x x' → (∀ b o, E.fz b = some o → w.heap[b]? = some o) → ∃ v', (convert s d x').run E.P w = .ok v' w ∧ TokV E.sy v v'
  askS : ∀ (t : TypeId) (x v x' : Value) (lo hi mx : Option Value) (w : World), E.askS t x lo hi mx = some v → TokV E.sy x x' → ∃ v', (Instr.sliceAt t x' lo hi mx).run E.P w = .ok v' w ∧ TokV E.sy v v'

section
variable {E : Env} (ok : E.Ok) (w : World)
include ok
theorem Env.Ok.run_und {t : TypeId} {d : TypeDesc} (h : E.und t = some d) : (underlying t).run E.P w = .ok d w := run_underlying (ok.und t d h) w
theorem Env.Ok.run_info {t : TypeId} {i : TypeInfo} (h : E.info t = some i) : (typeInfo t).run E.P w = .ok i w := by
  unfold typeInfo; simp only [Sem.run_bind, run_program, Result.andThen_ok, ok.info t i h, Sem.run_pure]
theorem Env.Ok.run_size {t : TypeId} {i : TypeInfo} (h : E.info t = some i) : (sizeOf t).run E.P w = .ok i.size w := by
  unfold Go.sizeOf; simp only [Sem.run_bind, ok.run_info w h, Result.andThen_ok, Sem.run_pure]
theorem Env.Ok.run_zero {t : TypeId} {z : Value} (h : zeroA E t = some z) : (zeroValue t).run E.P w = .ok z w ∧ Cm.plain z = true := by
  unfold zeroA at h
  cases hi : E.info t with
  | none => rw [hi] at h; cases h
  | some i =>
    rw [hi] at h
    cases hz : i.zero with
    | none => simp only [hz, Option.bind_some, Option.bind_none] at h; cases h
    | some y =>
      simp only [hz, Option.bind_some] at h
      cases hp : Cm.plain y with
      | false => rw [hp] at h; cases h
      | true =>
        rw [hp] at h; injection h with h; subst h
        exact ⟨by unfold zeroValue; simp only [Sem.run_bind, ok.run_info w hi, Result.andThen_ok, hz, Sem.run_pure], hp⟩
theorem Env.Ok.run_agg {t : TypeId} {b : Bool} (h : aggT E t = some b) : (isAgg t).run E.P w = .ok b w := by
  unfold aggT at h
  cases hd : E.und t with
  | none => rw [hd] at h; cases h
  | some d =>
    rw [hd] at h
    unfold isAgg
    simp only [Sem.run_bind, ok.run_und w hd, Result.andThen_ok]
    cases d <;> simp_all
end

theorem addr_add (b o n : Nat) : (⟨b, o, none⟩ : Addr).add n = ⟨b, o + n, none⟩ := by unfold Addr.add; split <;> simp_all

theorem piece_some {cs l : List Value} {off n : Nat} (h : piece cs off n = some l) : l = (cs.drop off).take n ∧ l.length = n := by
  unfold piece at h
  simp only at h
  cases hb : Nat.beq ((cs.drop off).take n).length n with
  | false => rw [hb] at h; cases h
  | true => rw [hb] at h; injection h with h; subst h; exact ⟨rfl, Nat.eq_of_beq_eq_true hb⟩

theorem piece_get {cs l : List Value} {off n : Nat} (h : piece cs off n = some l) (i : Nat) (hi : i < n) : l[i]? = cs[off + i]? := by
  have := (piece_some h).1
  subst this
  rw [List.getElem?_take, if_pos hi, List.getElem?_drop]

/-- The cells of a row, read. -/
theorem row_read {base : Nat} {μ : Mu} {w : World} {L : Place} {ro : Bool} {es : Nat} {cs : List Value} (h : RowOk base μ w L (.cells ro es cs)) {off n : Nat} {l : List Value} (hl : piece cs off n = some l) :
    ∃ l' : List Value, VRels μ l l' ∧ l'.length = n ∧ ∀ (j : Nat) (v : Value), l'[j]? = some v → w.cell? ((⟨L.b, L.o + off, none⟩ : Addr).add j) = some v := by
  have hlen := (piece_some hl).2
  have hcell : ∀ i v, l[i]? = some v → ∃ v', w.cell? ⟨L.b, L.o + off + i, none⟩ = some v' ∧ VRel μ v v' := by
    intro i v hv
    have hi : i < n := by
      rcases Nat.lt_or_ge i l.length with h | h
      · omega
      · rw [List.getElem?_eq_none h] at hv; cases hv
    rw [piece_get hl i hi] at hv
    obtain ⟨v', a, b⟩ := h.1 _ v hv
    exact ⟨v', by rw [Nat.add_assoc]; exact a, b⟩
  refine ⟨(List.range n).map fun i => (w.cell? ⟨L.b, L.o + off + i, none⟩).getD undef, ?_, by simp, ?_⟩
  · refine VRels.of_get _ _ (by simp [hlen]) fun i v hv => ?_
    have hi : i < n := by
      rcases Nat.lt_or_ge i l.length with h | h
      · omega
      · rw [List.getElem?_eq_none h] at hv; cases hv
    obtain ⟨v', a, b⟩ := hcell i v hv
    exact ⟨v', by simp [hi, a], b⟩
  · intro j v hv
    rw [addr_add]
    have hj : j < n := by
      rcases Nat.lt_or_ge j n with h | h
      · exact h
      · rw [List.getElem?_eq_none (by simpa using h)] at hv; cases hv
    have hx : ∃ x, l[j]? = some x := ⟨l[j]'(by omega), List.getElem?_eq_getElem (by omega)⟩
    obtain ⟨x, hx⟩ := hx
    obtain ⟨v', a, b⟩ := hcell j x hx
    simp [hj, a] at hv
    rw [a, hv]

theorem splice_nil (cs : List Value) (off : Nat) : splice cs off [] = some cs := by cases cs <;> cases off <;> rfl
theorem splice_spec : ∀ (cs : List Value) (off : Nat) (l cs' : List Value), splice cs off l = some cs' →
    cs'.length = cs.length ∧ (l = [] ∨ off + l.length ≤ cs.length) ∧ ∀ i, cs'[i]? = if off ≤ i ∧ i < off + l.length then l[i - off]? else cs[i]?
  | cs, off, [], cs', h => by
    rw [splice_nil] at h; injection h with h; subst h
    exact ⟨rfl, Or.inl rfl, fun i => by rw [if_neg]; simp⟩
  | [], off, _ :: _, cs', h => by cases off <;> simp [splice] at h
  | c :: cs, 0, v :: l, cs', h => by
    simp only [splice, Option.map_eq_some_iff] at h
    obtain ⟨ds, h, rfl⟩ := h
    obtain ⟨h1, h2, h3⟩ := splice_spec cs 0 l ds h
    refine ⟨by simp [h1], Or.inr ?_, fun i => ?_⟩
    · rcases h2 with h2 | h2
      · subst h2; simp
      · simp; omega
    · cases i with
      | zero => simp
      | succ i =>
        have := h3 i
        simp at this ⊢
        exact this
  | c :: cs, off + 1, v :: l, cs', h => by
    simp only [splice, Option.map_eq_some_iff] at h
    obtain ⟨ds, h, rfl⟩ := h
    obtain ⟨h1, h2, h3⟩ := splice_spec cs off (v :: l) ds h
    refine ⟨by simp [h1], Or.inr ?_, fun i => ?_⟩
    · rcases h2 with h2 | h2
      · cases h2
      · simp at h2 ⊢; omega
    · cases i with
      | zero => simp
      | succ i =>
        have := h3 i
        simp only [List.getElem?_cons_succ, this, List.length_cons]
        by_cases c : off ≤ i ∧ i < off + (l.length + 1)
        · rw [if_pos c, if_pos (by omega), show i + 1 - (off + 1) = i - off by omega]
        · rw [if_neg c, if_neg (by omega)]

/-- What a piece of the model's does in the world that stands to the machine's state. -/
def Does {β : Type} (E : Env) (base : Nat) (μ : Mu) (w : World) (s s' : St) (e : Sem β) (Q : Mu → β → Prop) : Prop :=
  ∃ b w' μ', e.run E.P w = .ok b w' ∧ Q μ' b ∧ SRel base μ' s'.rows.get w' ∧ Grew base μ μ' s.next s'.next w w'

section
variable {E : Env} (ok : E.Ok) {base : Nat} {μ : Mu} {w : World} {s s' : St}
include ok

theorem does_part {t : TypeId} {cs l' : List Value} {off : Nat} {v : Value} (h : partA E t cs off = some v) (hv : VRels μ cs l') :
    ∃ v', (part t ⟨l'⟩ off).run E.P w = .ok v' w ∧ VRel μ v v' := by
  unfold partA at h
  simp only [Option.bind_eq_some_iff] at h
  obtain ⟨g, hg, i, hi, h⟩ := h
  cases g with
  | true =>
    simp only [cond_true, Option.map_eq_some_iff] at h
    obtain ⟨l, hl, rfl⟩ := h
    obtain ⟨e, hlen⟩ := piece_some hl
    refine ⟨.agg ⟨(l'.drop off).take i.size⟩, ?_, .agg _ _ (by subst e; exact (hv.drop off).take _)⟩
    unfold part
    simp only [Sem.run_bind, ok.run_agg w hg, Result.andThen_ok, if_true, ok.run_size w hi, Sem.run_pure]
    congr 2
    apply Array.ext'
    simp only [Array.toList_extract]
    rw [List.extract_eq_take_drop]
    congr 2
    omega
  | false =>
    simp only [cond_false] at h
    obtain ⟨v', hc, hr⟩ := hv.get _ _ h
    refine ⟨v', ?_, hr⟩
    unfold part
    simp only [Sem.run_bind, ok.run_agg w hg, Result.andThen_ok]
    simp [hc]

omit ok in
theorem objAt_cell (hs : SRel base μ s.rows.get w) {b o : Nat} {v : Value} (h : objAt μ.fz b o = some v) : w.cell? ⟨b, o, none⟩ = some v := by
  unfold objAt at h
  split at h
  · rename_i c e f hb
    unfold World.cell?
    simp only [hs.cold b _ hb]
    simpa using h
  · cases h
omit ok in
theorem objAt_drop {fz : Nat → Option Obj} {b z : Nat} {l' : List Value} (hm : ∀ (i : Nat) (v : Value), l'[i]? = some v → objAt fz b (z + i) = some v) (off n : Nat) :
    ∀ (i : Nat) (v : Value), ((l'.drop off).take n)[i]? = some v → objAt fz b (z + off + i) = some v := by
  intro i v h
  rw [List.getElem?_take] at h
  split at h
  · rw [List.getElem?_drop] at h; rw [Nat.add_assoc]; exact hm _ v h
  · cases h
theorem load_cold {t : TypeId} {o b z : Nat} {cs l' : List Value} {v : Value} (hp : partA E t cs o = some v) (hl : Colds μ.fz cs l') (hm : ∀ (i : Nat) (v : Value), l'[i]? = some v → objAt μ.fz b (z + i) = some v)
    (hs : SRel base μ s.rows.get w) : ∃ v', (loadVar t ⟨b, z + o, none⟩).run E.P w = .ok v' w ∧ VRel μ v v' := by
  unfold partA at hp
  simp only [Option.bind_eq_some_iff] at hp
  obtain ⟨g, hg, i, hi, hp⟩ := hp
  cases g with
  | true =>
    simp only [cond_true, Option.map_eq_some_iff] at hp
    obtain ⟨l, hl', rfl⟩ := hp
    obtain ⟨e, hlen⟩ := piece_some hl'
    subst e
    refine ⟨.agg ⟨(l'.drop o).take i.size⟩, ?_, .agg _ _ ((hl.drop o).take _).rel⟩
    unfold loadVar
    have hlc := run_loadCells_list (P := E.P) w ⟨b, z + o, none⟩ ((l'.drop o).take i.size) (fun j v hv => by
      rw [addr_add]; exact objAt_cell hs (objAt_drop hm o i.size j v hv))
    have hlen' : ((l'.drop o).take i.size).length = i.size := by rw [← hlen]; simp [hl.length]
    rw [hlen'] at hlc
    simp only [Sem.run_bind, ok.run_agg w hg, Result.andThen_ok, if_true, Sem.run_pure, ok.run_size w hi, hlc]
  | false =>
    simp only [cond_false] at hp
    obtain ⟨v', hc, hv⟩ := hl.get _ _ hp
    refine ⟨v', ?_, hv.rel⟩
    unfold loadVar
    simp only [Sem.run_bind, ok.run_agg w hg, Result.andThen_ok]
    simp [objAt_cell hs (hm _ _ hc)]

theorem load_var {t : TypeId} {a a' v : Value} (h : loadA E t a s = some (v, s')) (ha : VRel μ a a') (hs : SRel base μ s.rows.get w) :
    ∃ ad v', a' = .pointer (some ad) ∧ (loadVar t ad).run E.P w = .ok v' w ∧ VRel μ v v' ∧ s'.rows = s.rows ∧ s'.next = s.next := by
  unfold loadA at h
  cases hfz : asFz a with
  | some p =>
    rw [asFz_some] at hfz
    obtain ⟨k, o, cs⟩ := p
    subst hfz
    have hh : asFz (.func (.yield k) ⟨cs⟩ #[.int .i64 (.ofNat o)]) = some (k, o, cs) := rfl
    simp only [hh, guard_bind, lift_some] at h
    obtain ⟨hk, hp, e⟩ := h
    have hk' := Nat.eq_of_beq_eq_true hk
    subst hk'; subst e
    obtain ⟨b, z, l', rfl, hl, hm⟩ := ha.ofRef
    obtain ⟨v', h1, h2⟩ := load_cold ok hp hl hm hs
    exact ⟨_, v', rfl, h1, h2, rfl, rfl⟩
  | none =>
  simp only [hfz, lift_bind, row_bind, lift_some] at h
  obtain ⟨⟨r, off⟩, hr, _, x, hx, cs, hcs, hp, e⟩ := h
  rw [asRef_some] at hr; subst hr
  rw [cellsR_some] at hcs
  obtain ⟨ro, es, rfl⟩ := hcs
  obtain ⟨L, hL, rfl⟩ := ha.ofPtr
  obtain ⟨L', hL', hrow⟩ := hs.row r _ hx
  rw [hL] at hL'; injection hL' with hL'; subst hL'
  unfold partA at hp
  simp only [Option.bind_eq_some_iff] at hp
  obtain ⟨g, hg, i, hi, hp⟩ := hp
  refine ⟨⟨L.b, L.o + off, none⟩, ?_⟩
  subst e
  cases g with
  | true =>
    simp only [cond_true, Option.map_eq_some_iff] at hp
    obtain ⟨l, hl, rfl⟩ := hp
    obtain ⟨m, hm, hlen, hcell⟩ := row_read hrow hl
    refine ⟨.agg ⟨m⟩, rfl, ?_, .agg _ _ hm, rfl, rfl⟩
    unfold loadVar
    have hlc := run_loadCells_list (P := E.P) w ⟨L.b, L.o + off, none⟩ m hcell
    rw [hlen] at hlc
    simp only [Sem.run_bind, ok.run_agg w hg, Result.andThen_ok, if_true, Sem.run_pure, ok.run_size w hi, hlc]
  | false =>
    simp only [cond_false] at hp
    obtain ⟨v', hc, hv⟩ := hrow.1 _ _ hp
    refine ⟨v', rfl, ?_, hv, rfl, rfl⟩
    unfold loadVar
    simp only [Sem.run_bind, ok.run_agg w hg, Result.andThen_ok]
    simp [hc]

theorem does_load {t : TypeId} {a a' v : Value} (h : loadA E t a s = some (v, s')) (ha : VRel μ a a') (hs : SRel base μ s.rows.get w) :
    Does E base μ w s s' (Instr.loadAt t a') fun μ' b => VRel μ' v b := by
  obtain ⟨ad, v', rfl, hr, hv, e1, e2⟩ := load_var ok h ha hs
  refine ⟨v', w, μ, ?_, hv, by rw [e1]; exact hs, Grew.refl _ _ _ _ _⟩
  unfold Instr.loadAt Instr.sureAddr
  simp only [Sem.run_bind, Sem.run_pure, Result.andThen_ok]
  exact hr
end

/-- Cells written into a row of one's own. -/
theorem write_ok {base : Nat} {μ : Mu} {w : World} {s s' : St} {P : Program} {r off : Nat} {l l' : List Value} (h : writeA r off l s = some ((), s')) (hl : VRels μ l l') (hs : SRel base μ s.rows.get w) {L : Place} (hL : μ r = some L) :
    (storeCells ⟨L.b, L.o + off, none⟩ l').run P w = .ok () (w.setCells L.b (L.o + off) l') ∧ SRel base μ s'.rows.get (w.setCells L.b (L.o + off) l') ∧
      Below base w (w.setCells L.b (L.o + off) l') ∧ s'.next = s.next := by
  unfold writeA at h
  simp only [lift_bind, row_bind, guard_bind, turn_some] at h
  obtain ⟨_, x, hx, ⟨es, cs⟩, hown, hone, cs', hsp, _, _, hble, e2⟩ := h
  rw [ownR_some] at hown
  simp only at hown hsp e2
  subst hown
  obtain ⟨L', hL', hrow⟩ := hs.row r _ hx
  rw [hL] at hL'; injection hL' with hL'; subst hL'
  obtain ⟨hlen, hin, hget⟩ := splice_spec cs off l cs' hsp
  obtain ⟨hc, hext, hfree⟩ := hrow
  obtain ⟨⟨hge, hmk⟩, hes, hcells⟩ := hfree rfl
  have hll := hl.length
  have hroom : ∀ j, j < l'.length → L.o + off + j < L.o + L.ext := by
    intro j hj
    rcases hin with e | e
    · have : l'.length = 0 := by rw [hll, e]; rfl
      omega
    · omega
  have hw1 : ∀ j, j < l'.length → (w.cell? ⟨L.b, L.o + off + j, none⟩).isSome = true := by
    intro j hj
    have := hroom j hj
    have := (hcells (off + j) (by omega)).1
    rwa [← Nat.add_assoc] at this
  have hw2 : ∀ j, j < l'.length → w.frozen? ⟨L.b, L.o + off + j, none⟩ = false := by
    intro j hj
    have := hroom j hj
    have := (hcells (off + j) (by omega)).2
    rwa [← Nat.add_assoc] at this
  have hsize : ∀ (vs : List Value) (o : Nat) (w : World), (w.setCells L.b o vs).heap.size = w.heap.size := by
    intro vs
    induction vs with
    | nil => intro o w; rfl
    | cons v vs ih => intro o w; rw [World.setCells, ih, World.size_setCell]
  have hblock : ∀ (vs : List Value) (o : Nat) (w : World) (b : Nat), b ≠ L.b → (w.setCells L.b o vs).heap[b]? = w.heap[b]? := by
    intro vs
    induction vs with
    | nil => intro o w b _; rfl
    | cons v vs ih => intro o w b hb; rw [World.setCells, ih _ _ _ hb, Below.heap_setCell _ _ _ _ hb]
  have hos : ∀ (vs : List Value) (o : Nat) (w : World), (w.setCells L.b o vs).os = w.os ∧ (w.setCells L.b o vs).tape = w.tape ∧ (w.setCells L.b o vs).output = w.output := by
    intro vs
    induction vs with
    | nil => intro o w; exact ⟨rfl, rfl, rfl⟩
    | cons v vs ih => intro o w; rw [World.setCells]; have := ih (o + 1) (w.setCell ⟨L.b, o, none⟩ v); exact this
  refine ⟨?_, ?_, ?_, ?_⟩
  · have := run_storeCells_cells (P := P) L.b (L.o + off) l' 0 w (by simpa using hw1) (by simpa using hw2) (hl.oneCells hone)
    simpa using this
  · refine hs.turn r (.cells false es cs) L hx rfl hL (hsize _ _ _) (hblock _ _ _) (some (.cells false es cs')) (fun z hz => ?_) (fun q => ?_)
    · injection hz with hz; subst hz
      refine ⟨fun i v hv => ?_, by omega, fun _ => ⟨⟨hge, hmk.setCells _ _ _⟩, hes, fun i hi => ?_⟩⟩
      · rw [hget] at hv
        by_cases c : off ≤ i ∧ i < off + l.length
        · rw [if_pos c] at hv
          obtain ⟨v', hv', hr⟩ := hl.get _ v hv
          have hj : i - off < l'.length := by omega
          have := World.cell?_setCells_in L.b l' (L.o + off) w hw1 (i - off) hj
          rw [show L.o + off + (i - off) = L.o + i by omega] at this
          refine ⟨v', ?_, hr⟩
          rw [this, ← List.getElem?_eq_getElem hj]; exact hv'
        · rw [if_neg c] at hv
          obtain ⟨v', a, b⟩ := hc i v hv
          refine ⟨v', ?_, b⟩
          rw [World.cell?_setCells_out]
          · exact a
          · intro _ _
            show L.o + i < L.o + off ∨ L.o + off + l'.length ≤ L.o + i
            omega
      · refine ⟨?_, ?_⟩
        · by_cases c : off ≤ i ∧ i < off + l'.length
          · have hj : i - off < l'.length := by omega
            have := World.cell?_setCells_in L.b l' (L.o + off) w hw1 (i - off) hj
            rw [show L.o + off + (i - off) = L.o + i by omega] at this
            rw [this]; rfl
          · rw [World.cell?_setCells_out]
            · exact (hcells i hi).1
            · intro _ _
              show L.o + i < L.o + off ∨ L.o + off + l'.length ≤ L.o + i
              omega
        · rw [World.frozen?_setCells]; exact (hcells i hi).2
    · rw [e2]; exact D.got _ _ _ _ hble
  · obtain ⟨a, b, c⟩ := hos l' (L.o + off) w
    exact ⟨a, b, c, by rw [hsize]; exact Nat.le_refl _, fun k hk => hblock _ _ _ _ (by omega)⟩
  · rw [e2]

section
variable {E : Env} (ok : E.Ok) {base : Nat} {μ : Mu} {w : World} {s s' : St}
include ok

theorem does_store {t : TypeId} {a a' v v' : Value} (h : storeA E t a v s = some ((), s')) (ha : VRel μ a a') (hv : VRel μ v v') (hs : SRel base μ s.rows.get w) :
    Does E base μ w s s' (Instr.storeAt t a' v') fun _ _ => True := by
  unfold storeA at h
  simp only [lift_bind, guard_bind] at h
  obtain ⟨⟨r, off⟩, hr, i, hinfo, hsz, h⟩ := h
  rw [asRef_some] at hr; subst hr
  obtain ⟨L, hL, rfl⟩ := ha.ofPtr
  have hj : isJunk v = false := by cases hj : isJunk v <;> simp [hj] at hsz ⊢
  rw [hj, cond_false] at hsz
  obtain ⟨h1, h2, h3, h4⟩ := write_ok (P := E.P) h (hv.cells hj) hs hL
  refine ⟨(), _, μ, ?_, trivial, h2, ⟨Mu.le_refl _, fun _ a b => absurd a b, fun _ a b => absurd a b, h3⟩⟩
  unfold Instr.storeAt Instr.sureAddr storeVar
  have hl := (hv.cells hj).length
  have hsz' := Nat.eq_of_beq_eq_true hsz
  have hn : v'.cells.size = i.size := by simp only [Array.length_toList] at hl; omega
  simp only [Sem.run_bind, Sem.run_pure, Result.andThen_ok, ok.run_size w hinfo, hn, ne_eq, not_true_eq_false, if_false]
  exact h1
omit ok

/-- A new row of cells. -/
theorem does_new {cs : List Value} {es ty : Nat} {t : TypeId} {c' : Array Value} (hes : es < tagT) (hty : ty = 0 ∨ ty = t + 1) (hb : Nat.ble s.next 1000000000 = true) (e2 : s' = { s with rows := D.put (some (.cells false (codeE es ty) cs)) deep s.rows s.next, next := Nat.succ s.next }) (hc : VRels μ cs c'.toList) (hs : SRel base μ s.rows.get w) (hf : ∀ r, s.next ≤ r → r < s'.next → μ r = none) :
    SRel base (μ.with s.next ⟨w.heap.size, 0, c'.size, es, ty⟩) s'.rows.get (w.alloc (.cells c' t)) ∧ Grew base μ (μ.with s.next ⟨w.heap.size, 0, c'.size, es, ty⟩) s.next s'.next w (w.alloc (.cells c' t)) := by
  have hn : μ s.next = none := hf s.next (Nat.le_refl _) (by rw [e2]; exact Nat.lt_succ_self _)
  have hbel : Below w.heap.size w (w.alloc (.cells c' t)) := (Below.refl _ _).alloc (Nat.le_refl _) _
  refine ⟨?_, Mu.le_with hn _, fun r a b => ?_, fun _ a b => absurd a b, hbel.mono hs.ge⟩
  · refine hs.extend s.next hn (.cells false (codeE es ty) cs) _ hbel (Nat.le_refl _) (by simp) ⟨fun i v hv => ?_, ?_, fun _ => ⟨⟨hs.ge, Marked.alloc _ _ _ _ _ _ (Nat.le_refl _) hes hty⟩, rfl, fun i hi => ?_⟩⟩ (fun r => ?_)
    · obtain ⟨v', hv', hr⟩ := hc.get i v hv
      refine ⟨v', ?_, hr.mono (Mu.le_with hn _)⟩
      show (w.alloc (.cells c' t)).cell? ⟨w.heap.size, 0 + i, none⟩ = some v'
      rw [Nat.zero_add, World.cell?_alloc_new]; simpa using hv'
    · have := hc.length; simp at this; show cs.length ≤ c'.size; omega
    · show ((w.alloc (.cells c' t)).cell? ⟨w.heap.size, 0 + i, none⟩).isSome = true ∧ (w.alloc (.cells c' t)).frozen? ⟨w.heap.size, 0 + i, none⟩ = false
      have hi' : i < c'.size := hi
      rw [Nat.zero_add, World.cell?_alloc_new, World.frozen?_alloc_new]
      exact ⟨by simp [hi'], rfl⟩
    · rw [e2]; exact D.got _ _ _ _ hb
  · have : r = s.next := by
      rw [Mu.with_eq] at b
      by_cases e : r = s.next
      · exact e
      · rw [if_neg e] at b; exact absurd a b
    rw [e2]; show s.next ≤ r ∧ r < s.next + 1; omega

theorem does_newVar {cs : List Value} {es ty : Nat} {t : TypeId} {u v : Value} (hes : es < tagT) (hty : ty = 0 ∨ ty = t + 1) (h : newA (codeE es ty) cs s = some (v, s')) (hc : VRels μ cs u.cells.toList) (hs : SRel base μ s.rows.get w) (hf : ∀ r, s.next ≤ r → r < s'.next → μ r = none) :
    Does E base μ w s s' (do pure (.pointer (some (← newVar t u)))) fun μ' b => VRel μ' v b := by
  unfold newA at h
  rw [fresh_bind, pure_some] at h
  obtain ⟨hb, e1, e2⟩ := h
  subst e1
  obtain ⟨hs', hg⟩ := does_new (t := t) hes hty hb e2 hc hs hf
  refine ⟨.pointer (some ⟨w.heap.size, 0, none⟩), w.alloc (.cells u.cells t), _, ?_, ?_, hs', hg⟩
  · unfold newVar newRow
    simp only [Sem.run_bind, run_newObj, Result.andThen_ok, Sem.run_pure, World.alloc_eq]
  · have := VRel.ptr (μ := μ.with s.next ⟨w.heap.size, 0, u.cells.size, es, ty⟩) s.next 0 _ (Mu.with_at _ _ _)
    simpa using this
end
end Go.Cm
