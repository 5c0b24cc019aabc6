/-
  A call with a row at hand that nobody writes: what an argument's slice holds; and the facts of a row of numbers.
-/
import Derived.Test.YtinjjlelliedpaaGreatNlT
namespace Go.Cm
open Go Go.RowKit

noncomputable def yesR (E : Env) (lf d : Nat) (f : FuncId) (args : List Value) (x : Row) : Bool :=
  match callC E lf d f args ⟨D.put (some x) deep .leaf 1, 2, [], []⟩ with
  | some (.bool b, _) => b
  | _ => false
def muR (b off ext es : Nat) (o : Obj) (sy : Nat → Value → Prop) : Mu :=
  ⟨fun r => if r = 1 then some ⟨b, off, ext, es, 0⟩ else if r < 1 then some ⟨r, 0, 0, 0, 0⟩ else none, fun q => if q = b then some o else none, sy⟩
theorem rowed {E : Env} (ok : E.Ok) (cok : E.Coded) (hg : ∀ g, E.glob g = true → g < 1) (hz : ∀ b, E.fz b = none) {lf d : Nat} {f : FuncId} {args : List Value} {args' : Array Value} {es : Nat} {cs : List Value}
    (h : yesR E lf d f args (.cells true es cs) = true) {w : World} {b off ext : Nat} {o : Obj} (hb : w.heap[b]? = some o)
    (hc : ∀ (i : Nat) (v : Value), cs[i]? = some v → ∃ v', w.cell? ⟨b, off + i, none⟩ = some v' ∧ VRel (muR b off ext es o E.sy) v v') (hext : cs.length ≤ ext)
    (hv : VRels (muR b off ext es o E.sy) args args'.toList) : Calls E.P f args' w fun e w' => e = .returned (.bool true) ∧ Below w.heap.size w w' := by
  unfold yesR at h
  cases hr : callC E lf d f args ⟨D.put (some (.cells true es cs)) deep .leaf 1, 2, [], []⟩ with
  | none => rw [hr] at h; cases h
  | some r =>
    obtain ⟨v, s'⟩ := r
    rw [hr] at h
    obtain ⟨n, hn⟩ := run_of_fast hr
    have hget : ∀ r, (D.put (some (.cells true es cs)) deep (.leaf : D Row) 1).get r = if r = 1 then some (.cells true es cs) else none := fun r => by
      rw [D.got _ _ _ _ (by decide)]
      by_cases e : r = 1
      · rw [if_pos e, if_pos e]
      · rw [if_neg e, if_neg e, D.get_leaf]
    have hlt : b < w.heap.size := (Array.getElem?_eq_some_iff.1 hb).1
    have hs : SRel w.heap.size (muR b off ext es o E.sy) (D.put (some (.cells true es cs)) deep (.leaf : D Row) 1).get w :=
      { ge := Nat.le_refl _
        dom := fun r x L h e => by
          rw [hget] at h
          split at h
          · rename_i hr; subst hr; injection e with e; subst e; exact hlt
          · cases h
        row := fun r x h => by
          rw [hget] at h
          split at h
          · rename_i hr; subst hr; injection h with h; subst h
            exact ⟨_, rfl, hc, hext, fun h => by cases h⟩
          · cases h
        apart := fun r q x y L K _ h _ _ _ hf => by
          rw [hget] at h
          split at h
          · injection h with h; subst h; cases hf
          · cases h
        cold := fun q o' h => by
          have h2 : (if q = b then some o else none) = some o' := h
          by_cases e : q = b
          · rw [if_pos e] at h2; injection h2 with h2; subst h2; rw [e]; exact hb
          · rw [if_neg e] at h2; cases h2
        hot := fun r x L h hf => by
          rw [hget] at h
          split at h
          · injection h with h; subst h; cases hf
          · cases h
        old := fun r x L h e => by
          rw [hget] at h
          split at h
          · rename_i hr; subst hr; injection e with e; subst e
            right
            show (if b = b then some o else none) ≠ none
            rw [if_pos rfl]; simp
          · cases h }
    refine Calls.mono (run_sound ok cok hn hv hs ⟨fun g h => ⟨0, 0, 0, ?_⟩, rfl, fun b o h => by rw [hz] at h; cases h⟩ fun r h _ => ?_) ?_
    · have := hg g h
      show (if g = 1 then some _ else if g < 1 then some _ else none) = some _
      rw [if_neg (by omega), if_pos this]
    · have h : 2 ≤ r := h
      show (if r = 1 then some _ else if r < 1 then some _ else none) = none
      rw [if_neg (by omega), if_neg (by omega)]
    · rintro e w' ⟨v', μ', rfl, hv', _, hgr⟩
      cases v with
      | bool c =>
        have h : c = true := h
        subst h
        have := hv'.ofBool
        subst this
        exact ⟨rfl, hgr.below⟩
      | _ => cases h

theorem factsB_ok {x : Nat → Int} {k : Nat} {β : Int} (hk : lowOf (x k) 1 = β) : ∀ f, f ∈ factsB k β → f.Ok (sayB x) := by
  intro f hf
  unfold factsB at hf
  rw [List.mem_flatMap] at hf
  obtain ⟨i, hi, hf⟩ := hf
  have hi : i < 10 := by simpa using hi
  have s1 : (sayB x)[i]? = some fun v => v = .int .i64 (x i) := by
    match i, hi with
    | 0, _ => rfl
    | 1, _ => rfl
    | 2, _ => rfl
    | 3, _ => rfl
    | 4, _ => rfl
    | 5, _ => rfl
    | 6, _ => rfl
    | 7, _ => rfl
    | 8, _ => rfl
    | 9, _ => rfl
    | i + 10, h => omega
  have s2 : (sayB x)[10 + i]? = some fun v => v = .int .i64 (lowOf (x i) 1) := by
    match i, hi with
    | 0, _ => rfl
    | 1, _ => rfl
    | 2, _ => rfl
    | 3, _ => rfl
    | 4, _ => rfl
    | 5, _ => rfl
    | 6, _ => rfl
    | 7, _ => rfl
    | 8, _ => rfl
    | 9, _ => rfl
    | i + 10, h => omega
  have hand : ∀ (E : Env) (t : TypeId) (xo yo : Operand), binOpA E .and t xo yo (.int .i64 (x i)) (.int .i64 1) = some (.int .i64 (lowOf (x i) 1)) := fun E t xo yo => binOpA_slow rfl binPlain_and rfl
  cases hq : Nat.beq i k with
  | true =>
    rw [hq, cond_true, List.mem_singleton] at hf
    subst hf
    have := Nat.eq_of_beq_eq_true hq
    subst this
    intro p x' hp hx
    rw [s1] at hp; injection hp with hp; subst hp
    exact ⟨x i, .int .i64 β, hx, TokV.plain rfl, rfl, fun E t xo yo => by rw [← hk]; exact hand E t xo yo⟩
  | false =>
    rw [hq, cond_false] at hf
    simp only [List.mem_cons, List.mem_nil_iff, or_false] at hf
    rcases hf with rfl | rfl
    · intro p x' hp hx
      rw [s1] at hp; injection hp with hp; subst hp
      exact ⟨x i, .int .i64 (lowOf (x i) 1), hx, TokV.tok s2 rfl rfl, rfl, hand⟩
    · intro p x' hp hx
      rw [s2] at hp; injection hp with hp; subst hp
      exact ⟨lowOf (x i) 1, .bool (bitAt x i), hx, TokV.tok (sayB_bit x i hi) rfl rfl, rfl, fun E t xo yo => rfl⟩
end Go.Cm
