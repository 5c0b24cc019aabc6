/-
  Enough, by what its slices hold, some of it tokens; the tables for a row of numbers of which the lowest bit of one is known.
-/
import Derived.Test.YtinjjlelliedpaaGreatNlA
import Derived.Test.YtinjjlelliedpaaGreatNlE
import Derived.Test.YtinjjlelliedpaaGreatNlR
namespace Go.Proofs.YtinjjlelliedpaaGreat.Cl
open Go Go.Cm

theorem needs_at {μ : Mu} {w : World} {x : Nat → Int} (hsy : μ.sy = sayAt (sayB x)) {l : List Value} {u : Value} {q : List (Int × Bt)} (h : SliceAt μ w 2 l u) (hq : pairsOf l = some q) (hl : l.length ≤ 1000) :
    Tryz.NeedsAt w (vals (bitAt x) q) u := by
  obtain ⟨a, n, c, l', rfl, hv, hlen, hc⟩ := h
  have hl' := hv.length
  have he := pairs_rel hsy hv hq
  subst he
  rw [encP_len] at hlen
  have hn : n = (vals (bitAt x) q).length := by omega
  refine ⟨a, n, c, rfl, hn, by rw [encP_len] at hl'; omega, fun h0 => ?_⟩
  obtain ⟨b, off, rfl, hd⟩ := hc h0
  have at_ := fun j hj => encP_at (vals (bitAt x) q) j hj
  refine ⟨b, off, rfl, ?_, fun j hj => ⟨hd _ _ (at_ j hj).1, by rw [Nat.add_assoc]; exact hd _ _ (at_ j hj).2⟩⟩
  exact World.block_lt_of_cell? _ _ (hd _ _ (at_ 0 (by omega)).1)

theorem pk_ok (x : Nat → Int) : PkOk Tryz.prog (sayAt (sayB x)) 4 2 enoughF := by
  intro ls v μ w args' hF _ hsy hS
  unfold enoughF at hF
  split at hF
  · rename_i hl wl
    simp only [Option.bind_eq_some_iff, Option.map_eq_some_iff, guardO_some, Bool.and_eq_true] at hF
    obtain ⟨_, ⟨g1, g2⟩, h, hh, q, hq, b, hb, rfl⟩ := hF
    obtain ⟨al⟩ := args'
    cases hS with
    | cons _ u _ us hu hS =>
      cases hS with
      | cons _ v _ vs hv hS =>
        cases hS
        have := Tryz.enough4 _ _ u v w (needs_at hsy hu hh (Nat.le_of_ble_eq_true g1)) (needs_at hsy hv hq (Nat.le_of_ble_eq_true g2))
        rw [allHit_ok (β := bitAt x) hb] at this
        exact this
  · cases hF

noncomputable def pkT (f : FuncId) : Option (Nat × (List (List Value) → Option Value)) := bif Nat.beq f 4 then some (2, enoughF) else none
noncomputable def envL (k : Nat) (β : Int) (x : Nat → Int) : Env := { env1 with sy := sayAt (sayB x), ask := askT (factsB k β), pk := pkT }
section
variable (E : Env) (y : Nat → Value → Prop) (z : BinOp → Value → Value → Option Value) (p : FuncId → Option (Nat × (List (List Value) → Option Value)))
theorem operOk_tok : operOk { E with sy := y, ask := z, pk := p } = operOk E := by funext o; cases o <;> rfl
theorem opOk_tok : opOk { E with sy := y, ask := z, pk := p } = opOk E := by funext o; unfold opOk; rw [operOk_tok]
theorem codeOk_tok : ∀ c, codeOk { E with sy := y, ask := z, pk := p } c = codeOk E c := by
  intro c
  induction c with
  | region id ops draw => unfold codeOk; rw [opOk_tok]
  | seq a b iha ihb => unfold codeOk; rw [iha, ihb]
  | cond v a b iha ihb => unfold codeOk; rw [iha, ihb, operOk_tok]
  | block id c ih => unfold codeOk; exact ih
  | loop c ih => unfold codeOk; exact ih
  | scope c ih => unfold codeOk; exact ih
  | _ => rfl
theorem goodAt_tok (i : Nat) : goodAt { E with sy := y, ask := z, pk := p } i = goodAt E i := by
  unfold goodAt
  simp only [codeOk_tok]
theorem goodAll_tok (mask n : Nat) : goodAll { E with sy := y, ask := z, pk := p } mask n = goodAll E mask n := by
  unfold goodAll
  simp only [goodAt_tok]
end
theorem goodL (k : Nat) (β : Int) (x : Nat → Int) : goodAll (envL k β x) 0x1fffffffffffffffffffffffffffffffffffffffffffffffffc Tryz.prog.funcs.size = true := (goodAll_tok env1 (sayAt (sayB x)) (askT (factsB k β)) pkT 0x1fffffffffffffffffffffffffffffffffffffffffffffffffc Tryz.prog.funcs.size).trans good1
set_option maxRecDepth 100000 in
theorem madeL {k : Nat} {β : Int} {x : Nat → Int} (hk : lowOf (x k) 1 = β) : (envL k β x).Made 0x1fffffffffffffffffffffffffffffffffffffffffffffffffc where
  und := rfl
  info := rfl
  fn := rfl
  good := goodL k β x
  mixed := Tryz.checked.mixed
  pk := fun f p h => by
    have h : pkT f = some p := h
    unfold pkT at h
    cases hb : Nat.beq f 4 with
    | false => rw [hb] at h; cases h
    | true =>
      rw [hb, cond_true] at h
      injection h with h; subst h
      rw [Nat.eq_of_beq_eq_true hb]
      exact pk_ok x
  ext := made1.ext
  dk := noDk _ rfl
  ask := fun op t xo yo a b v a' b' w h ha hb => askT_ok (E0 := env1) made1.ok rfl (factsB_ok hk) op t xo yo a b v a' b' w h ha hb
  askLen := noLen
  kt := noKt
  askC := noC
  askS := noS
end Go.Proofs.YtinjjlelliedpaaGreat.Cl
