/-
  Rows with other names, and those that nobody asks for any more.
-/
import Derived.Test.YtfofdglgacfklaaGreatDoorCmSz
namespace Go.Cm
open Go Go.RowKit

/-- A value with other names for its rows. -/
noncomputable def renV (g : Nat → Option Nat) : Nat → Value → Option Value
  | 0, _ => none
  | k + 1, v => match v with
    | .pointer (some ⟨r, off, none⟩) => (g r).map fun q => .pointer (some ⟨q, off, none⟩)
    | .slice (some ⟨r, off, sp⟩) n c => (g r).map fun q => .slice (some ⟨q, off, sp⟩) n c
    | .map (some r) => (g r).map fun q => .map (some q)
    | .func (.func f) a c => (optL (renV g k) a.toList).bind fun a => (optL (renV g k) c.toList).map fun c => .func (.func f) ⟨a⟩ ⟨c⟩
    | .iface t v => (renV g k v).map fun v => .iface t v
    | .agg cs => (optL (renV g k) cs.toList).map fun l => .agg ⟨l⟩
    | .tuple cs => (optL (renV g k) cs.toList).map fun l => .tuple ⟨l⟩
    | v => bif plain v then some v else (match asFz v with | some _ => some v | none => none)

theorem ren_ok {μ μ2 : Mu} {g : Nat → Option Nat} (hat : ∀ r q, g r = some q → μ2 q = μ r) (hfz : μ2.fz = μ.fz) : ∀ (k : Nat) (v u v' : Value), renV g k v = some u → VRel μ v v' → VRel μ2 u v'
  | 0, _, _, _, h, _ => by unfold renV at h; cases h
  | k + 1, v, u, v', h, hv => by
    have ih := ren_ok hat hfz k
    have il : ∀ (l us l' : List Value), optL (renV g k) l = some us → VRels μ l l' → VRels μ2 us l' := by
      intro l us l' h hv
      obtain ⟨h1, h2⟩ := optL_some h
      refine VRels.of_get _ _ (by rw [hv.length, h1]) fun i u hu => ?_
      have hi : i < l.length := by
        rcases Nat.lt_or_ge i us.length with h | h
        · omega
        · rw [List.getElem?_eq_none h] at hu; cases hu
      obtain ⟨v', a, c⟩ := hv.get i _ (List.getElem?_eq_getElem hi)
      obtain ⟨u', d, e⟩ := h2 i _ (List.getElem?_eq_getElem hi)
      rw [hu] at d; injection d with d; subst d
      exact ⟨v', a, ih _ _ _ e c⟩
    unfold renV at h
    split at h
    · rename_i r off
      rw [Option.map_eq_some_iff] at h
      obtain ⟨q, hq, rfl⟩ := h
      obtain ⟨L, hL, rfl⟩ := hv.ofPtr
      exact .ptr _ _ L ((hat r q hq).trans hL)
    · rename_i r off spot n c
      rw [Option.map_eq_some_iff] at h
      obtain ⟨q, hq, rfl⟩ := h
      rcases hv.ofSlice with ⟨K, hsp, hK, e1⟩ | ⟨K, cap', hsp, hK, hc1, hx1, e1⟩ | ⟨a', h0, h1, e1⟩
      · simp only at hsp; subst hsp; subst e1; exact .slice _ _ _ _ K ((hat r q hq).trans hK)
      · simp only at hsp; subst hsp; subst e1; exact .grown _ _ _ _ _ K ((hat r q hq).trans hK) hc1 hx1
      · subst h0; subst h1; subst e1; exact .over _ _
    · rename_i r
      rw [Option.map_eq_some_iff] at h
      obtain ⟨q, hq, rfl⟩ := h
      obtain ⟨L, hL, rfl⟩ := hv.ofMap
      exact .map _ L ((hat r q hq).trans hL)
    · rename_i f a c
      simp only [Option.bind_eq_some_iff, Option.map_eq_some_iff] at h
      obtain ⟨a2, ha, c2, hc, rfl⟩ := h
      obtain ⟨a', c', rfl, ha', hc'⟩ := hv.ofFunc
      exact .func _ _ _ _ _ (il _ _ _ ha ha') (il _ _ _ hc hc')
    · rename_i t v
      rw [Option.map_eq_some_iff] at h
      obtain ⟨u2, hu, rfl⟩ := h
      obtain ⟨v2, rfl, hv2⟩ := hv.ofIface
      exact .iface _ _ _ (ih _ _ _ hu hv2)
    · rw [Option.map_eq_some_iff] at h
      obtain ⟨l, hl, rfl⟩ := h
      obtain ⟨c', rfl, hc⟩ := hv.ofAgg
      exact .agg _ _ (il _ _ _ hl hc)
    · rw [Option.map_eq_some_iff] at h
      obtain ⟨l, hl, rfl⟩ := h
      obtain ⟨c', rfl, hc⟩ := hv.ofTuple
      exact .tuple _ _ (il _ _ _ hl hc)
    · cases hp : plain v with
      | true =>
        rw [hp, cond_true] at h; injection h with h; subst h
        have := hv.eq hp; subst this; exact .plain _ hp
      | false =>
        rw [hp, cond_false] at h
        cases hz : asFz v with
        | none => rw [hz] at h; cases h
        | some p =>
          simp only [hz, Option.some.injEq] at h; subst h
          have := hv.toCold hz
          rw [← hfz] at this
          exact this.rel

/-- A row of cells with other names: it bears none, or they are turned. -/
def RenRow (g : Nat → Option Nat) (x y : Row) : Prop :=
  (∃ ro es cs, x = .cells ro es cs ∧ y = x ∧ coldsB cs = true) ∨ ∃ ro es cs ds, x = .cells ro es cs ∧ y = .cells ro es ds ∧ optL (renV g 5) cs = some ds

/-- The names that go on: what they were, and what they are. -/
noncomputable def nameTo (lo : Nat) : List (Nat × Nat) → Nat → Option Nat
  | [], r => bif Nat.blt r lo then some r else none
  | p :: m, r => bif Nat.beq p.1 r then some p.2 else nameTo lo m r
noncomputable def nameOf : List (Nat × Nat) → Nat → Option Nat
  | [], _ => none
  | p :: m, q => bif Nat.beq p.2 q then some p.1 else nameOf m q
noncomputable def goodMap (lo next : Nat) : List (Nat × Nat) → Bool
  | [] => true
  | p :: m => bif (Nat.ble lo p.1 && Nat.ble lo p.2 && Nat.blt p.2 next && (nameOf m p.2).isNone) then goodMap lo next m else false

theorem goodMap_spec {lo next : Nat} : ∀ {m : List (Nat × Nat)}, goodMap lo next m = true → (∀ r q, nameTo lo m r = some q → (r < lo ∧ q = r) ∨ (lo ≤ q ∧ q < next ∧ nameOf m q = some r)) ∧ ∀ q r, nameOf m q = some r → lo ≤ q ∧ q < next
  | [], _ => by
    refine ⟨fun r q h => ?_, fun q r h => by cases h⟩
    unfold nameTo at h
    cases hb : Nat.blt r lo with
    | true => rw [hb, cond_true] at h; injection h with h; exact Or.inl ⟨blt_lt0 hb, h.symm⟩
    | false => rw [hb] at h; cases h
  | p :: m, h => by
    unfold goodMap at h
    cases hg : (Nat.ble lo p.1 && Nat.ble lo p.2 && Nat.blt p.2 next && (nameOf m p.2).isNone) with
    | false => rw [hg] at h; cases h
    | true =>
      rw [hg, cond_true] at h
      simp only [Bool.and_eq_true] at hg
      obtain ⟨⟨⟨g1, g2⟩, g3⟩, g4⟩ := hg
      have h1 := Nat.le_of_ble_eq_true g1
      have h2 := Nat.le_of_ble_eq_true g2
      have h3 := blt_lt0 g3
      obtain ⟨ih1, ih2⟩ := goodMap_spec h
      refine ⟨fun r q hq => ?_, fun q r hq => ?_⟩
      · rw [nameTo, beq_ite] at hq
        rw [nameOf, beq_ite]
        by_cases e : p.1 = r
        · rw [if_pos e] at hq; injection hq with hq; subst hq
          exact Or.inr ⟨h2, h3, by rw [if_pos rfl, e]⟩
        · rw [if_neg e] at hq
          rcases ih1 r q hq with hh | ⟨a, b, c⟩
          · exact Or.inl hh
          · refine Or.inr ⟨a, b, ?_⟩
            rw [if_neg]; exact c
            intro e2; rw [e2, c] at g4; cases g4
      · rw [nameOf, beq_ite] at hq
        by_cases e : p.2 = q
        · subst e; exact ⟨h2, h3⟩
        · rw [if_neg e] at hq; exact ih2 q r hq

noncomputable def rowsT : List (Nat × Row) → D Row
  | [] => .leaf
  | p :: l => D.put (some p.2) deep (rowsT l) p.1
/-- A state of so many names, and these rows. -/
noncomputable def St.of (next : Nat) (l : List (Nat × Row)) : St := ⟨rowsT l, next, [], []⟩
theorem rowsT_get : ∀ {l : List (Nat × Row)} {q : Nat} {x : Row}, (l.all fun p => Nat.ble p.1 1000000000) = true → (rowsT l).get q = some x → (q, x) ∈ l
  | [], q, x, _, h => by rw [rowsT, D.get_leaf] at h; cases h
  | p :: l, q, x, hb, h => by
    simp only [List.all_cons, Bool.and_eq_true] at hb
    rw [rowsT, D.got _ _ _ _ hb.1] at h
    by_cases e : q = p.1
    · rw [if_pos e] at h; injection h with h; subst h; subst e; simp
    · rw [if_neg e] at h; exact List.mem_cons_of_mem _ (rowsT_get hb.2 h)

/-- Each row that goes on was one. -/
def rowsP (g : Nat → Option Nat) (s : St) : List (Nat × Nat × Row) → Prop
  | [] => True
  | p :: l => (g p.1 = some p.2.1 ∧ ∃ x, s.rows.get p.1 = some x ∧ RenRow g x p.2.2) ∧ rowsP g s l
theorem rowsP_get {g : Nat → Option Nat} {s : St} : ∀ {l : List (Nat × Nat × Row)}, rowsP g s l → ∀ p, p ∈ l → g p.1 = some p.2.1 ∧ ∃ x, s.rows.get p.1 = some x ∧ RenRow g x p.2.2
  | [], _, p, hp => by simp at hp
  | q :: l, h, p, hp => by
    rcases List.mem_cons.1 hp with e | e
    · subst e; exact h.1
    · exact rowsP_get h.2 p e
def slotsP (g : Nat → Option Nat) (f : SF) : List (Nat × Value) → Prop
  | [] => True
  | p :: l => (Nat.blt p.1 f.n = true ∧ renV g 5 (f.get p.1) = some p.2) ∧ slotsP g f l
theorem slotsP_get {g : Nat → Option Nat} {f : SF} : ∀ {l : List (Nat × Value)}, slotsP g f l → ∀ p, p ∈ l → p.1 < f.n ∧ renV g 5 (f.get p.1) = some p.2
  | [], _, p, hp => by simp at hp
  | q :: l, h, p, hp => by
    rcases List.mem_cons.1 hp with e | e
    · subst e; exact ⟨blt_lt0 h.1.1, h.1.2⟩
    · exact slotsP_get h.2 p e

/-- Of a frame and a state some slots, and some rows, go on, under other names. -/
theorem weak_ren {E : Env} {lo : Nat} (hgl : ∀ g, E.glob g = true → g < lo) {f : SF} {s : St} (m : List (Nat × Nat)) (l : List (Nat × Value)) (rows : List (Nat × Nat × Row)) (next : Nat) (hb : f.okB = true) (hm : goodMap lo next m = true) (hn : Nat.ble lo next = true)
    (hs : slotsP (nameTo lo m) f l) (hr : rowsP (nameTo lo m) s rows) (hk : (rows.all fun p => Nat.ble p.2.1 1000000000) = true) :
    (SF.kept f.n l).ok ∧ Weak E lo f.fr s (SF.kept f.n l).fr (St.of next (rows.map fun p => p.2)) := by
  have hf := SF.ok_of hb
  have hok : (SF.kept f.n l).ok := ⟨hf.1, fun p hp => (slotsP_get hs p hp).1⟩
  have hn' := Nat.le_of_ble_eq_true hn
  obtain ⟨g1, g2⟩ := goodMap_spec hm
  refine ⟨hok, fun hl => ⟨hn', fun base μ a w hrel => ?_⟩⟩
  let μ2 : Mu := ⟨fun q => if q < lo then μ q else (nameOf m q).bind fun r => μ r, μ.fz, μ.sy⟩
  have hlow : ∀ q, q < lo → μ2 q = μ q := fun q hq => if_pos hq
  have hat : ∀ r q, nameTo lo m r = some q → μ2 q = μ r := by
    intro r q h
    rcases g1 r q h with ⟨h1, h2⟩ | ⟨h1, h2, h3⟩
    · rw [h2]; exact hlow r h1
    · show (if q < lo then μ q else (nameOf m q).bind fun r => μ r) = μ r
      rw [if_neg (by omega), h3]; rfl
  have hrow : ∀ q x, (St.of next (rows.map fun p => p.2)).rows.get q = some x → ∃ r y, nameTo lo m r = some q ∧ s.rows.get r = some y ∧ RenRow (nameTo lo m) y x := by
    intro q x h
    have := rowsT_get (by rw [List.all_map]; exact hk) h
    rw [List.mem_map] at this
    obtain ⟨p, hp, e⟩ := this
    obtain ⟨h1, y, h2, h3⟩ := rowsP_get hr p hp
    refine ⟨p.1, y, ?_, h2, ?_⟩
    · rw [h1, e]
    · rw [e] at h3; exact h3
  have hfree : ∀ y x, RenRow (nameTo lo m) y x → x.free = y.free := by
    rintro y x (⟨ro, es, cs, rfl, rfl, _⟩ | ⟨ro, es, cs, ds, rfl, rfl, _⟩) <;> rfl
  refine ⟨μ2, ⟨⟨hrel.fr.n, hrel.fr.le, fun t ht => ?_⟩, ?_, ⟨fun g hg => ?_, hrel.gl.2⟩, fun r h => ?_⟩, ⟨hlow, fun _ _ h => h, fun _ a b => absurd a b, Below.refl _ _⟩⟩
  · have ht' : t < f.n := ht
    have e1 : FT.get 5 (SF.kept f.n l).fr.t t = look junk l t := look_tree f.n hf.1 junk l (fun p hp => (slotsP_get hs p hp).1) t ht'
    rw [e1]
    have key : ∀ l : List (Nat × Value), (∀ p, p ∈ l → p.1 < f.n ∧ renV (nameTo lo m) 5 (f.get p.1) = some p.2) → look junk l t = junk ∨ renV (nameTo lo m) 5 (f.get t) = some (look junk l t) := by
      intro l
      induction l with
      | nil => intro _; exact Or.inl rfl
      | cons p l ih =>
        intro h
        rw [look, beq_ite]
        by_cases e : p.1 = t
        · rw [if_pos e]; right; rw [← e]; exact (h p (by simp)).2
        · rw [if_neg e]; exact ih fun q hq => h q (by simp [hq])
    rcases key l (slotsP_get hs) with e | e
    · rw [e]; exact .any _
    · rw [← SF.get_fr hf] at e
      exact ren_ok hat rfl 5 _ _ _ e (hrel.fr.get t)
  · refine ⟨hrel.st.ge, fun q x L hx e => ?_, fun q x hx => ?_, fun q1 q2 x y K1 K2 hne hx hy e1 e2 hf => ?_, hrel.st.cold, fun q x K hx hf e => ?_, fun q x K hx e => ?_⟩
    · obtain ⟨r, y, h1, h2, h3⟩ := hrow q x hx
      rw [hat r q h1] at e; exact hrel.st.dom r y L h2 e
    · obtain ⟨r, y, h1, h2, h3⟩ := hrow q x hx
      obtain ⟨L, hL, hro⟩ := hrel.st.row r y h2
      refine ⟨L, by rw [hat r q h1]; exact hL, ?_⟩
      rcases h3 with ⟨ro, es, cs, rfl, rfl, hcs⟩ | ⟨ro, es, cs, ds, rfl, rfl, hcs⟩
      · obtain ⟨k1, k2, k3⟩ := hro
        exact ⟨fun i v hv => by
          obtain ⟨v', a1, a2⟩ := k1 i v hv
          have := a2.ofColdB (coldsB_get hcs i v hv)
          exact ⟨v', a1, (show Cold μ2.fz v v' from this).rel⟩, k2, k3⟩
      · obtain ⟨k1, k2, k3⟩ := hro
        obtain ⟨j1, j2⟩ := optL_some hcs
        exact ⟨fun i v hv => by
          have hi : i < cs.length := by
            rcases Nat.lt_or_ge i ds.length with h | h
            · omega
            · rw [List.getElem?_eq_none h] at hv; cases hv
          obtain ⟨u, d1, d2⟩ := j2 i _ (List.getElem?_eq_getElem hi)
          rw [hv] at d1; injection d1 with d1; subst d1
          obtain ⟨v', a1, a2⟩ := k1 i _ (List.getElem?_eq_getElem hi)
          exact ⟨v', a1, ren_ok hat rfl 5 _ _ _ d2 a2⟩, by rw [j1]; exact k2, k3⟩
    · obtain ⟨r1, y1, a1, a2, a3⟩ := hrow q1 x hx
      obtain ⟨r2, y2, b1, b2, b3⟩ := hrow q2 y hy
      rw [hat r1 q1 a1] at e1; rw [hat r2 q2 b1] at e2
      refine hrel.st.apart r1 r2 y1 y2 K1 K2 (fun e => ?_) a2 b2 e1 e2 (by rw [← hfree _ _ a3]; exact hf)
      subst e; rw [a1] at b1; injection b1 with b1; exact hne b1
    · obtain ⟨r1, y1, a1, a2, a3⟩ := hrow q x hx
      rw [hat r1 q a1] at e
      exact hrel.st.hot r1 y1 K a2 (by rw [← hfree _ _ a3]; exact hf) e
    · obtain ⟨r1, y1, a1, a2, a3⟩ := hrow q x hx
      rw [hat r1 q a1] at e
      exact hrel.st.old r1 y1 K a2 e
  · obtain ⟨e, z, ty, hz⟩ := hrel.gl.1 g hg
    exact ⟨e, z, ty, by rw [hlow g (hgl g hg)]; exact hz⟩
  · have h' : next ≤ r := h
    show (if r < lo then μ r else (nameOf m r).bind fun r => μ r) = none
    rw [if_neg (by omega)]
    cases e : nameOf m r with
    | none => rfl
    | some q => have := (g2 r q e).2; omega
end Go.Cm
