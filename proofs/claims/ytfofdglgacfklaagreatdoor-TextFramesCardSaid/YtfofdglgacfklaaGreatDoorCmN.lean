/-
  Slices of slices, what is built, and all operations that look at no memory together.
-/
import Derived.Test.YtfofdglgacfklaaGreatDoorCmM
namespace Go.Cm
open Go Go.RowKit

def ORel (μ : Mu) : Option Value → Option Value → Prop
  | none, none => True
  | some v, some v' => VRel μ v v'
  | _, _ => False

section
variable {E : Env} (ok : E.Ok) {μ : Mu} {w : World}

theorem bound_run {v v' : Option Value} {dflt most n : Nat} (h : boundA v dflt most = some n) (hr : ORel μ v v') :
    (v = none ∧ v' = none ∧ n = dflt) ∨ (∃ u', v' = some u' ∧ v.isSome = true ∧ n ≤ most ∧ ∀ (P : Program) (w : World) (m' : Nat) (c : BoundsCode), n ≤ m' → (Instr.sliceBound u' m' c).run P w = .ok n w) := by
  cases v with
  | none =>
    cases v' with
    | none => simp only [boundA, Option.some.injEq] at h; exact Or.inl ⟨rfl, rfl, h.symm⟩
    | some _ => exact hr.elim
  | some u =>
    cases v' with
    | none => exact hr.elim
    | some u' =>
      simp only [boundA, Option.bind_eq_some_iff, Option.map_eq_some_iff, guardO_some] at h
      obtain ⟨k, hk, _, hle, rfl⟩ := h
      obtain ⟨kk, rfl⟩ := idx_some.1 hk
      have := VRel.ofInt hr; subst this
      refine Or.inr ⟨_, rfl, rfl, Nat.le_of_ble_eq_true hle, fun P w m' c hm => ?_⟩
      unfold Instr.sliceBound
      have hc : (0 : Int) ≤ (k : Int) ∧ (k : Int) ≤ (m' : Int) := by omega
      simp only [asIntOf, Sem.run_bind, Sem.run_pure, Result.andThen_ok, Int.ofNat_eq_natCast, hc, and_self, if_true, Int.toNat_natCast]

theorem bounds_run {b : Bool} {n c c' l h m : Nat} {lo hi mx lo' hi' mx' : Option Value} (hb : boundsA n c lo hi mx = some (l, h, m)) (hc : c ≤ c') (h1 : ORel μ lo lo') (h2 : ORel μ hi hi') (h3 : ORel μ mx mx') (P : Program) (w : World) :
    l ≤ h ∧ h ≤ m ∧ m ≤ c ∧ ∃ m', (Instr.sliceBounds b n c' lo' hi' mx').run P w = .ok (l, h, m') w ∧ (mx = none → m = c ∧ m' = c') ∧ (mx ≠ none → m' = m) := by
  unfold boundsA at hb
  simp only [Option.bind_eq_some_iff, Option.map_eq_some_iff, guardO_some, Prod.mk.injEq] at hb
  obtain ⟨m2, hm, _, hg, h0, hh, _, hle, l0, hl, rfl, rfl, rfl⟩ := hb
  have hle := Nat.le_of_ble_eq_true hle
  have hmx := bound_run hm h3
  have hhi := bound_run hh h2
  have hlo := bound_run hl h1
  have hlh : l0 ≤ h0 := by
    rcases hlo with ⟨_, _, e⟩ | ⟨_, _, _, e, _⟩ <;> omega
  unfold Instr.sliceBounds
  rcases hmx with ⟨rfl, rfl, rfl⟩ | ⟨um, rfl, hms, hmle, hmr⟩
  · refine ⟨hlh, hle, Nat.le_refl _, c', ?_, fun _ => ⟨rfl, rfl⟩, fun h => absurd rfl h⟩
    rcases hhi with ⟨rfl, rfl, rfl⟩ | ⟨uh, rfl, hhs, hhle, hhr⟩
    · rcases hlo with ⟨rfl, rfl, rfl⟩ | ⟨ul, rfl, hls, hlle, hlr⟩
      · simp only [Sem.run_bind, Sem.run_pure, Result.andThen_ok]
      · simp only [Sem.run_bind, Sem.run_pure, Result.andThen_ok, hlr P w _ _ hlle]
    · rcases hlo with ⟨rfl, rfl, rfl⟩ | ⟨ul, rfl, hls, hlle, hlr⟩
      · simp only [Sem.run_bind, Sem.run_pure, Result.andThen_ok, hhr P w c' _ (by omega)]
      · simp only [Sem.run_bind, Sem.run_pure, Result.andThen_ok, hhr P w c' _ (by omega), hlr P w _ _ hlle]
  · refine ⟨hlh, hle, hmle, m2, ?_, (fun h => by rw [h] at hms; cases hms), fun _ => rfl⟩
    rcases hhi with ⟨rfl, _, _⟩ | ⟨uh, rfl, hhs, hhle, hhr⟩
    · rw [hms] at hg; cases hg
    · rcases hlo with ⟨rfl, rfl, rfl⟩ | ⟨ul, rfl, hls, hlle, hlr⟩
      · simp only [Sem.run_bind, Sem.run_pure, Result.andThen_ok, hmr P w c' _ (by omega), hhr P w m2 _ (by omega)]
      · simp only [Sem.run_bind, Sem.run_pure, Result.andThen_ok, hmr P w c' _ (by omega), hhr P w m2 _ (by omega), hlr P w _ _ hlle]

include ok
theorem does_slice {t : TypeId} {x x' v : Value} {lo hi mx lo' hi' mx' : Option Value} (h : sliceA E t x lo hi mx = some v) (hx : VRel μ x x') (h1 : ORel μ lo lo') (h2 : ORel μ hi hi') (h3 : ORel μ mx mx') (hsy : μ.sy = E.sy) :
    ∃ v', (Instr.sliceAt t x' lo' hi' mx').run E.P w = .ok v' w ∧ VRel μ v v' := by
  unfold sliceA at h
  cases htk : isTok x with
  | true =>
    rw [htk, cond_true] at h
    simp only [Option.bind_eq_some_iff, guardO_some, Bool.and_eq_true] at h
    obtain ⟨_, ⟨⟨p1, p2⟩, p3⟩, h⟩ := h
    have same : ∀ {a a' : Option Value}, ORel μ a a' → plainO a = true → a' = a := fun {a a'} hr hp => by
      cases a <;> cases a'
      · rfl
      · exact hr.elim
      · exact hr.elim
      · exact congrArg some (VRel.eq hp hr)
    obtain ⟨v', hr, hv'⟩ := ok.askS t x v x' lo hi mx w h (hsy ▸ TokV.of hx (by unfold tokish; rw [htk]; rfl))
    rw [same h1 p1, same h2 p2, same h3 p3]
    exact ⟨v', hr, (hsy ▸ hv' : TokV μ.sy v v').rel⟩
  | false =>
  rw [htk, cond_false] at h
  rw [Option.bind_eq_some_iff] at h
  obtain ⟨d, hd, h⟩ := h
  split at h
  · simp only [Option.bind_eq_some_iff, asStr_some] at h
    obtain ⟨st, rfl, h⟩ := h
    have := hx.ofString; subst this
    unfold sliceStr at h
    split at h
    · cases h
    · cases mx' with
      | some _ => exact h3.elim
      | none =>
        simp only [Option.bind_eq_some_iff, Option.map_eq_some_iff] at h
        obtain ⟨hh, hhb, l, hlb, rfl⟩ := h
        refine ⟨_, ?_, .plain _ rfl⟩
        have hbnd : (Instr.sliceBounds false st.size st.size lo' hi' none).run E.P w = .ok (l, hh, st.size) w := by
          unfold Instr.sliceBounds
          rcases bound_run hhb h2 with ⟨rfl, rfl, rfl⟩ | ⟨uh, rfl, hhs, hhle, hhr⟩
          · rcases bound_run hlb h1 with ⟨rfl, rfl, rfl⟩ | ⟨ul, rfl, hls, hlle, hlr⟩
            · simp only [Sem.run_bind, Sem.run_pure, Result.andThen_ok]
            · simp only [Sem.run_bind, Sem.run_pure, Result.andThen_ok, hlr E.P w _ _ hlle]
          · rcases bound_run hlb h1 with ⟨rfl, rfl, rfl⟩ | ⟨ul, rfl, hls, hlle, hlr⟩
            · simp only [Sem.run_bind, Sem.run_pure, Result.andThen_ok, hhr E.P w _ _ hhle]
            · simp only [Sem.run_bind, Sem.run_pure, Result.andThen_ok, hhr E.P w _ _ hhle, hlr E.P w _ _ hlle]
        unfold Instr.sliceAt Instr.slice
        simp only [Sem.run_bind, ok.run_und w hd, Result.andThen_ok, Option.isSome_none, Bool.false_eq_true, if_false, hbnd, Sem.run_pure]
  · rename_i e
    simp only [Option.bind_eq_some_iff] at h
    obtain ⟨i, hi2, h⟩ := h
    cases hfz : asFz x with
    | some p =>
      obtain ⟨g, n, cs⟩ := p
      simp only [hfz] at h
      unfold sliceF at h
      simp only [Option.bind_eq_some_iff, Option.map_eq_some_iff, guardO_some] at h
      obtain ⟨_, hg, ⟨l, hh, m⟩, hb, cl, hcl, rfl⟩ := h
      have hg' := Nat.eq_of_beq_eq_true hg
      subst hg'
      rw [asFz_some] at hfz
      simp only at hfz hb hcl ⊢
      subst hfz
      obtain ⟨a, cap, l', rfl, hsp, hc, hl, hm⟩ := hx.ofArr
      obtain ⟨g1, g2, g3, m', gr, ge, gn⟩ := bounds_run (b := true) hb hc h1 h2 h3 E.P w
      have hrun : (Instr.sliceAt t (.slice (some a) n cap) lo' hi' mx').run E.P w = .ok (.slice (if m' = l then some a else (some a).map (·.add (l * i.size))) (hh - l) (m' - l)) w := by
        unfold Instr.sliceAt Instr.slice
        simp only [Sem.run_bind, ok.run_und w hd, Result.andThen_ok, gr, ok.run_size w hi2, Sem.run_pure]
      refine ⟨_, hrun, ?_⟩
      cases hmx : (mx.isSome && Nat.beq m l) with
      | true =>
        simp only [Bool.and_eq_true] at hmx
        have hml := Nat.eq_of_beq_eq_true hmx.2
        have hmm : m' = m := gn (fun e => by rw [e] at hmx; exact absurd hmx.1 (by simp))
        rw [cond_true, if_pos (by omega), show hh - l = 0 by omega, show m' - l = 0 by omega]
        exact .over _ _
      | false =>
        rw [cond_false]
        obtain ⟨hcl1, hcl2⟩ := piece_some hcl
        by_cases hz : hh - l = 0
        · rw [hz]
          rw [hz, Nat.zero_mul] at hcl2
          have : cl = [] := List.length_eq_zero_iff.1 hcl2
          subst this
          split
          · exact .arr 0 [] a _ [] (Or.inl rfl) (Nat.zero_le _) .nil (fun i v h => by simp at h)
          · exact .arr 0 [] _ _ [] (Or.inl rfl) (Nat.zero_le _) .nil (fun i v h => by simp at h)
        · have hn0 : n ≠ 0 := by omega
          obtain ⟨b, z, sp⟩ := a
          have hsp' : sp = none := hsp.elim (fun e => absurd e hn0) id
          subst hsp'
          have hmc : hh ≤ m' := by cases mx with | none => have := ge rfl; omega | some _ => have := gn (by simp); omega
          rw [if_neg (by omega)]
          subst hcl1
          simp only [Option.map_some, addr_add]
          refine .arr _ _ _ _ ((l'.drop (l * i.size)).take ((hh - l) * i.size)) (Or.inr rfl) (by omega) ((hl.drop _).take _) ?_
          exact objAt_drop hm _ _
    | none =>
    simp only [hfz, Option.bind_eq_some_iff, Option.map_eq_some_iff, asSlice_some] at h
    obtain ⟨⟨b, n, c⟩, rfl, ⟨l, hh, m⟩, hb, a2, hm, rfl⟩ := h
    simp only at hb hx hm ⊢
    have hrun : ∀ (a' : Option Addr) (c' m' : Nat), x' = .slice a' n c' → (Instr.sliceBounds true n c' lo' hi' mx').run E.P w = .ok (l, hh, m') w →
        (Instr.sliceAt t x' lo' hi' mx').run E.P w = .ok (.slice (if m' = l then a' else a'.map (·.add (l * i.size))) (hh - l) (m' - l)) w := by
      intro a' c' m' hx' hbr
      subst hx'
      unfold Instr.sliceAt Instr.slice
      simp only [Sem.run_bind, ok.run_und w hd, Result.andThen_ok, hbr, ok.run_size w hi2, Sem.run_pure]
    cases b with
    | none =>
      have := hx.ofNilSlice; subst this
      obtain ⟨g1, g2, g3, m', gr, ge, gn⟩ := bounds_run hb (Nat.le_refl _) h1 h2 h3 E.P w
      simp only [movedA, Option.some.injEq] at hm; subst hm
      refine ⟨_, hrun _ _ _ rfl gr, ?_⟩
      have : m' = m := by cases mx with | none => have := ge rfl; omega | some _ => exact gn (by simp)
      subst this
      split
      · exact .plain _ rfl
      · exact .plain _ rfl
    | some a =>
      simp only [movedA, Option.map_eq_some_iff] at hm
      obtain ⟨a3, hm, rfl⟩ := hm
      obtain ⟨r, off, sp⟩ := a
      rcases hx.ofSlice with ⟨L, hsp, hL, e1⟩ | ⟨L, c2, hsp, hL, hc2, hx2, e1⟩ | ⟨a2, rfl, rfl, e1⟩
      · simp only at hsp hL; subst hsp
        obtain ⟨g1, g2, g3, m', gr, ge, gn⟩ := bounds_run hb (Nat.le_refl _) h1 h2 h3 E.P w
        have hmm : m' = m := by cases mx with | none => have := ge rfl; omega | some _ => exact gn (by simp)
        subst hmm
        refine ⟨_, hrun _ _ _ e1 gr, ?_⟩
        have ha3 : a3 = ⟨r, off + l * i.size, none⟩ := by
          unfold moveA at hm
          cases mx <;> (simp only [Option.some.injEq] at hm; exact hm.symm)
        subst ha3
        by_cases hml : m' = l
        · rw [if_pos hml, show hh - l = 0 by omega, show m' - l = 0 by omega]; exact .over _ _
        · rw [if_neg hml]
          simp only [Option.map_some, addr_add, Nat.add_assoc]
          exact .slice r _ _ _ L hL
      · simp only at hsp hL hx2; subst hsp
        obtain ⟨g1, g2, g3, m', gr, ge, gn⟩ := bounds_run hb hc2 h1 h2 h3 E.P w
        refine ⟨_, hrun _ _ _ e1 gr, ?_⟩
        cases mx with
        | none =>
          obtain ⟨rfl, rfl⟩ := ge rfl
          simp only [moveA, Option.map_eq_some_iff, guardO_some] at hm
          obtain ⟨_, hes, rfl⟩ := hm
          have hes := Nat.eq_of_beq_eq_true hes
          by_cases hml : m' = l
          · rw [if_pos hml, show hh - l = 0 by omega, show m - l = 0 by omega, show m' - l = 0 by omega]; exact .over _ _
          · rw [if_neg hml]
            simp only [Option.map_some, addr_add, Nat.add_assoc]
            refine .grown r _ _ _ _ L hL (by omega) ?_
            rw [← hes]
            have : l * L.es + (m' - l) * L.es = m' * L.es := by rw [← Nat.add_mul]; congr 1; omega
            omega
        | some u =>
          have hmm := gn (by simp)
          subst hmm
          simp only [moveA, Option.some.injEq] at hm
          subst hm
          by_cases hml : m' = l
          · rw [if_pos hml, show hh - l = 0 by omega, show m' - l = 0 by omega]; exact .over _ _
          · rw [if_neg hml]
            simp only [Option.map_some, addr_add, Nat.add_assoc]
            exact .slice r _ _ _ L hL
      · obtain ⟨g1, g2, g3, m', gr, ge, gn⟩ := bounds_run hb (Nat.le_refl _) h1 h2 h3 E.P w
        have hmm : m' = m := by cases mx with | none => have := ge rfl; omega | some _ => exact gn (by simp)
        subst hmm
        refine ⟨_, hrun _ _ _ e1 gr, ?_⟩
        rw [if_pos (by omega), show hh - l = 0 by omega, show m' - l = 0 by omega]; exact .over _ _
  · rename_i n e
    simp only [Option.bind_eq_some_iff, Option.map_eq_some_iff, asRef_some] at h
    obtain ⟨i, hi2, ⟨r, off⟩, rfl, ⟨l, hh, m⟩, hb, rfl⟩ := h
    obtain ⟨L, hL, rfl⟩ := hx.ofPtr
    obtain ⟨g1, g2, g3, m', gr, ge, gn⟩ := bounds_run (b := false) hb (Nat.le_refl _) h1 h2 h3 E.P w
    have hmm : m' = m := by cases mx with | none => have := ge rfl; omega | some _ => exact gn (by simp)
    subst hmm
    refine ⟨.slice (some (if m' = l then ⟨L.b, L.o + off, none⟩ else (⟨L.b, L.o + off, none⟩ : Addr).add (l * i.size))) (hh - l) (m' - l), ?_, ?_⟩
    · unfold Instr.sliceAt Instr.sureAddr
      simp only [Sem.run_bind, ok.run_und w hd, Result.andThen_ok, Sem.run_pure, gr, ok.run_size w hi2]
    · by_cases hml : m' = l
      · rw [if_pos hml]
        simp only [show hh - l = 0 by omega, show m' - l = 0 by omega]; exact .over _ _
      · rw [if_neg hml, addr_add, Nat.add_assoc]
        exact .slice r _ _ _ L hL
  · cases h

theorem places_run : ∀ (fs : List Field) (ps : List (Nat × Nat)), placesA E fs = some ps → (fs.mapM fun f => do pure (f.offset, ← Go.sizeOf f.type) : Sem (List (Nat × Nat))).run E.P w = .ok ps w
  | [], ps, h => by simp only [placesA, Option.some.injEq] at h; subst h; rfl
  | f :: fs, ps, h => by
    simp only [placesA, Option.bind_eq_some_iff, Option.map_eq_some_iff] at h
    obtain ⟨i, hi, ps', hp, rfl⟩ := h
    simp only [List.mapM_cons, Sem.run_bind, ok.run_size w hi, Result.andThen_ok, Sem.run_pure, places_run fs ps' hp]

theorem does_build {t : TypeId} {ps : List (Nat × Value)} {ps' : Array (Nat × Value)} {v : Value} (h : buildA E t ps = some v) (hp : PRels μ ps ps'.toList) : ∃ v', (Instr.build t ps').run E.P w = .ok v' w ∧ VRel μ v v' := by
  unfold buildA at h
  simp only [Option.bind_eq_some_iff] at h
  obtain ⟨z, hz, d, hd, h⟩ := h
  have hzp := zero_plain hz
  split at h
  · rename_i fs
    simp only [buildStruct, Option.bind_eq_some_iff, Option.map_eq_some_iff] at h
    obtain ⟨pl, hpl, cs, hf, rfl⟩ := h
    obtain ⟨l', hfl, hv⟩ := does_fill _ ps ps'.toList _ cs _ hf hp (VRels.plain (plain_cells hzp))
    refine ⟨.agg ⟨l'⟩, ?_, .agg _ _ hv⟩
    unfold Instr.build
    have hmap : (fs.mapM fun f => do pure (f.offset, ← Go.sizeOf f.type) : Sem (Array (Nat × Nat))).run E.P w = .ok ⟨pl⟩ w := by
      rw [Array.mapM_eq_mapM_toList]
      simp only [Sem.run_map, places_run ok fs.toList pl hpl, Result.andThen_ok]
    simp only [Sem.run_bind, (ok.run_zero w hz).1, ok.run_und w hd, Result.andThen_ok, hmap]
    have hfl' : Instr.fill ((⟨pl⟩ : Array (Nat × Nat))[·]?) z.cells ps'.toList = some ⟨l'⟩ := by
      have : z.cells = ⟨z.cells.toList⟩ := by cases z.cells; rfl
      rw [this]; simpa using hfl
    simp only [hfl', Sem.run_pure]
  · rename_i n e
    simp only [buildArray, Option.bind_eq_some_iff, Option.map_eq_some_iff] at h
    obtain ⟨i, hi, cs, hf, rfl⟩ := h
    obtain ⟨l', hfl, hv⟩ := does_fill _ ps ps'.toList _ cs _ hf hp (VRels.plain (plain_cells hzp))
    refine ⟨.agg ⟨l'⟩, ?_, .agg _ _ hv⟩
    unfold Instr.build
    have hfl' : Instr.fill (fun k => some (k * i.size, i.size)) z.cells ps'.toList = some ⟨l'⟩ := by
      have : z.cells = ⟨z.cells.toList⟩ := by cases z.cells; rfl
      rw [this]; exact hfl
    simp only [Sem.run_bind, (ok.run_zero w hz).1, ok.run_und w hd, Result.andThen_ok, ok.run_size w hi, hfl', Sem.run_pure]
  · cases h
end
end Go.Cm
