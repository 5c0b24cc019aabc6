/-
  Slices of slices, what is built, and all operations that look at no memory together. An operation: what the machine does with a frame, the model does with its own. Any operation, calls too.
-/
import Derived.Test.YtkcibhokjiciiaaMe
namespace Go.Cm
open Go Go.RowKit

def ORel (μ : Mu) : Option Value → Option Value → Prop
  | none, none => True
  | some v, some v' => VRel μ v v'
  | _, _ => False

section
variable {E : Env} (ok : E.Ok) {μ : Mu} {w : World}

theorem bound_run {v v' : Option Value} {dflt most n : Nat} (h : boundA v dflt most = some n) (hr : ORel μ v v') :
    (v = none ∧ v' = none ∧ n = dflt) ∨ (∃ u', v' = some u' ∧ v.isSome = true ∧ n ≤ most ∧ ∀ (P : Program) (w : World) (m' : Nat) (c : BoundsCode), n ≤ m' → (Instr.sliceBound u' m' c).run P w = .ok n w) := by
  cases v with
  | none =>
    cases v' with
    | none => simp only [boundA, Option.some.injEq] at h; exact Or.inl ⟨rfl, rfl, h.symm⟩
    | some _ => exact hr.elim
  | some u =>
    cases v' with
    | none => exact hr.elim
    | some u' =>
      simp only [boundA, Option.bind_eq_some_iff, Option.map_eq_some_iff, guardO_some] at h
      obtain ⟨k, hk, _, hle, rfl⟩ := h
      obtain ⟨kk, rfl⟩ := idx_some.1 hk
      have := VRel.ofInt hr; subst this
      refine Or.inr ⟨_, rfl, rfl, Nat.le_of_ble_eq_true hle, fun P w m' c hm => ?_⟩
      unfold Instr.sliceBound
      have hc : (0 : Int) ≤ (k : Int) ∧ (k : Int) ≤ (m' : Int) := by omega
      simp only [asIntOf, Sem.run_bind, Sem.run_pure, Result.andThen_ok, Int.ofNat_eq_natCast, hc, and_self, if_true, Int.toNat_natCast]

theorem bounds_run {b : Bool} {n c c' l h m : Nat} {lo hi mx lo' hi' mx' : Option Value} (hb : boundsA n c lo hi mx = some (l, h, m)) (hc : c ≤ c') (h1 : ORel μ lo lo') (h2 : ORel μ hi hi') (h3 : ORel μ mx mx') (P : Program) (w : World) :
    l ≤ h ∧ h ≤ m ∧ m ≤ c ∧ ∃ m', (Instr.sliceBounds b n c' lo' hi' mx').run P w = .ok (l, h, m') w ∧ (mx = none → m = c ∧ m' = c') ∧ (mx ≠ none → m' = m) := by
  unfold boundsA at hb
  simp only [Option.bind_eq_some_iff, Option.map_eq_some_iff, guardO_some, Prod.mk.injEq] at hb
  obtain ⟨m2, hm, _, hg, h0, hh, _, hle, l0, hl, rfl, rfl, rfl⟩ := hb
  have hle := Nat.le_of_ble_eq_true hle
  have hmx := bound_run hm h3
  have hhi := bound_run hh h2
  have hlo := bound_run hl h1
  have hlh : l0 ≤ h0 := by
    rcases hlo with ⟨_, _, e⟩ | ⟨_, _, _, e, _⟩ <;> omega
  unfold Instr.sliceBounds
  rcases hmx with ⟨rfl, rfl, rfl⟩ | ⟨um, rfl, hms, hmle, hmr⟩
  · refine ⟨hlh, hle, Nat.le_refl _, c', ?_, fun _ => ⟨rfl, rfl⟩, fun h => absurd rfl h⟩
    rcases hhi with ⟨rfl, rfl, rfl⟩ | ⟨uh, rfl, hhs, hhle, hhr⟩
    · rcases hlo with ⟨rfl, rfl, rfl⟩ | ⟨ul, rfl, hls, hlle, hlr⟩
      · simp only [Sem.run_bind, Sem.run_pure, Result.andThen_ok]
      · simp only [Sem.run_bind, Sem.run_pure, Result.andThen_ok, hlr P w _ _ hlle]
    · rcases hlo with ⟨rfl, rfl, rfl⟩ | ⟨ul, rfl, hls, hlle, hlr⟩
      · simp only [Sem.run_bind, Sem.run_pure, Result.andThen_ok, hhr P w c' _ (by omega)]
      · simp only [Sem.run_bind, Sem.run_pure, Result.andThen_ok, hhr P w c' _ (by omega), hlr P w _ _ hlle]
  · refine ⟨hlh, hle, hmle, m2, ?_, (fun h => by rw [h] at hms; cases hms), fun _ => rfl⟩
    rcases hhi with ⟨rfl, _, _⟩ | ⟨uh, rfl, hhs, hhle, hhr⟩
    · rw [hms] at hg; cases hg
    · rcases hlo with ⟨rfl, rfl, rfl⟩ | ⟨ul, rfl, hls, hlle, hlr⟩
      · simp only [Sem.run_bind, Sem.run_pure, Result.andThen_ok, hmr P w c' _ (by omega), hhr P w m2 _ (by omega)]
      · simp only [Sem.run_bind, Sem.run_pure, Result.andThen_ok, hmr P w c' _ (by omega), hhr P w m2 _ (by omega), hlr P w _ _ hlle]

include ok
theorem does_slice {t : TypeId} {x x' v : Value} {lo hi mx lo' hi' mx' : Option Value} (h : sliceA E t x lo hi mx = some v) (hx : VRel μ x x') (h1 : ORel μ lo lo') (h2 : ORel μ hi hi') (h3 : ORel μ mx mx') (hsy : μ.sy = E.sy) :
    ∃ v', (Instr.sliceAt t x' lo' hi' mx').run E.P w = .ok v' w ∧ VRel μ v v' := by
  unfold sliceA at h
  cases htk : isTok x with
  | true =>
    rw [htk, cond_true] at h
    simp only [Option.bind_eq_some_iff, guardO_some, Bool.and_eq_true] at h
    obtain ⟨_, ⟨⟨p1, p2⟩, p3⟩, h⟩ := h
    have same : ∀ {a a' : Option Value}, ORel μ a a' → plainO a = true → a' = a := fun {a a'} hr hp => by
      cases a <;> cases a'
      · rfl
      · exact hr.elim
      · exact hr.elim
      · exact congrArg some (VRel.eq hp hr)
    obtain ⟨v', hr, hv'⟩ := ok.askS t x v x' lo hi mx w h (hsy ▸ TokV.of hx (by unfold tokish; rw [htk]; rfl))
    rw [same h1 p1, same h2 p2, same h3 p3]
    exact ⟨v', hr, (hsy ▸ hv' : TokV μ.sy v v').rel⟩
  | false =>
  rw [htk, cond_false] at h
  rw [Option.bind_eq_some_iff] at h
  obtain ⟨d, hd, h⟩ := h
  split at h
  · simp only [Option.bind_eq_some_iff, asStr_some] at h
    obtain ⟨st, rfl, h⟩ := h
    have := hx.ofString; subst this
    unfold sliceStr at h
    split at h
    · cases h
    · cases mx' with
      | some _ => exact h3.elim
      | none =>
        simp only [Option.bind_eq_some_iff, Option.map_eq_some_iff] at h
        obtain ⟨hh, hhb, l, hlb, rfl⟩ := h
        refine ⟨_, ?_, .plain _ rfl⟩
        have hbnd : (Instr.sliceBounds false st.size st.size lo' hi' none).run E.P w = .ok (l, hh, st.size) w := by
          unfold Instr.sliceBounds
          rcases bound_run hhb h2 with ⟨rfl, rfl, rfl⟩ | ⟨uh, rfl, hhs, hhle, hhr⟩
          · rcases bound_run hlb h1 with ⟨rfl, rfl, rfl⟩ | ⟨ul, rfl, hls, hlle, hlr⟩
            · simp only [Sem.run_bind, Sem.run_pure, Result.andThen_ok]
            · simp only [Sem.run_bind, Sem.run_pure, Result.andThen_ok, hlr E.P w _ _ hlle]
          · rcases bound_run hlb h1 with ⟨rfl, rfl, rfl⟩ | ⟨ul, rfl, hls, hlle, hlr⟩
            · simp only [Sem.run_bind, Sem.run_pure, Result.andThen_ok, hhr E.P w _ _ hhle]
            · simp only [Sem.run_bind, Sem.run_pure, Result.andThen_ok, hhr E.P w _ _ hhle, hlr E.P w _ _ hlle]
        unfold Instr.sliceAt Instr.slice
        simp only [Sem.run_bind, ok.run_und w hd, Result.andThen_ok, Option.isSome_none, Bool.false_eq_true, if_false, hbnd, Sem.run_pure]
  · rename_i e
    simp only [Option.bind_eq_some_iff] at h
    obtain ⟨i, hi2, h⟩ := h
    cases hfz : asFz x with
    | some p =>
      obtain ⟨g, n, cs⟩ := p
      simp only [hfz] at h
      unfold sliceF at h
      simp only [Option.bind_eq_some_iff, Option.map_eq_some_iff, guardO_some] at h
      obtain ⟨_, hg, ⟨l, hh, m⟩, hb, cl, hcl, rfl⟩ := h
      have hg' := Nat.eq_of_beq_eq_true hg
      subst hg'
      rw [asFz_some] at hfz
      simp only at hfz hb hcl ⊢
      subst hfz
      obtain ⟨a, cap, l', rfl, hsp, hc, hl, hm⟩ := hx.ofArr
      obtain ⟨g1, g2, g3, m', gr, ge, gn⟩ := bounds_run (b := true) hb hc h1 h2 h3 E.P w
      have hrun : (Instr.sliceAt t (.slice (some a) n cap) lo' hi' mx').run E.P w = .ok (.slice (if m' = l then some a else (some a).map (·.add (l * i.size))) (hh - l) (m' - l)) w := by
        unfold Instr.sliceAt Instr.slice
        simp only [Sem.run_bind, ok.run_und w hd, Result.andThen_ok, gr, ok.run_size w hi2, Sem.run_pure]
      refine ⟨_, hrun, ?_⟩
      cases hmx : (mx.isSome && Nat.beq m l) with
      | true =>
        simp only [Bool.and_eq_true] at hmx
        have hml := Nat.eq_of_beq_eq_true hmx.2
        have hmm : m' = m := gn (fun e => by rw [e] at hmx; exact absurd hmx.1 (by simp))
        rw [cond_true, if_pos (by omega), show hh - l = 0 by omega, show m' - l = 0 by omega]
        exact .over _ _
      | false =>
        rw [cond_false]
        obtain ⟨hcl1, hcl2⟩ := piece_some hcl
        by_cases hz : hh - l = 0
        · rw [hz]
          rw [hz, Nat.zero_mul] at hcl2
          have : cl = [] := List.length_eq_zero_iff.1 hcl2
          subst this
          split
          · exact .arr 0 [] a _ [] (Or.inl rfl) (Nat.zero_le _) .nil (fun i v h => by simp at h)
          · exact .arr 0 [] _ _ [] (Or.inl rfl) (Nat.zero_le _) .nil (fun i v h => by simp at h)
        · have hn0 : n ≠ 0 := by omega
          obtain ⟨b, z, sp⟩ := a
          have hsp' : sp = none := hsp.elim (fun e => absurd e hn0) id
          subst hsp'
          have hmc : hh ≤ m' := by cases mx with | none => have := ge rfl; omega | some _ => have := gn (by simp); omega
          rw [if_neg (by omega)]
          subst hcl1
          simp only [Option.map_some, addr_add]
          refine .arr _ _ _ _ ((l'.drop (l * i.size)).take ((hh - l) * i.size)) (Or.inr rfl) (by omega) ((hl.drop _).take _) ?_
          exact objAt_drop hm _ _
    | none =>
    simp only [hfz, Option.bind_eq_some_iff, Option.map_eq_some_iff, asSlice_some] at h
    obtain ⟨⟨b, n, c⟩, rfl, ⟨l, hh, m⟩, hb, a2, hm, rfl⟩ := h
    simp only at hb hx hm ⊢
    have hrun : ∀ (a' : Option Addr) (c' m' : Nat), x' = .slice a' n c' → (Instr.sliceBounds true n c' lo' hi' mx').run E.P w = .ok (l, hh, m') w →
        (Instr.sliceAt t x' lo' hi' mx').run E.P w = .ok (.slice (if m' = l then a' else a'.map (·.add (l * i.size))) (hh - l) (m' - l)) w := by
      intro a' c' m' hx' hbr
      subst hx'
      unfold Instr.sliceAt Instr.slice
      simp only [Sem.run_bind, ok.run_und w hd, Result.andThen_ok, hbr, ok.run_size w hi2, Sem.run_pure]
    cases b with
    | none =>
      have := hx.ofNilSlice; subst this
      obtain ⟨g1, g2, g3, m', gr, ge, gn⟩ := bounds_run hb (Nat.le_refl _) h1 h2 h3 E.P w
      simp only [movedA, Option.some.injEq] at hm; subst hm
      refine ⟨_, hrun _ _ _ rfl gr, ?_⟩
      have : m' = m := by cases mx with | none => have := ge rfl; omega | some _ => exact gn (by simp)
      subst this
      split
      · exact .plain _ rfl
      · exact .plain _ rfl
    | some a =>
      simp only [movedA, Option.map_eq_some_iff] at hm
      obtain ⟨a3, hm, rfl⟩ := hm
      obtain ⟨r, off, sp⟩ := a
      rcases hx.ofSlice with ⟨L, hsp, hL, e1⟩ | ⟨L, c2, hsp, hL, hc2, hx2, e1⟩ | ⟨a2, rfl, rfl, e1⟩
      · simp only at hsp hL; subst hsp
        obtain ⟨g1, g2, g3, m', gr, ge, gn⟩ := bounds_run hb (Nat.le_refl _) h1 h2 h3 E.P w
        have hmm : m' = m := by cases mx with | none => have := ge rfl; omega | some _ => exact gn (by simp)
        subst hmm
        refine ⟨_, hrun _ _ _ e1 gr, ?_⟩
        have ha3 : a3 = ⟨r, off + l * i.size, none⟩ := by
          unfold moveA at hm
          cases mx <;> (simp only [Option.some.injEq] at hm; exact hm.symm)
        subst ha3
        by_cases hml : m' = l
        · rw [if_pos hml, show hh - l = 0 by omega, show m' - l = 0 by omega]; exact .over _ _
        · rw [if_neg hml]
          simp only [Option.map_some, addr_add, Nat.add_assoc]
          exact .slice r _ _ _ L hL
      · simp only at hsp hL hx2; subst hsp
        obtain ⟨g1, g2, g3, m', gr, ge, gn⟩ := bounds_run hb hc2 h1 h2 h3 E.P w
        refine ⟨_, hrun _ _ _ e1 gr, ?_⟩
        cases mx with
        | none =>
          obtain ⟨rfl, rfl⟩ := ge rfl
          simp only [moveA, Option.map_eq_some_iff, guardO_some] at hm
          obtain ⟨_, hes, rfl⟩ := hm
          have hes := Nat.eq_of_beq_eq_true hes
          by_cases hml : m' = l
          · rw [if_pos hml, show hh - l = 0 by omega, show m - l = 0 by omega, show m' - l = 0 by omega]; exact .over _ _
          · rw [if_neg hml]
            simp only [Option.map_some, addr_add, Nat.add_assoc]
            refine .grown r _ _ _ _ L hL (by omega) ?_
            rw [← hes]
            have : l * L.es + (m' - l) * L.es = m' * L.es := by rw [← Nat.add_mul]; congr 1; omega
            omega
        | some u =>
          have hmm := gn (by simp)
          subst hmm
          simp only [moveA, Option.some.injEq] at hm
          subst hm
          by_cases hml : m' = l
          · rw [if_pos hml, show hh - l = 0 by omega, show m' - l = 0 by omega]; exact .over _ _
          · rw [if_neg hml]
            simp only [Option.map_some, addr_add, Nat.add_assoc]
            exact .slice r _ _ _ L hL
      · obtain ⟨g1, g2, g3, m', gr, ge, gn⟩ := bounds_run hb (Nat.le_refl _) h1 h2 h3 E.P w
        have hmm : m' = m := by cases mx with | none => have := ge rfl; omega | some _ => exact gn (by simp)
        subst hmm
        refine ⟨_, hrun _ _ _ e1 gr, ?_⟩
        rw [if_pos (by omega), show hh - l = 0 by omega, show m' - l = 0 by omega]; exact .over _ _
  · rename_i n e
    simp only [Option.bind_eq_some_iff, Option.map_eq_some_iff, asRef_some] at h
    obtain ⟨i, hi2, ⟨r, off⟩, rfl, ⟨l, hh, m⟩, hb, rfl⟩ := h
    obtain ⟨L, hL, rfl⟩ := hx.ofPtr
    obtain ⟨g1, g2, g3, m', gr, ge, gn⟩ := bounds_run (b := false) hb (Nat.le_refl _) h1 h2 h3 E.P w
    have hmm : m' = m := by cases mx with | none => have := ge rfl; omega | some _ => exact gn (by simp)
    subst hmm
    refine ⟨.slice (some (if m' = l then ⟨L.b, L.o + off, none⟩ else (⟨L.b, L.o + off, none⟩ : Addr).add (l * i.size))) (hh - l) (m' - l), ?_, ?_⟩
    · unfold Instr.sliceAt Instr.sureAddr
      simp only [Sem.run_bind, ok.run_und w hd, Result.andThen_ok, Sem.run_pure, gr, ok.run_size w hi2]
    · by_cases hml : m' = l
      · rw [if_pos hml]
        simp only [show hh - l = 0 by omega, show m' - l = 0 by omega]; exact .over _ _
      · rw [if_neg hml, addr_add, Nat.add_assoc]
        exact .slice r _ _ _ L hL
  · cases h

theorem places_run : ∀ (fs : List Field) (ps : List (Nat × Nat)), placesA E fs = some ps → (fs.mapM fun f => do pure (f.offset, ← Go.sizeOf f.type) : Sem (List (Nat × Nat))).run E.P w = .ok ps w
  | [], ps, h => by simp only [placesA, Option.some.injEq] at h; subst h; rfl
  | f :: fs, ps, h => by
    simp only [placesA, Option.bind_eq_some_iff, Option.map_eq_some_iff] at h
    obtain ⟨i, hi, ps', hp, rfl⟩ := h
    simp only [List.mapM_cons, Sem.run_bind, ok.run_size w hi, Result.andThen_ok, Sem.run_pure, places_run fs ps' hp]

theorem does_build {t : TypeId} {ps : List (Nat × Value)} {ps' : Array (Nat × Value)} {v : Value} (h : buildA E t ps = some v) (hp : PRels μ ps ps'.toList) : ∃ v', (Instr.build t ps').run E.P w = .ok v' w ∧ VRel μ v v' := by
  unfold buildA at h
  simp only [Option.bind_eq_some_iff] at h
  obtain ⟨z, hz, d, hd, h⟩ := h
  have hzp := zero_plain hz
  split at h
  · rename_i fs
    simp only [buildStruct, Option.bind_eq_some_iff, Option.map_eq_some_iff] at h
    obtain ⟨pl, hpl, cs, hf, rfl⟩ := h
    obtain ⟨l', hfl, hv⟩ := does_fill _ ps ps'.toList _ cs _ hf hp (VRels.plain (plain_cells hzp))
    refine ⟨.agg ⟨l'⟩, ?_, .agg _ _ hv⟩
    unfold Instr.build
    have hmap : (fs.mapM fun f => do pure (f.offset, ← Go.sizeOf f.type) : Sem (Array (Nat × Nat))).run E.P w = .ok ⟨pl⟩ w := by
      rw [Array.mapM_eq_mapM_toList]
      simp only [Sem.run_map, places_run ok fs.toList pl hpl, Result.andThen_ok]
    simp only [Sem.run_bind, (ok.run_zero w hz).1, ok.run_und w hd, Result.andThen_ok, hmap]
    have hfl' : Instr.fill ((⟨pl⟩ : Array (Nat × Nat))[·]?) z.cells ps'.toList = some ⟨l'⟩ := by
      have : z.cells = ⟨z.cells.toList⟩ := by cases z.cells; rfl
      rw [this]; simpa using hfl
    simp only [hfl', Sem.run_pure]
  · rename_i n e
    simp only [buildArray, Option.bind_eq_some_iff, Option.map_eq_some_iff] at h
    obtain ⟨i, hi, cs, hf, rfl⟩ := h
    obtain ⟨l', hfl, hv⟩ := does_fill _ ps ps'.toList _ cs _ hf hp (VRels.plain (plain_cells hzp))
    refine ⟨.agg ⟨l'⟩, ?_, .agg _ _ hv⟩
    unfold Instr.build
    have hfl' : Instr.fill (fun k => some (k * i.size, i.size)) z.cells ps'.toList = some ⟨l'⟩ := by
      have : z.cells = ⟨z.cells.toList⟩ := by cases z.cells; rfl
      rw [this]; exact hfl
    simp only [Sem.run_bind, (ok.run_zero w hz).1, ok.run_und w hd, Result.andThen_ok, ok.run_size w hi, hfl', Sem.run_pure]
  · cases h
end
end Go.Cm
namespace Go.Cm
open Go Go.RowKit

structure FRel (μ : Mu) (fr : Fr) (tmps : Array Value) : Prop where
  n : fr.n = tmps.size
  le : fr.n ≤ 1024
  at_ : ∀ t, t < fr.n → VRel μ (FT.get 5 fr.t t) (tmps.getD t undef)

theorem FRel.get {μ : Mu} {fr : Fr} {tmps : Array Value} (h : FRel μ fr tmps) (t : Nat) : VRel μ (fr.get t) (tmps.getD t undef) := by
  rw [Fr.get_eq]
  cases hb : Nat.blt t fr.n with
  | true => exact h.at_ t (blt_lt hb)
  | false =>
    have : ¬ t < tmps.size := by
      intro hh
      have : Nat.blt t fr.n = true := Nat.ble_eq_true_of_le (by rw [h.n]; exact hh)
      rw [this] at hb; cases hb
    have he : tmps.getD t undef = undef := by simp [Array.getD, this]
    rw [he]; exact .plain _ rfl

theorem FRel.mono {μ μ' : Mu} {fr : Fr} {tmps : Array Value} (h : FRel μ fr tmps) (hm : μ.le μ') : FRel μ' fr tmps := ⟨h.n, h.le, fun t ht => (h.at_ t ht).mono hm⟩

theorem FRel.put {μ : Mu} {fr : Fr} {tmps : Array Value} (h : FRel μ fr tmps) {d : Nat} (hd : d < fr.n) {v v' : Value} (hv : VRel μ v v') : FRel μ (fr.put d v) (tmps.setIfInBounds d v') where
  n := by rw [Fr.put_eq]; simp [h.n]
  le := by rw [Fr.put_eq]; exact h.le
  at_ := fun t ht => by
    have ht' : t < fr.n := by rw [Fr.put_eq] at ht; exact ht
    have hn := h.n
    have hle := h.le
    rw [Fr.put_eq]
    show VRel μ (FT.get 5 (FT.put 5 fr.t d v) t) _
    rw [FT.get_put 5 fr.t d t v (by show d < 1024; omega) (by show t < 1024; omega)]
    by_cases e : t = d
    · subst e
      rw [if_pos rfl]
      have : (tmps.setIfInBounds t v').getD t undef = v' := by simp [Array.getD]; intro hh; omega
      rw [this]; exact hv
    · rw [if_neg e]
      have : (tmps.setIfInBounds d v').getD t undef = tmps.getD t undef := by
        simp only [Array.getD, Array.size_setIfInBounds]
        split
        · rename_i hlt
          exact Array.getElem_setIfInBounds_ne hlt (Ne.symm e)
        · rfl
      rw [this]; exact h.at_ t ht'

theorem VRel.toBool {μ : Mu} {v : Value} {b : Bool} (h : VRel μ v (.bool b)) (hj : darkV v = false) : v = .bool b := by
  cases h with
  | plain => rfl
  | any => simp [darkV, isJunk] at hj
  | tok c _ hc => rw [show darkV (.chan (some c)) = true from Nat.ble_eq_true_of_le hc] at hj; cases hj

def NRel (μ : Mu) : Nx → Next → Prop
  | .value v, .value v' => VRel μ v v'
  | .skip, .skip => True
  | _, _ => False

section
variable {E : Env} (ok : E.Ok) {base : Nat} {μ : Mu} {w : World}
include ok

omit ok in
theorem prels_of {ρ ρ' : Operand → Value} : ∀ (l : List (Nat × Operand)), (∀ p ∈ l, VRel μ (ρ p.2) (ρ' p.2)) → PRels μ (l.map fun p => (p.1, ρ p.2)) (l.map fun p => (p.1, ρ' p.2))
  | [], _ => .nil
  | p :: l, h => .cons _ _ _ _ _ (h p (by simp)) (prels_of l fun q hq => h q (by simp [hq]))
omit ok in
theorem vrels_of {ρ ρ' : Operand → Value} : ∀ (l : List Operand), (∀ x ∈ l, VRel μ (ρ x) (ρ' x)) → VRels μ (l.map ρ) (l.map ρ')
  | [], _ => .nil
  | p :: l, h => .cons _ _ _ _ (h p (by simp)) (vrels_of l fun q hq => h q (by simp [hq]))

theorem does_value {ρ ρ' : Operand → Value} {o : Oper} {v : Value} (h : valueA E ρ o.op = some v) (hρ : ∀ x ∈ o.op.operands, VRel μ (ρ x) (ρ' x)) (hsy : μ.sy = E.sy) :
    ∃ v', (execOp ρ' o).run E.P w = .ok (.value v') w ∧ VRel μ v v' := by
  have fin : ∀ (e : Sem Value) (v' : Value), e.run E.P w = .ok v' w → VRel μ v v' → ((do pure (.value (← e)) : Sem Next).run E.P w = .ok (.value v') w ∧ VRel μ v v') := by
    intro e v' hr hv
    exact ⟨by simp only [Sem.run_bind, hr, Result.andThen_ok, Sem.run_pure], hv⟩
  unfold execOp
  cases hop : o.op <;> rw [hop] at h hρ <;> unfold valueA at h <;> simp only at h ⊢ <;> first
    | (cases h; done)
    | skip
  · simp only [Option.some.injEq] at h; subst h
    exact ⟨_, rfl, hρ _ (by simp [Op.operands])⟩
  · simp only [Option.some.injEq] at h; subst h
    exact ⟨_, rfl, hρ _ (by simp [Op.operands])⟩
  · rename_i c a b
    have hc := hρ c (by simp [Op.operands])
    have ha := hρ a (by simp [Op.operands])
    have hb := hρ b (by simp [Op.operands])
    unfold pickA at h
    split at h
    · rename_i t ht
      rw [ht] at hc
      have hc' := hc.ofBool
      simp only [Option.some.injEq] at h; subst h
      cases t with
      | true => exact ⟨ρ' a, by rw [hc']; rfl, ha⟩
      | false => exact ⟨ρ' b, by rw [hc']; rfl, hb⟩
    · cases h
  · rename_i t ps
    have hp : PRels μ (parts ρ ps) (ps.map fun p => (p.1, ρ' p.2)).toList := by
      rw [Array.toList_map]
      exact prels_of ps.toList fun p hp => hρ p.2 (by simp only [Op.operands, List.mem_toArray, List.mem_map]; exact ⟨p, hp, rfl⟩)
    obtain ⟨v', hr, hv⟩ := does_build ok (w := w) h hp
    exact ⟨v', fin _ v' hr hv⟩
  · rename_i x
    have hx := hρ x (by simp [Op.operands])
    unfold nilCheckA at h
    generalize ρ' x = y at hx ⊢
    generalize ρ x = x at hx h
    cases x <;> (try simp only at h) <;> first
      | (cases h; done)
      | skip
    · rename_i a
      cases a with
      | none => cases h
      | some a =>
        simp only [Option.some.injEq] at h; subst h
        obtain ⟨r, off, sp⟩ := a
        cases hx with
        | plain _ h => simp [Cm.plain, plainN] at h
        | ptr r off L hL => exact ⟨_, rfl, .ptr r off L hL⟩
    · rename_i a n c
      simp only [Option.some.injEq] at h; subst h
      cases a with
      | none => have := hx.ofNilSlice; subst this; exact ⟨_, rfl, hx⟩
      | some a => rcases hx.ofSlice with ⟨L, _, _, rfl⟩ | ⟨L, c2, _, _, _, _, rfl⟩ | ⟨a2, rfl, rfl, rfl⟩ <;> exact ⟨_, rfl, hx⟩
    · rename_i r
      simp only [Option.some.injEq] at h; subst h
      cases r with
      | none => have := hx.eq rfl; subst this; exact ⟨_, rfl, hx⟩
      | some r => obtain ⟨L, _, rfl⟩ := hx.ofMap; exact ⟨_, rfl, hx⟩
    · rename_i f a c
      cases f <;> (try simp only at h) <;> first
        | (cases h; done)
        | skip
      · obtain ⟨a', c', rfl, _, _⟩ := hx.ofFunc
        simp only [Option.some.injEq] at h; subst h
        exact ⟨_, rfl, hx⟩
      · rename_i k
        match k with
        | 0 =>
          simp only [Option.some.injEq] at h; subst h
          cases hx with
          | plain _ h => simp [Cm.plain, plainN] at h
          | arr n cs a cap l' hs hc hl hm => exact ⟨_, rfl, .arr n cs a cap l' hs hc hl hm⟩
        | 1 =>
          simp only [Option.some.injEq] at h; subst h
          cases hx with
          | plain _ h => simp [Cm.plain, plainN] at h
          | ref o cs b z l' hl hm => exact ⟨_, rfl, .ref o cs b z l' hl hm⟩
        | k + 2 => simp at h
    · rename_i t u
      simp only [Option.some.injEq] at h; subst h
      obtain ⟨u', rfl, _⟩ := hx.ofIface
      exact ⟨_, rfl, hx⟩
  · rename_i op t x y u
    obtain ⟨v', hr, hp⟩ := does_binOp ok (w := w) h (hρ x (by simp [Op.operands])) (hρ y (by simp [Op.operands])) hsy
    exact ⟨v', fin _ v' hr hp⟩
  · rename_i op t x
    unfold unOpA at h
    simp only [Option.bind_eq_some_iff, guardO_some] at h
    obtain ⟨_, hp, h⟩ := h
    obtain ⟨h1, h2⟩ := plainly_some.1 h
    have := (hρ x (by simp [Op.operands])).eq hp
    rw [this]
    exact ⟨v, fin _ v (pureRun_ok _ _ h1 w) (.plain v h2)⟩
  · rename_i t x
    unfold makeInterfaceA at h
    rw [Option.bind_eq_some_iff] at h
    obtain ⟨d, hd, h⟩ := h
    have hx := hρ x (by simp [Op.operands])
    have : v = .iface t (ρ x) ∧ (Instr.makeInterface t (ρ' x)).run E.P w = .ok (.iface t (ρ' x)) w := by
      unfold Instr.makeInterface
      cases d <;> simp only at h <;> first
        | (cases h; done)
        | (simp only [Option.some.injEq] at h; exact ⟨h.symm, by simp only [Sem.run_bind, ok.run_und w hd, Result.andThen_ok, Sem.run_pure]⟩)
    obtain ⟨rfl, hr⟩ := this
    exact ⟨_, fin _ _ hr (.iface _ _ _ hx)⟩
  · rename_i fn first captured
    cases fn <;> (try simp only at h) <;> first
      | (cases h; done)
      | skip
    rename_i fn
    simp only [Option.some.injEq] at h; subst h
    refine ⟨_, fin _ (.func (.func fn) (first.map ρ') (captured.map ρ')) rfl (.func _ _ _ _ _ ?_ ?_)⟩
    · simp only [Array.toList_map]; exact vrels_of _ fun x hx => hρ x (by simp only [Op.operands, Array.mem_append]; exact Or.inl (Array.mem_toList_iff.1 hx))
    · simp only [Array.toList_map]; exact vrels_of _ fun x hx => hρ x (by simp only [Op.operands, Array.mem_append]; exact Or.inr (Array.mem_toList_iff.1 hx))
  · rename_i t x lo hi mx
    have orel : ∀ y : Option Operand, (∀ z, y = some z → z ∈ (Op.slice t x lo hi mx).operands) → ORel μ (y.map ρ) (y.map ρ') := by
      intro y hy
      cases y with
      | none => exact trivial
      | some z => exact hρ z (hy z rfl)
    obtain ⟨v', hr, hv⟩ := does_slice ok (w := w) h (hρ x (by simp [Op.operands]))
      (orel lo fun z hz => by subst hz; simp [Op.operands]) (orel hi fun z hz => by subst hz; simp [Op.operands]) (orel mx fun z hz => by subst hz; simp [Op.operands]) hsy
    exact ⟨v', fin _ v' hr hv⟩
  · rename_i t x f
    obtain ⟨v', hr, hv⟩ := does_fieldAddr ok (w := w) h (hρ x (by simp [Op.operands]))
    exact ⟨v', fin _ v' hr hv⟩
  · rename_i t x f
    obtain ⟨v', hr, hv⟩ := does_field ok (w := w) h (hρ x (by simp [Op.operands]))
    exact ⟨v', fin _ v' hr hv⟩
  · rename_i t x i
    obtain ⟨v', hr, hv⟩ := does_indexAddr ok (w := w) h (hρ x (by simp [Op.operands])) (hρ i (by simp [Op.operands]))
    exact ⟨v', fin _ v' hr hv⟩
  · rename_i t x i
    obtain ⟨v', hr, hv⟩ := does_index ok (w := w) h (hρ x (by simp [Op.operands])) (hρ i (by simp [Op.operands]))
    exact ⟨v', fin _ v' hr hv⟩
  · rename_i x i
    have hx := hρ x (by simp [Op.operands])
    unfold extractA at h
    split at h
    · rename_i vs hvs
      rw [hvs] at hx
      obtain ⟨c', hc', hv⟩ := hx.ofTuple
      obtain ⟨v', hg, hr⟩ := hv.get _ v h
      rw [hc']
      refine ⟨v', fin _ v' ?_ hr⟩
      unfold Instr.extract
      rw [Array.getElem?_toList] at hg
      simp only [hg, Sem.run_pure]
    · cases h
end
end Go.Cm
namespace Go.Cm
open Go Go.RowKit

def NextRel (μ : Mu) : Nx → Next → Prop
  | .value v, .value v' => VRel μ v v'
  | .skip, .skip => True
  | .enter f args, .enter g args' => f = g ∧ VRels μ args args'.toList
  | _, _ => False

def ExecSim (E : Env) (base : Nat) (μ : Mu) (w : World) (s s' : St) (e : Sem Next) : Nx → Prop
  | .known f _ v => (∃ args v', VRel μ v v' ∧ Known E.P f args v' w ∧ e.run E.P w = (callFunc f args).run E.P w) ∧ s'.rows = s.rows ∧ s'.next = s.next
  | nx => Does E base μ w s s' e fun μ' b => NextRel μ' nx b

section
variable {E : Env} (ok : E.Ok) {base : Nat} {μ : Mu} {w : World} {s s' : St}

theorem sim_value {e : Sem Value} {m : M Value} {nx : Nx} (h : asV m s = some (nx, s')) (hd : ∀ v, m s = some (v, s') → Does E base μ w s s' e fun μ' b => VRel μ' v b) :
    ExecSim E base μ w s s' (do pure (.value (← e))) nx := by
  unfold asV at h
  rw [bind_some] at h
  obtain ⟨v, s1, h1, h2⟩ := h
  rw [pure_some] at h2
  obtain ⟨rfl, rfl⟩ := h2
  obtain ⟨b, w', μ', hr, hv, a, c⟩ := hd v h1
  exact ⟨.value b, w', μ', by simp only [Sem.run_bind, hr, Result.andThen_ok, Sem.run_pure], hv, a, c⟩

theorem sim_unit {e : Sem Unit} {m : M Unit} {nx : Nx} (h : asU m s = some (nx, s')) (hd : m s = some ((), s') → Does E base μ w s s' e fun _ _ => True) :
    ExecSim E base μ w s s' (do e; pure .skip) nx := by
  unfold asU at h
  rw [bind_some] at h
  obtain ⟨⟨⟩, s1, h1, h2⟩ := h
  rw [pure_some] at h2
  obtain ⟨rfl, rfl⟩ := h2
  obtain ⟨b, w', μ', hr, hv, a, c⟩ := hd h1
  exact ⟨.skip, w', μ', by simp only [Sem.run_bind, hr, Result.andThen_ok, Sem.run_pure], trivial, a, c⟩

theorem args_one {x : Value} {args' : Array Value} (hv : VRels μ [x] args'.toList) : ∃ x', args' = #[x'] ∧ VRel μ x x' := by
  obtain ⟨l⟩ := args'
  cases hv with
  | cons _ x' _ l' h hl => cases hl; exact ⟨x', rfl, h⟩
theorem args_two {x y : Value} {args' : Array Value} (hv : VRels μ [x, y] args'.toList) : ∃ x' y', args' = #[x', y'] ∧ VRel μ x x' ∧ VRel μ y y' := by
  obtain ⟨l⟩ := args'
  cases hv with
  | cons _ x' _ l' h hl => cases hl with | cons _ y' _ l'' h2 hl2 => cases hl2; exact ⟨x', y', rfl, h, h2⟩
theorem does_sliceData {ts : Array TypeId} {ty : TypeId} {args : List Value} {args' : Array Value} {v : Value} (h : sliceDataA args = some v) (hv : VRels μ args args'.toList) (hs : SRel base μ s.rows.get w) :
    Does E base μ w s s (Builtin.unsafeSliceData_ ts ty args') fun μ' b => VRel μ' v b := by
  unfold sliceDataA at h
  split at h
  · rename_i n c
    injection h with h; subst h
    obtain ⟨x', rfl, hx⟩ := args_one hv
    have := hx.eq rfl; subst this
    exact ⟨_, w, μ, Lib.run_unsafeSliceData_nil w _ _ _ _, .plain _ rfl, hs, Grew.refl _ _ _ _ _⟩
  · rename_i a n c
    injection h with h; subst h
    obtain ⟨x', rfl, hx⟩ := args_one hv
    rcases hx.ofSlice with ⟨L, hsp, hL, rfl⟩ | ⟨L, c2, hsp, hL, hc2, hx2, rfl⟩ | ⟨a2, h0, h1, e1⟩
    · exact ⟨_, w, μ, Lib.run_unsafeSliceData_row w _ _ _ _ _ (by omega), .ptr _ _ L hL, hs, Grew.refl _ _ _ _ _⟩
    · exact ⟨_, w, μ, Lib.run_unsafeSliceData_row w _ _ _ _ _ (by omega), .ptr _ _ L hL, hs, Grew.refl _ _ _ _ _⟩
    · omega
  · cases h
/-- Freezing: the cells stay what they are. -/
theorem freeze_at {w : World} {b : Nat} {c : Array Value} {e : TypeId} {fr : Nat × Nat} (hat : w.heap[b]? = some (.cells c e fr)) (o n : Nat) :
    (w.freeze ⟨b, o, none⟩ n).heap.size = w.heap.size ∧ (∀ q, q ≠ b → (w.freeze ⟨b, o, none⟩ n).heap[q]? = w.heap[q]?) ∧ (∀ j, (w.freeze ⟨b, o, none⟩ n).cell? ⟨b, j, none⟩ = w.cell? ⟨b, j, none⟩) ∧
      (w.freeze ⟨b, o, none⟩ n).os = w.os ∧ (w.freeze ⟨b, o, none⟩ n).tape = w.tape ∧ (w.freeze ⟨b, o, none⟩ n).output = w.output := by
  unfold World.freeze
  by_cases hn : n = 0
  · rw [if_pos hn]; exact ⟨rfl, fun _ _ => rfl, fun _ => rfl, rfl, rfl, rfl⟩
  · rw [if_neg hn]
    refine ⟨by simp, fun q hq => ?_, fun j => ?_, rfl, rfl, rfl⟩
    · simp only [Array.getElem?_modify]; rw [if_neg (fun e => hq e.symm)]
    · unfold World.cell?
      simp only [Array.getElem?_modify, if_true, hat, Option.map_some]
theorem run_loadB {P : Program} (w : World) : ∀ (l : List Int) (a : Addr) (acc : ByteArray), (∀ j x, l[j]? = some x → w.cell? (a.add j) = some (.int .u8 x)) →
    (loadBytes a acc l.length).run P w = .ok ⟨acc.data ++ (l.map fun n => UInt8.ofNat n.toNat).toArray⟩ w
  | [], a, acc, _ => by simp [loadBytes]
  | x :: l, a, acc, h => by
    have h0 : w.cell? a = some (.int .u8 x) := by
      have := h 0 x rfl
      simpa [Addr.add] using this
    have ih := run_loadB (P := P) w l (a.add 1) (acc.push (UInt8.ofNat x.toNat)) (fun j y hy => by
      have := h (j + 1) y (by simpa using hy)
      have e : (a.add 1).add j = a.add (j + 1) := by
        unfold Addr.add
        by_cases hj : j = 0
        · subst hj; simp
        · simp [hj]; omega
      rw [e]; exact this)
    simp only [List.length_cons, loadBytes, Sem.run_bind, run_load, h0, Result.andThen]
    show (loadBytes (a.add 1) (acc.push (UInt8.ofNat x.toNat)) l.length).run P w = _
    rw [ih]
    congr 1
    apply ByteArray.ext
    simp [ByteArray.push]
include ok in
theorem does_stringAt {t : TypeId} {ts : Array TypeId} {ty : TypeId} {a : Addr} {n : Nat} {x' y' v : Value} (h0 : n ≠ 0) (h : stringAt E t a n s = some (v, s')) (ht : ts[0]? = some t) (hx : VRel μ (.pointer (some a)) x') (hy : VRel μ (.int .i64 (.ofNat n)) y') (hs : SRel base μ s.rows.get w) (hsy : μ.sy = E.sy) :
    Does E base μ w s s' (Builtin.unsafeString_ ts ty #[x', y']) fun μ' b => VRel μ' v b := by
  have := hy.eq rfl; subst this
  unfold stringAt at h
  simp only [lift_bind, row_bind, guard_bind, ownR_some, Option.bind_eq_some_iff, Bool.and_eq_true] at h
  obtain ⟨e, ⟨d, hd, hpt⟩, _, hu8, i, hi, _, x, hrow, ec, rfl, ⟨⟨⟨⟨h1, h2⟩, h3⟩, h4⟩, h5⟩, l, hl, v0, hv0, h⟩ := h
  rw [bind_some] at h
  obtain ⟨⟨⟩, s1, ht1, h⟩ := h
  rw [turn_some] at ht1
  obtain ⟨_, _, hble, e1⟩ := ht1
  rw [pure_some] at h
  obtain ⟨rfl, rfl⟩ := h
  have hd' : d = .pointer e := by
    unfold pointerT at hpt
    split at hpt
    · injection hpt with hpt; subst hpt; rfl
    · cases hpt
  subst hd'
  obtain ⟨r, off, sp⟩ := a
  have e3 : sp = none := by cases sp <;> first | rfl | cases h4
  subst e3
  have e4 := Nat.eq_of_beq_eq_true h3
  simp only at e4
  subst e4
  obtain ⟨L, hL, rfl⟩ := hx.ofPtr
  obtain ⟨hge, hz, hes, hlt, c, e', fr, hat, hsz, hext, hty, hc⟩ := own_at (s := s) hs hrow hL
  have h1' := Nat.eq_of_beq_eq_true h1
  have h2' := Nat.eq_of_beq_eq_true h2
  have h5' := blt_lt h5
  rw [hes] at h1'
  obtain ⟨_, g2⟩ := codeE_inj hz.2 (by unfold tagT; omega) h1'
  have he : e' = e := by
    rcases hty with k | k
    · rw [g2] at k; cases k
    · rw [g2] at k; exact (Nat.succ.inj k).symm
  subst he
  have hcell : E.P.cellsOf e' = 1 := by simp [Program.cellsOf, ok.info _ _ hi, h2']
  obtain ⟨hl1, hl2⟩ := piece_some hl
  have hlen : n ≤ ec.2.length := by
    rw [← hl2, hl1]; simp only [List.length_take, List.length_drop]; omega
  -- the cells, as the model has them
  have hcs : ∃ l', VRels μ l l' ∧ ∀ (j : Nat) (u : Value), l'[j]? = some u → w.cell? ((⟨L.b, L.o + 0, none⟩ : Addr).add j) = some u := by
    refine ⟨(List.range l.length).map fun j => (w.cell? ⟨L.b, L.o + j, none⟩).getD undef, VRels.of_get _ _ (by simp) fun j u hu => ?_, fun j u hu => ?_⟩
    · have hj : j < l.length := by
        rcases Nat.lt_or_ge j l.length with k | k
        · exact k
        · rw [List.getElem?_eq_none k] at hu; cases hu
      have hu2 : ec.2[j]? = some u := by
        rw [hl1, List.getElem?_take, List.getElem?_drop] at hu
        split at hu
        · simpa using hu
        · cases hu
      obtain ⟨u', k1, k2⟩ := hc j _ hu2
      exact ⟨u', by simp [hj, k1], k2⟩
    · rw [List.getElem?_map, Option.map_eq_some_iff] at hu
      obtain ⟨i, hi, rfl⟩ := hu
      have hij : j < l.length ∧ i = j := by
        rcases Nat.lt_or_ge j l.length with k | k
        · rw [List.getElem?_range k] at hi; injection hi with hi; exact ⟨k, hi.symm⟩
        · rw [List.getElem?_eq_none (by simpa using k)] at hi; cases hi
      obtain ⟨hj, rfl⟩ := hij
      obtain ⟨x0, hx0⟩ : ∃ x0, l[i]? = some x0 := ⟨l[i], List.getElem?_eq_getElem hj⟩
      have hu2 : ec.2[i]? = some x0 := by
        rw [hl1, List.getElem?_take, List.getElem?_drop] at hx0
        split at hx0
        · simpa using hx0
        · cases hx0
      obtain ⟨u', k1, _⟩ := hc i _ hu2
      rw [addr_add, Nat.add_zero, k1]; rfl
  obtain ⟨l', hll, hcell'⟩ := hcs
  obtain ⟨ns, hns, htv⟩ : ∃ ns : List Int, l' = ns.map (Value.int .u8) ∧ TokV E.sy v (.string ⟨⟨ns.map fun n => UInt8.ofNat n.toNat⟩⟩) := by
    unfold textB at hv0
    cases hbb : bytesBack l with
    | some b =>
      rw [hbb] at hv0
      injection hv0 with hv0; subst hv0
      obtain ⟨ns, rfl, rfl⟩ := bytesBack_spec _ _ hbb
      have := VRels.eq (ints_plain ns) hll
      subst this
      exact ⟨ns, rfl, Or.inl ⟨rfl, rfl⟩⟩
    | none =>
      rw [hbb] at hv0
      exact ok.askB μ l l' v hv0 hsy hll
  have hnl : ns.length = n := by rw [← hl2, ← hll.length, hns, List.length_map]
  have hget : ∀ (j : Nat) (x : Int), ns[j]? = some x → w.cell? ((⟨L.b, L.o + 0, none⟩ : Addr).add j) = some (.int .u8 x) := by
    intro j x hj
    exact hcell' j _ (by rw [hns, List.getElem?_map, hj]; rfl)
  have hsh : w.shape? L.b = some (e', c.size) := by unfold World.shape?; rw [hat]
  have hload := run_loadB (P := E.P) w ns ⟨L.b, L.o + 0, none⟩ .empty hget
  have hlies : liesAt E.P E.P.depth e' (c.size / E.P.cellsOf e') (L.o + 0) e' n = true :=
    liesAt_off (by omega) _ _ _ (by rw [hcell]; exact Nat.mod_one _) (by rw [hcell, Nat.div_one, Nat.div_one]; omega)
  obtain ⟨f1, f2, f3, f4, f5, f6⟩ := freeze_at hat (L.o + 0) n
  refine ⟨.string ⟨⟨ns.map fun n => UInt8.ofNat n.toNat⟩⟩, w.freeze ⟨L.b, L.o + 0, none⟩ n, μ, ?_, (hsy ▸ htv : TokV μ.sy v _).rel, ?_, Mu.le_refl _, fun _ a b => absurd a b, fun _ a b => absurd a b, Lib.below_freeze (Below.refl base w) hge n⟩
  · have hpos : ¬ (Int.ofNat n < 0) := by simp
    have hmax : ¬ (IntKind.i64.max < Int.ofNat n) := by
      have : IntKind.i64.max = 9223372036854775807 := rfl
      rw [this]; unfold two63 at h5'; simp only [Int.ofNat_eq_natCast]; omega
    have hne : ¬ (Int.ofNat n = 0) := by simp only [Int.ofNat_eq_natCast]; omega
    have ha : (asInt (.int .i64 (Int.ofNat n))).run E.P w = .ok (Int.ofNat n) w := rfl
    have hdef : Builtin.unsafeString_ ts ty #[.pointer (some ⟨L.b, L.o + 0, none⟩), .int .i64 (Int.ofNat n)] =
        (do
          let n ← asInt (.int .i64 (Int.ofNat n))
          let some pt := ts[0]? | stuck "unsafe.String: no argument types"
          if n < 0 then runtimePanic (.error "unsafe.String: len out of range")
          if n > IntKind.i64.max then unsupported (.unsafePointer "String: a length above the largest int")
          if n = 0 then pure (.string .empty)
          else if ← variablesAt ⟨L.b, L.o + 0, none⟩ (← elemOf pt) n.toNat then do
            let s ← loadBytes ⟨L.b, L.o + 0, none⟩ .empty n.toNat
            freeze ⟨L.b, L.o + 0, none⟩ n.toNat
            pure (.string s)
          else unsupported (.unsafePointer "String: not so many bytes at ptr")) := rfl
    rw [hdef, ht]
    have htn : (Int.ofNat n).toNat = n := rfl
    simp only [Sem.run_bind, ha, Result.andThen_ok, hpos, hmax, hne, if_false, gt_iff_lt, Sem.run_pure, variablesAt, run_program, run_shape, hsh, elemOf, ok.run_und w hd, htn, hlies, if_true]
    rw [← hnl]
    simp only [hload, Result.andThen_ok, run_freeze]
    simp
  · refine hs.turn r (.cells false ec.1 ec.2) L hrow rfl hL f1 f2 (some (.cells true ec.1 ec.2)) (fun z hz => ?_) (fun q => by rw [e1]; exact D.got _ _ _ _ hble)
    injection hz with hz; subst hz
    exact ⟨fun i v hv => by rw [f3]; exact hc i v hv, hext, fun hro => by cases hro⟩
include ok in
theorem does_unsafeString {ts : Array TypeId} {ty : TypeId} {args : List Value} {args' : Array Value} {v : Value} (h : unsafeStringA E ts.toList args s = some (v, s')) (hv : VRels μ args args'.toList) (hs : SRel base μ s.rows.get w) (hsy : μ.sy = E.sy) :
    Does E base μ w s s' (Builtin.unsafeString_ ts ty args') fun μ' b => VRel μ' v b := by
  unfold unsafeStringA at h
  split at h
  · rename_i a n
    obtain ⟨x', y', rfl, hx, hy⟩ := args_two hv
    cases htl : ts.toList with
    | nil => rw [htl] at h; have h : (M.fail : M Value) s = some (v, s') := h; rw [fail_some] at h; exact h.elim
    | cons t l =>
      rw [htl] at h
      have h : stringAt E t a (n + 1) s = some (v, s') := h
      exact does_stringAt ok (by omega) h (by rw [← Array.getElem?_toList, htl]; rfl) hx hy hs hsy
  · obtain ⟨x', y', rfl, hx, hy⟩ := args_two hv
    have := hx.eq rfl; subst this
    have := hy.eq rfl; subst this
    cases htl : ts.toList with
    | nil => rw [htl] at h; have h : (M.fail : M Value) s = some (v, s') := h; rw [fail_some] at h; exact h.elim
    | cons t l =>
      rw [htl] at h
      have h : (M.pure (.string .empty) : M Value) s = some (v, s') := h
      rw [pure_some] at h
      obtain ⟨rfl, rfl⟩ := h
      refine ⟨_, w, μ, ?_, .plain _ rfl, hs, Grew.refl _ _ _ _ _⟩
      have h0 : ts[0]? = some t := by rw [← Array.getElem?_toList, htl]; rfl
      have hdef : Builtin.unsafeString_ ts ty #[.pointer none, .int .i64 (Int.ofNat 0)] =
          (do
            let n ← asInt (.int .i64 (Int.ofNat 0))
            let some pt := ts[0]? | stuck "unsafe.String: no argument types"
            if n < 0 then runtimePanic (.error "unsafe.String: len out of range")
            if n > IntKind.i64.max then unsupported (.unsafePointer "String: a length above the largest int")
            if n = 0 then pure (.string .empty)
            else runtimePanic (.error "unsafe.String: ptr is nil and len is not zero")) := rfl
      rw [hdef, h0]
      rfl
  · rw [fail_some] at h; exact h.elim

theorem one_some {f : TypeId → Value → M Value} {ts : List TypeId} {args : List Value} {p : Value × St} (h : one f ts args s = some p) : ∃ t x, ts[0]? = some t ∧ args[0]? = some x ∧ f t x s = some p := by
  unfold one at h
  split at h
  · split at h
    · exact ⟨_, _, rfl, rfl, h⟩
    · rw [fail_some] at h; exact h.elim
  · rw [fail_some] at h; exact h.elim
theorem two_some {f : TypeId → TypeId → Value → Value → M Value} {ts : List TypeId} {args : List Value} {p : Value × St} (h : two f ts args s = some p) :
    ∃ t u x y, ts[0]? = some t ∧ ts[1]? = some u ∧ args[0]? = some x ∧ args[1]? = some y ∧ f t u x y s = some p := by
  unfold two at h
  split at h
  · split at h
    · exact ⟨_, _, _, _, rfl, rfl, rfl, rfl, h⟩
    · rw [fail_some] at h; exact h.elim
  · rw [fail_some] at h; exact h.elim

include ok
theorem sim_builtin {b : Builtin} {ts : Array TypeId} {ty : TypeId} {consts : Array Bool} {args : List Value} {args' : Array Value} {nx : Nx} (h : asV (builtinA E b ts ty args) s = some (nx, s')) (hv : VRels μ args args'.toList)
    (hs : SRel base μ s.rows.get w) (hf : ∀ r, s.next ≤ r → r < s'.next → μ r = none) (hsy : μ.sy = E.sy) : ExecSim E base μ w s s' (builtin b ts ty consts args') nx := by
  have arg : ∀ (i : Nat) (x : Value), args[i]? = some x → ∃ x', args'[i]? = some x' ∧ VRel μ x x' := by
    intro i x hx
    obtain ⟨x', h1, h2⟩ := hv.get i x hx
    exact ⟨x', by rwa [Array.getElem?_toList] at h1, h2⟩
  have pl : ∀ v, Does E base μ w s s' (pure v) (fun μ' b => VRel μ' v b) → True := fun _ _ => trivial
  clear pl
  unfold builtin
  cases b <;> (try (unfold asV builtinA at h; rw [bind_some] at h; obtain ⟨_, _, h, _⟩ := h; rw [fail_some] at h; exact h.elim)) <;> simp only
  · refine sim_value h fun v h => ?_
    obtain ⟨t, u, x, y, h1, h2, h3, h4, h5⟩ := two_some h
    obtain ⟨x', a1, a2⟩ := arg 0 x h3
    obtain ⟨y', b1, b2⟩ := arg 1 y h4
    exact does_append ok h5 (by rwa [Array.getElem?_toList] at h1) (by rwa [Array.getElem?_toList] at h2) a1 b1 a2 b2 hs hf hsy
  · refine sim_value h fun v h => ?_
    obtain ⟨t, x, h1, h2, h3⟩ := one_some h
    obtain ⟨x', a1, a2⟩ := arg 0 x h2
    obtain ⟨hc, rfl⟩ := lift_some.1 h3
    obtain ⟨v', hr, hvr⟩ := does_cap ok (w := w) (ty := ty) hc (by rwa [Array.getElem?_toList] at h1) a1 a2
    exact ⟨v', w, μ, hr, hvr, hs, Grew.refl _ _ _ _ _⟩
  · refine sim_value h fun v h => ?_
    obtain ⟨t, x, h1, h2, h3⟩ := one_some h
    obtain ⟨x', a1, a2⟩ := arg 0 x h2
    exact does_clear ok h3 (by rwa [Array.getElem?_toList] at h1) a1 a2 hs
  · refine sim_value h fun v h => ?_
    obtain ⟨t, u, x, y, h1, h2, h3, h4, h5⟩ := two_some h
    obtain ⟨x', a1, a2⟩ := arg 0 x h3
    obtain ⟨y', b1, b2⟩ := arg 1 y h4
    exact does_copy ok h5 (by rwa [Array.getElem?_toList] at h1) a1 b1 a2 b2 hs
  · refine sim_value h fun v h => ?_
    obtain ⟨t, u, x, y, h1, h2, h3, h4, h5⟩ := two_some h
    obtain ⟨x', a1, a2⟩ := arg 0 x h3
    obtain ⟨y', b1, b2⟩ := arg 1 y h4
    exact does_delete ok h5 (by rwa [Array.getElem?_toList] at h1) a1 b1 a2 b2 hs
  · refine sim_value h fun v h => ?_
    obtain ⟨t, x, h1, h2, h3⟩ := one_some h
    obtain ⟨x', a1, a2⟩ := arg 0 x h2
    exact does_len ok h3 (by rwa [Array.getElem?_toList] at h1) a1 a2 hs hsy
  · refine sim_value h fun v h => ?_
    simp only [builtinA, guard_bind, lift_some, plainly_some] at h
    obtain ⟨hp, ⟨h1, h2⟩, rfl⟩ := h
    have := VRels.eq hp hv
    have he : args' = ⟨args⟩ := by cases args'; simp at this; rw [this]
    subst he
    exact ⟨v, w, μ, pureRun_ok _ _ h1 w, .plain v h2, hs, Grew.refl _ _ _ _ _⟩
  · refine sim_value h fun v h => ?_
    simp only [builtinA, guard_bind, lift_some, plainly_some] at h
    obtain ⟨hp, ⟨h1, h2⟩, rfl⟩ := h
    have := VRels.eq hp hv
    have he : args' = ⟨args⟩ := by cases args'; simp at this; rw [this]
    subst he
    exact ⟨v, w, μ, pureRun_ok _ _ h1 w, .plain v h2, hs, Grew.refl _ _ _ _ _⟩
  · refine sim_value h fun v h => ?_
    obtain ⟨hv1, rfl⟩ := lift_some.1 h
    exact does_sliceData hv1 hv hs
  · refine sim_value h fun v h => ?_
    exact does_unsafeString ok h hv hs hsy

theorem sim_call {f : FuncId} {args : List Value} {args' : Array Value} {nx : Nx} (h : callA E f args s = some (nx, s')) (hv : VRels μ args args'.toList) (hs : SRel base μ s.rows.get w) (hsy : μ.sy = E.sy) :
    ExecSim E base μ w s s' (callFunc f args') nx := by
  unfold callA at h
  cases he : E.ext f with
  | some e =>
    simp only [he, guard_bind, lift_bind, pure_some] at h
    obtain ⟨hp, v, hv2, rfl, rfl⟩ := h
    have := VRels.eq hp hv
    have ha : args' = ⟨args⟩ := by cases args'; simp at this; rw [this]
    subst ha
    obtain ⟨h1, h2⟩ := ok.ext f e args v he hp hv2
    exact ⟨⟨_, v, .plain _ h1, h2 w, rfl⟩, rfl, rfl⟩
  | none =>
    simp only [he] at h
    cases hk : (E.kt f).bind (fun e => e args) with
    | some v =>
      simp only [hk, pure_some] at h
      obtain ⟨rfl, rfl⟩ := h
      rw [Option.bind_eq_some_iff] at hk
      obtain ⟨e, he1, he2⟩ := hk
      obtain ⟨v', h1, h2⟩ := ok.kt f e args v μ args' w he1 he2 hsy hs.cold hv
      exact ⟨⟨_, v', h1, h2, rfl⟩, rfl, rfl⟩
    | none =>
    simp only [hk, lift_bind, pure_some] at h
    obtain ⟨fn, hfn, rfl, rfl⟩ := h
    obtain ⟨h1, h2, h3⟩ := ok.fn f fn hfn
    refine ⟨.enter f args', w, μ, ?_, ⟨rfl, hv⟩, hs, Grew.refl _ _ _ _ _⟩
    unfold callFunc
    have hname : (fn.name == "runtime.NumGoroutine") = false := by simpa using h2
    have hbody : fn.body.isNone = false := by cases hb : fn.body <;> simp_all
    simp only [Sem.run_bind, run_program, Result.andThen_ok, h1, hname, Bool.false_eq_true, if_false, hbody, Sem.run_pure]

theorem does_exec {ρ ρ' : Operand → Value} {o : Oper} {nx : Nx} (h : execA E ρ o s = some (nx, s')) (hρ : ∀ x ∈ o.op.operands, VRel μ (ρ x) (ρ' x)) (hs : SRel base μ s.rows.get w) (hf : ∀ r, s.next ≤ r → r < s'.next → μ r = none) (hsy : μ.sy = E.sy) (hez : ∀ b o, E.fz b = some o → μ.fz b = some o) :
    ExecSim E base μ w s s' (execOp ρ' o) nx := by
  have other : (asV (M.lift (valueA E ρ o.op)) : M Nx) s = some (nx, s') → ExecSim E base μ w s s' (execOp ρ' o) nx := by
    intro h
    unfold asV at h
    simp only [lift_bind, pure_some] at h
    obtain ⟨v, hv, rfl, rfl⟩ := h
    obtain ⟨v', hr, hv'⟩ := does_value ok (w := w) hv hρ hsy
    exact ⟨.value v', w, μ, hr, hv', hs, Grew.refl _ _ _ _ _⟩
  obtain ⟨dst, op, ty, pos, after, guard⟩ := o
  simp only at hρ other
  unfold execA at h
  unfold execOp at other ⊢
  simp only at h other ⊢
  cases op
  case alloc t =>
    exact sim_value h fun v h => does_alloc ok h hs hf
  case box t x =>
    simp only at h
    cases hj : isJunk (ρ x) with
    | true => rw [hj, cond_true, fail_some] at h; exact h.elim
    | false =>
      rw [hj, cond_false] at h
      exact sim_value h fun v h => does_box hj h (hρ x (by simp [Op.operands])) hs hf
  case buildSlice t len ps =>
    refine sim_value h fun v h => does_buildSlice ok h ?_ hs hf
    rw [Array.toList_map]
    exact prels_of ps.toList fun p hp => hρ p.2 (by simp only [Op.operands, List.mem_toArray, List.mem_map]; exact ⟨p, hp, rfl⟩)
  case load t a =>
    exact sim_value h fun v h => does_load ok h (hρ a (by simp [Op.operands])) hs
  case store t a x =>
    exact sim_unit h fun h => does_store ok h (hρ a (by simp [Op.operands])) (hρ x (by simp [Op.operands])) hs
  case lookup t x i c =>
    exact sim_value h fun v h => does_lookup ok h (hρ x (by simp [Op.operands])) (hρ i (by simp [Op.operands])) hs
  case mapUpdate t m k v =>
    exact sim_unit h fun h => does_update ok h (hρ m (by simp [Op.operands])) (hρ k (by simp [Op.operands])) (hρ v (by simp [Op.operands])) hs
  case makeMap t r =>
    cases r with
    | none => exact sim_value h fun v h => does_makeMap h hs hf
    | some r => exact other h
  case convert a d x =>
    exact sim_value h fun v h => does_convert ok h (hρ x (by simp [Op.operands])) hs hf hsy hez
  case makeSlice t l c =>
    refine sim_value h fun v h => ?_
    have h' := h
    unfold makeSliceA at h'
    simp only [lift_bind] at h'
    obtain ⟨e, _, i, _, m, hm, n, hn, _⟩ := h'
    obtain ⟨k1, hk1⟩ := idx_some.1 hm
    obtain ⟨k2, hk2⟩ := idx_some.1 hn
    have e1 := hρ l (by simp [Op.operands])
    have e2 := hρ c (by simp [Op.operands])
    rw [hk1] at e1; rw [hk2] at e2
    rw [e1.ofInt, e2.ofInt]
    rw [hk1, hk2] at h
    exact does_makeSlice ok h hs hf
  case range t x =>
    exact sim_value h fun v h => does_range ok h (hρ x (by simp [Op.operands])) hs hf
  case next it b =>
    exact sim_value h fun v h => does_next h (hρ it (by simp [Op.operands])) hs
  case call c =>
    unfold opCallA at h
    have hargs : VRels μ (c.args.toList.map ρ) (c.args.map ρ').toList := by
      rw [Array.toList_map]
      exact vrels_of _ fun x hx => hρ x (by simp only [Op.operands, Call.operands, Array.mem_append]; exact Or.inr (Array.mem_toList_iff.1 hx))
    cases hb : c.callee with
    | builtin b =>
      simp only [hb] at h
      have hres : resolve ρ' c ty = pure { target := .builtin b c.argTypes ty (c.args.map fun | .const _ => true | _ => false), args := c.args.map ρ' } := by
        unfold resolve; rw [hb]; rfl
      show ExecSim E base μ w s s' (do let d ← resolve ρ' c ty; invoke d.target d.args) nx
      rw [hres]
      exact sim_builtin ok h hargs hs hf hsy
    | value f =>
      simp only [hb, lift_bind] at h
      obtain ⟨⟨g, first, captured⟩, hg, h⟩ := h
      have hfv := hρ f (by simp only [Op.operands, Call.operands, hb, Array.mem_append]; exact Or.inl (by simp))
      have : ∃ a c2, ρ f = .func (.func g) a c2 ∧ first = a.toList ∧ captured = c2.toList := by
        unfold asFunc at hg
        split at hg
        · rename_i g' a c2 he
          simp only [Option.some.injEq, Prod.mk.injEq] at hg
          obtain ⟨rfl, rfl, rfl⟩ := hg
          exact ⟨a, c2, he, rfl, rfl⟩
        · cases hg
      obtain ⟨a, c2, he, rfl, rfl⟩ := this
      rw [he] at hfv
      obtain ⟨a', c', hfv', ha, hc⟩ := hfv.ofFunc
      have hall : VRels μ (a.toList ++ (c.args.toList.map ρ ++ c2.toList)) ((a' ++ c.args.map ρ') ++ c').toList := by
        simp only [Array.toList_append, List.append_assoc]
        exact ha.append (hargs.append hc)
      have hres : resolve ρ' c ty = pure { target := .fn (.func g) c', args := a' ++ c.args.map ρ' } := by
        unfold resolve; rw [hb]; simp only; rw [hfv']; rfl
      show ExecSim E base μ w s s' (do let d ← resolve ρ' c ty; invoke d.target d.args) nx
      rw [hres]
      exact sim_call ok h hall hs hsy
    | invoke r n => simp only [hb] at h; rw [fail_some] at h; exact h.elim
  all_goals exact other h
end
end Go.Cm
