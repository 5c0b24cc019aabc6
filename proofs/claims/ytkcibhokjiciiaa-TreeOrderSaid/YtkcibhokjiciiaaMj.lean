/-
  A call of cold things, once run: what it answers may be taken as known wherever it is called. What code does, from a frame and a state of which only some is known: rules. Regions, gone through with values of which only some is known: what is to be shown is a proposition that unfolds by itself.
-/
import Derived.Test.YtkcibhokjiciiaaMi
namespace Go.Cm
open Go Go.RowKit

/-- Cells handed back: those that are told by a flag keep a row of their own, the others become cold. -/
noncomputable def packL : List Bool → List Value → M (List Value × List Nat)
  | _, [] => M.pure ([], [])
  | fl, v :: l =>
    bif fl.headD false then
      match v with
      | .slice (some a) n c => M.bind (M.row a.block) fun x => M.bind (M.lift (ownR x)) fun ec => M.bind (M.mapL (coolN 8) ec.2) fun ds =>
          M.bind (M.row a.block) fun y => M.bind (M.lift (ownR y)) fun ed => M.bind (M.guard (Nat.beq ds.length ed.2.length)) fun _ =>
          M.bind (M.turn a.block (some (.cells false ed.1 ds))) fun _ => M.bind (packL fl.tail l) fun p => M.pure (.slice (some a) n c :: p.1, a.block :: p.2)
      | v => M.bind (coolN 8 v) fun d => M.bind (packL fl.tail l) fun p => M.pure (d :: p.1, p.2)
    else M.bind (coolN 8 v) fun d => M.bind (packL fl.tail l) fun p => M.pure (d :: p.1, p.2)
noncomputable def headV : List Value → Option Value
  | [v] => some v
  | _ => none
/-- A value handed back. -/
noncomputable def packV (fl : List Bool) (v : Value) : M (Value × List Nat) :=
  match v with
  | .agg cs => M.bind (packL fl cs.toList) fun p => M.pure (.agg ⟨p.1⟩, p.2)
  | v => M.bind (packL fl [v]) fun p => M.bind (M.lift (headV p.1)) fun u => M.pure (u, p.2)
noncomputable def packTs : List (List Bool) → List Value → M (List Value × List Nat)
  | _, [] => M.pure ([], [])
  | fl, v :: l => M.bind (packV (fl.headD []) v) fun p => M.bind (packTs fl.tail l) fun q => M.pure (p.1 :: q.1, p.2 ++ q.2)
noncomputable def packM (fl : List (List Bool)) (v : Value) : M (Value × List Nat) :=
  match v with
  | .tuple vs => M.bind (packTs fl vs.toList) fun p => M.pure (.tuple ⟨p.1⟩, p.2)
  | v => packV (fl.headD []) v
noncomputable def rowsOf (s : St) (l : List Nat) : Option (List (Nat × List Value)) := optL (fun r => (s.rows.get r).bind ownR) l
noncomputable def indexIn (l : List Nat) (r : Nat) : Option Nat :=
  match l with
  | [] => none
  | q :: l => bif Nat.beq q r then some 0 else (indexIn l r).map Nat.succ
noncomputable def nodup : List Nat → Bool
  | [] => true
  | r :: l => bif l.any (Nat.beq r) then false else nodup l
noncomputable def packed (fl : List (List Bool)) (v : Value) (s : St) : Option (Value × List (Nat × List Value)) :=
  match packM fl v s with
  | some (p, s') => (rowsOf s' p.2).bind fun rows => (guardO (nodup p.2 && coldRows rows)).bind fun _ => (shiftN (indexIn p.2) 3 p.1).map fun u => (u, rows)
  | none => none
/-- What a call answers, of cold things, from nothing. -/
noncomputable def deepRun (E : Env) (n n0 : Nat) (fl : List (List Bool)) (f : FuncId) (ds : List Value) : Option (Value × List (Nat × List Value)) :=
  match run E n f ds (St.empty n0) with
  | some (v, s) => packed fl v s
  | none => none

section
variable {base : Nat}
/-- What is handed back, and what it is to the model. -/
noncomputable def Packing (base : Nat) (μ : Mu) (w : World) (s s' : St) (Q : Mu → Prop) : Prop :=
  ∃ μ' : Mu, μ'.at_ = μ.at_ ∧ (μ.le μ' ∧ ∀ b, μ.fz b = none → μ'.fz b ≠ none → base ≤ b) ∧ SRel base μ' s'.rows.get w ∧ s'.next = s.next ∧ Q μ'

theorem SRel.recell {μ : Mu} {R R' : Nat → Option Row} {w : World} (h : SRel base μ R w) {r : Nat} {es : Nat} {cs ds : List Value} (hr : R r = some (.cells false es cs))
    (hd : ∀ L, μ r = some L → ∀ (i : Nat) (v : Value), ds[i]? = some v → ∃ v', w.cell? ⟨L.b, L.o + i, none⟩ = some v' ∧ VRel μ v v') (hl : ds.length = cs.length)
    (hR : ∀ q, R' q = if q = r then some (.cells false es ds) else R q) : SRel base μ R' w := by
  obtain ⟨L, hL, h1, h2, h3⟩ := h.row r _ hr
  exact h.turn r _ L hr rfl hL rfl (fun _ _ => rfl) (some (.cells false es ds)) (fun z hz => by
    injection hz with hz; subst hz
    exact ⟨hd L hL, by omega, h3⟩) hR

theorem keep_ok {r es es2 : Nat} {cs ds cs2 : List Value} {s s1 s2 : St} {μ : Mu} {w : World} (hx : s.rows.get r = some (.cells false es cs)) (hm : M.mapL (coolN 8) cs s = some (ds, s1))
    (hown : s1.rows.get r = some (.cells false es2 cs2)) (hlen2 : ds.length = cs2.length) (hR : ∀ q, s2.rows.get q = if q = r then some (.cells false es2 ds) else s1.rows.get q) (hn : s2.next = s1.next) (hs : SRel base μ s.rows.get w) :
    Packing base μ w s s2 fun _ => True := by
  obtain ⟨L, hL, h1, h2, h3⟩ := hs.row r _ hx
  have hvr : VRels μ cs ((List.range cs.length).map fun i => (w.cell? ⟨L.b, L.o + i, none⟩).getD undef) := by
    refine VRels.of_get _ _ (by simp) fun i v hv => ?_
    have hi : i < cs.length := by
      rcases Nat.lt_or_ge i cs.length with h | h
      · exact h
      · rw [List.getElem?_eq_none h] at hv; cases hv
    obtain ⟨v', a, b⟩ := h1 i v hv
    exact ⟨v', by simp [hi, a], b⟩
  obtain ⟨μ1, a1, b1, c1, e1, f1⟩ := cool_list (base := base) (cool_ok 8) cs ds s s1 μ w _ hm hvr hs
  have hlen := f1.length
  simp only [List.length_map, List.length_range] at hlen
  refine ⟨μ1, a1, b1, c1.recell (r := r) (cs := cs2) (ds := ds) hown (fun K hK i v hv => ?_) hlen2 hR, by rw [hn]; exact e1, trivial⟩
  rw [a1, hL] at hK
  injection hK with hK; subst hK
  obtain ⟨v', g1, g2⟩ := f1.get i v hv
  have hi : i < cs.length := by
    rcases Nat.lt_or_ge i ds.length with h | h
    · omega
    · rw [List.getElem?_eq_none h] at hv; cases hv
  obtain ⟨x, hx'⟩ : ∃ x, cs[i]? = some x := ⟨cs[i], List.getElem?_eq_getElem hi⟩
  obtain ⟨y, k1, k2⟩ := h1 i x hx'
  simp [hi, k1] at g1
  subst g1
  exact ⟨_, k1, g2.rel⟩

theorem Packing.mono {μ : Mu} {w : World} {s s' : St} {Q Q' : Mu → Prop} (h : Packing base μ w s s' Q) (hq : ∀ μ', μ.le μ' → Q μ' → Q' μ') : Packing base μ w s s' Q' :=
  let ⟨μ', a, b, c, d, e⟩ := h; ⟨μ', a, b, c, d, hq μ' b.1 e⟩
theorem Packing.trans {μ : Mu} {w : World} {s s1 s2 : St} {Q Q' : Mu → Prop} (h : Packing base μ w s s1 Q) (k : ∀ μ', μ.le μ' → SRel base μ' s1.rows.get w → Q μ' → Packing base μ' w s1 s2 Q') : Packing base μ w s s2 Q' := by
  obtain ⟨μ1, a1, b1, c1, d1, e1⟩ := h
  obtain ⟨μ2, a2, b2, c2, d2, e2⟩ := k μ1 b1.1 c1 e1
  exact ⟨μ2, a2.trans a1, fz_trans b1 b2, c2, d2.trans d1, e2⟩

theorem packL_ok : ∀ (l : List Value) (fl : List Bool) (vs : List Value) (rs : List Nat) (s s' : St) (μ : Mu) (w : World) (l' : List Value), packL fl l s = some ((vs, rs), s') → VRels μ l l' → SRel base μ s.rows.get w →
    Packing base μ w s s' fun μ' => VRels μ' vs l'
  | [], fl, vs, rs, s, s', μ, w, l', h, hv, hs => by
    unfold packL at h
    rw [pure_some] at h
    obtain ⟨h, rfl⟩ := h
    injection h with h1 h2; subst h1; subst h2
    cases hv
    exact ⟨μ, rfl, ⟨Mu.le_refl μ, fun _ a b => absurd a b⟩, hs, rfl, .nil⟩
  | v :: l, fl, vs, rs, s, s', μ, w, l', h, hv, hs => by
    cases hv with
    | cons _ v' _ l' hv hl =>
      have cold : ∀ (vs : List Value) (rs : List Nat), (M.bind (coolN 8 v) fun d => M.bind (packL fl.tail l) fun p => M.pure (d :: p.1, p.2)) s = some ((vs, rs), s') → Packing base μ w s s' fun μ' => VRels μ' vs (v' :: l') := by
        intro vs rs h
        rw [bind_some] at h
        obtain ⟨d, s1, h1, h⟩ := h
        rw [bind_some] at h
        obtain ⟨⟨ps, qs⟩, s2, h2, h⟩ := h
        rw [pure_some] at h
        obtain ⟨h, rfl⟩ := h
        injection h with e1 e2; subst e1; subst e2
        obtain ⟨μ1, a1, b1, c1, d1, e1⟩ := cool_ok (base := base) 8 v d s s1 μ w v' h1 hv hs
        refine Packing.trans (Q := fun μ' => Cold μ'.fz d v') ⟨μ1, a1, b1, c1, d1, e1⟩ fun μ' hle hs' hc => ?_
        exact (packL_ok l fl.tail _ _ s1 _ μ' w l' h2 (hl.mono hle) hs').mono fun μ2 hle2 hv2 => .cons _ _ _ _ (hc.mono hle2.fz).rel hv2
      unfold packL at h
      cases hf : fl.headD false with
      | false => rw [hf, cond_false] at h; exact cold vs rs h
      | true =>
        rw [hf, cond_true] at h
        split at h
        · rename_i a n c
          simp only [row_bind, lift_bind, ownR_some] at h
          obtain ⟨_, x, hx, ⟨es, cs⟩, rfl, h⟩ := h
          rw [bind_some] at h
          obtain ⟨ds, s1, h1, h⟩ := h
          simp only [row_bind, lift_bind, guard_bind, ownR_some] at h
          obtain ⟨_, y, hy, ⟨es2, cs2⟩, rfl, hlen, h⟩ := h
          rw [bind_some] at h
          obtain ⟨_, s2, ht, h⟩ := h
          rw [bind_some] at h
          obtain ⟨⟨ps, qs⟩, s3, h2, h⟩ := h
          rw [pure_some] at h
          obtain ⟨h, rfl⟩ := h
          injection h with e1 e2; subst e1; subst e2
          rw [turn_some] at ht
          obtain ⟨_, _, hble, e⟩ := ht
          have hk := keep_ok (base := base) (s := { s with log := a.block :: s.log }) (s1 := s1) (s2 := s2) (w := w) hx h1 hy (Nat.eq_of_beq_eq_true hlen) (fun q => by rw [e]; exact D.got _ _ _ _ hble) (by rw [e]) hs
          have hk2 : Packing base μ w s s2 fun _ => True := hk
          refine hk2.trans fun μ' hle hs' _ => ?_
          exact (packL_ok l fl.tail _ _ s2 _ μ' w l' h2 (hl.mono hle) hs').mono fun μ2 hle2 hv2 => .cons _ _ _ _ (hv.mono (Mu.le_trans hle hle2)) hv2
        · exact cold vs rs h

theorem packV_ok (fl : List Bool) (v u : Value) (rs : List Nat) (s s' : St) (μ : Mu) (w : World) (v' : Value) (h : packV fl v s = some ((u, rs), s')) (hv : VRel μ v v') (hs : SRel base μ s.rows.get w) :
    Packing base μ w s s' fun μ' => VRel μ' u v' := by
  unfold packV at h
  split at h
  · rename_i cs
    rw [bind_some] at h
    obtain ⟨⟨ps, qs⟩, s1, h1, h⟩ := h
    rw [pure_some] at h
    obtain ⟨h, rfl⟩ := h
    injection h with e1 e2; subst e1; subst e2
    obtain ⟨c', rfl, hc⟩ := hv.ofAgg
    exact (packL_ok _ _ _ _ _ _ μ w _ h1 hc hs).mono fun μ' _ hq => .agg _ _ hq
  · rw [bind_some] at h
    obtain ⟨⟨ps, qs⟩, s1, h1, h⟩ := h
    simp only [lift_bind, pure_some] at h
    obtain ⟨x, hx, h, rfl⟩ := h
    injection h with e1 e2; subst e1; subst e2
    refine (packL_ok _ _ _ _ _ _ μ w [v'] h1 (.cons _ _ _ _ hv .nil) hs).mono fun μ' _ hq => ?_
    unfold headV at hx
    split at hx
    · injection hx with hx; subst hx
      cases hq with | cons _ _ _ _ h _ => exact h
    · cases hx
theorem packTs_ok : ∀ (l : List Value) (fl : List (List Bool)) (vs : List Value) (rs : List Nat) (s s' : St) (μ : Mu) (w : World) (l' : List Value), packTs fl l s = some ((vs, rs), s') → VRels μ l l' → SRel base μ s.rows.get w →
    Packing base μ w s s' fun μ' => VRels μ' vs l'
  | [], fl, vs, rs, s, s', μ, w, l', h, hv, hs => by
    unfold packTs at h
    rw [pure_some] at h
    obtain ⟨h, rfl⟩ := h
    injection h with h1 h2; subst h1; subst h2
    cases hv
    exact ⟨μ, rfl, ⟨Mu.le_refl μ, fun _ a b => absurd a b⟩, hs, rfl, .nil⟩
  | v :: l, fl, vs, rs, s, s', μ, w, l', h, hv, hs => by
    cases hv with
    | cons _ v' _ l' hv hl =>
      unfold packTs at h
      rw [bind_some] at h
      obtain ⟨⟨u, us⟩, s1, h1, h⟩ := h
      rw [bind_some] at h
      obtain ⟨⟨ps, qs⟩, s2, h2, h⟩ := h
      rw [pure_some] at h
      obtain ⟨h, rfl⟩ := h
      injection h with e1 e2; subst e1; subst e2
      refine (packV_ok _ v _ _ s s1 μ w v' h1 hv hs).trans fun μ' hle hs' hq => ?_
      exact (packTs_ok l fl.tail _ _ s1 _ μ' w l' h2 (hl.mono hle) hs').mono fun μ2 hle2 hv2 => .cons _ _ _ _ (hq.mono hle2) hv2
theorem packM_ok (fl : List (List Bool)) (v u : Value) (rs : List Nat) (s s' : St) (μ : Mu) (w : World) (v' : Value) (h : packM fl v s = some ((u, rs), s')) (hv : VRel μ v v') (hs : SRel base μ s.rows.get w) :
    Packing base μ w s s' fun μ' => VRel μ' u v' := by
  unfold packM at h
  split at h
  · rename_i cs
    rw [bind_some] at h
    obtain ⟨⟨ps, qs⟩, s1, h1, h⟩ := h
    rw [pure_some] at h
    obtain ⟨h, rfl⟩ := h
    injection h with e1 e2; subst e1; subst e2
    obtain ⟨c', rfl, hc⟩ := hv.ofTuple
    exact (packTs_ok _ _ _ _ _ _ μ w _ h1 hc hs).mono fun μ' _ hq => .tuple _ _ hq
  · exact packV_ok _ _ _ _ _ _ μ w v' h hv hs

theorem indexIn_some : ∀ {l : List Nat} {r k : Nat}, indexIn l r = some k → l[k]? = some r
  | [], r, k, h => by cases h
  | q :: l, r, k, h => by
    unfold indexIn at h
    cases hb : Nat.beq q r with
    | true => rw [hb, cond_true] at h; injection h with h; subst h; simp [Nat.eq_of_beq_eq_true hb]
    | false =>
      rw [hb, cond_false, Option.map_eq_some_iff] at h
      obtain ⟨j, hj, rfl⟩ := h
      simpa using indexIn_some hj
theorem nodup_get : ∀ {l : List Nat}, nodup l = true → ∀ (i j r : Nat), l[i]? = some r → l[j]? = some r → i = j
  | [], _, i, j, r, h, _ => by simp at h
  | q :: l, hn, i, j, r, h1, h2 => by
    unfold nodup at hn
    cases hb : l.any (Nat.beq q) with
    | true => rw [hb] at hn; cases hn
    | false =>
      rw [hb, cond_false] at hn
      have hne : ∀ k : Nat, l[k]? ≠ some q := fun k hk => by
        have : l.any (Nat.beq q) = true := by rw [List.any_eq_true]; exact ⟨q, List.mem_of_getElem? hk, Nat.beq_refl q⟩
        rw [this] at hb; cases hb
      cases i with
      | zero =>
        simp at h1; subst h1
        cases j with
        | zero => rfl
        | succ j => simp at h2; exact absurd h2 (hne j)
      | succ i =>
        simp at h1
        cases j with
        | zero => simp at h2; subst h2; exact absurd h1 (hne i)
        | succ j => simp at h2; rw [nodup_get hn i j r h1 h2]

/-- A run of a call of cold things is an answer for good. -/
theorem deep_of_run {E : Env} (ok : E.Ok) (cok : E.Coded) {n0 : Nat} (hg : ∀ g, E.glob g = true → g < n0) {n : Nat} {fl : List (List Bool)} {f : FuncId} {ds : List Value} {v : Value} {rows : List (Nat × List Value)}
    (h : deepRun E n n0 fl f ds = some (v, rows)) (hz : ∀ b, E.fz b = none := by intro _; rfl) : DeepOk E.P f ds v rows := by
  intro fz w args' hfz hds
  unfold deepRun at h
  cases hr : run E n f ds (St.empty n0) with
  | none => rw [hr] at h; cases h
  | some p =>
    obtain ⟨v0, s⟩ := p
    rw [hr] at h
    simp only at h
    unfold packed at h
    cases hp : packM fl v0 s with
    | none => rw [hp] at h; cases h
    | some q =>
      obtain ⟨⟨u, rs⟩, s'⟩ := q
      simp only [hp, Option.bind_eq_some_iff, Option.map_eq_some_iff, guardO_some, Bool.and_eq_true] at h
      obtain ⟨rows', hrows, _, ⟨hnd, hcr⟩, x, hsh, hx⟩ := h
      injection hx with e1 e2; subst e1; subst e2
      let μ0 : Mu := ⟨(globMu n0 E.sy).at_, fz, E.sy⟩
      have hs : SRel w.heap.size μ0 (St.empty n0).rows.get w :=
        { ge := Nat.le_refl _
          dom := fun r x L h _ => by unfold St.empty at h; rw [D.get_leaf] at h; cases h
          row := fun r x h => by unfold St.empty at h; rw [D.get_leaf] at h; cases h
          apart := fun r q x y L K _ h => by unfold St.empty at h; rw [D.get_leaf] at h; cases h
          cold := hfz
          hot := fun r x L h => by unfold St.empty at h; rw [D.get_leaf] at h; cases h
          old := fun r x L h => by unfold St.empty at h; rw [D.get_leaf] at h; cases h }
      have hv : VRels μ0 ds args'.toList := (show Colds μ0.fz ds args'.toList from hds).rel
      refine Calls.mono (run_sound ok cok hr hv hs ⟨fun g h => ⟨0, 0, 0, globMu_at (sy := E.sy) (hg g h)⟩, rfl, fun b o h => by rw [hz] at h; cases h⟩ fun r h _ => globMu_none (sy := E.sy) (by have h' : n0 ≤ r := h; omega)) ?_
      rintro e w' ⟨v', μ1, rfl, hv', hs1, hgr⟩
      obtain ⟨μ2, a2, ⟨b2, z2⟩, c2, d2, e2⟩ := packM_ok fl v0 u rs s s' μ1 w' v' hp hv' hs1
      obtain ⟨hlen, hget⟩ := optL_some hrows
      let μ3 : Mu := ⟨fun k => (rs[k]?).bind fun r => μ2 r, μ2.fz, μ2.sy⟩
      have hrow : ∀ (k : Nat) (y : Nat × List Value), rows'[k]? = some y → ∃ r, rs[k]? = some r ∧ s'.rows.get r = some (.cells false y.1 y.2) := by
        intro k y hy
        have hk : k < rs.length := by
          rcases Nat.lt_or_ge k rows'.length with h | h
          · omega
          · rw [List.getElem?_eq_none h] at hy; cases hy
        obtain ⟨b, hb, hb2⟩ := hget k _ (List.getElem?_eq_getElem hk)
        rw [hy] at hb; injection hb with hb; subst hb
        rw [Option.bind_eq_some_iff] at hb2
        obtain ⟨x, hx1, hx2⟩ := hb2
        rw [ownR_some] at hx2
        exact ⟨_, List.getElem?_eq_getElem hk, by rw [hx1, hx2]⟩
      have hat : ∀ (k r : Nat), rs[k]? = some r → μ3 k = μ2 r := fun k r h => by show (rs[k]?).bind _ = _; rw [h]; rfl
      refine ⟨v', μ3, rfl, ⟨fun b o hb => b2.fz b o (hgr.le.fz b o hb), fun b h1 h2 => ?_, hgr.below, ?_, ?_, fun k L hk => ?_⟩⟩
      · cases hz : μ1.fz b with
        | none => exact z2 b hz h2
        | some o => exact hgr.fzn b h1 (by rw [hz]; simp)
      · exact shift_ok (μ := μ2) (μ2 := μ3) (fun r q L h1 h2 => by rw [hat q r (indexIn_some h1)]; exact h2) rfl 3 u _ v' hsh e2
      · refine ⟨Nat.le_trans c2.ge (Nat.le_refl _), fun k x L hk e => ?_, fun k x hk => ?_, fun k q x y K1 K2 hne hk hq e1 e2 hf => ?_, c2.cold, fun k x K hk hf e => ?_, fun k x K hk e => ?_⟩
        all_goals (rw [Option.map_eq_some_iff] at hk; obtain ⟨y1, hy1, rfl⟩ := hk; obtain ⟨r1, hr1, hR1⟩ := hrow k y1 hy1)
        · rw [hat k r1 hr1] at e; exact c2.dom r1 _ L hR1 e
        · obtain ⟨K, hK, k1, k2, k3⟩ := c2.row r1 _ hR1
          refine ⟨K, by rw [hat k r1 hr1]; exact hK, fun i u hu => ?_, k2, k3⟩
          obtain ⟨u', g1, g2⟩ := k1 i u hu
          have := g2.ofColdB (coldsB_get (coldRows_get hcr _ _ hy1) i u hu)
          exact ⟨u', g1, (show Cold μ3.fz u u' from this).rel⟩
        · rw [Option.map_eq_some_iff] at hq
          obtain ⟨y2, hy2, rfl⟩ := hq
          obtain ⟨r2, hr2, hR2⟩ := hrow q y2 hy2
          rw [hat k r1 hr1] at e1; rw [hat q r2 hr2] at e2
          exact c2.apart r1 r2 _ _ K1 K2 (fun e => by subst e; exact hne (nodup_get hnd _ _ _ hr1 hr2)) hR1 hR2 e1 e2 rfl
        · rw [hat k r1 hr1] at e; exact c2.hot r1 _ K hR1 rfl e
        · rw [hat k r1 hr1] at e; exact c2.old r1 _ K hR1 e
      · have hk' : (rs[k]?).bind (fun r => μ2 r) = some L := hk
        rw [Option.bind_eq_some_iff] at hk'
        obtain ⟨r, hr', _⟩ := hk'
        rcases Nat.lt_or_ge k rs.length with h | h
        · omega
        · rw [List.getElem?_eq_none h] at hr'; cases hr'
end
end Go.Cm
namespace Go.Cm
open Go Go.RowKit

/-- A frame and a state, and what they are to the model. -/
structure Rel (E : Env) (base : Nat) (μ : Mu) (fr : Fr) (s : St) (a : Act) (w : World) : Prop where
  fr : FRel μ fr a.tmps
  st : SRel base μ s.rows.get w
  gl : Globs E μ
  nx : ∀ r, s.next ≤ r → μ r = none

/-- What became of names and of the world: below 'lo' nothing was named anew. -/
structure Went (base lo : Nat) (μ μ' : Mu) (w w' : World) : Prop where
  at_ : ∀ r, r < lo → μ' r = μ r
  fz : ∀ b o, μ.fz b = some o → μ'.fz b = some o
  fzn : ∀ b, μ.fz b = none → μ'.fz b ≠ none → base ≤ b
  below : Below base w w'

theorem Went.refl (base lo : Nat) (μ : Mu) (w : World) : Went base lo μ μ w w := ⟨fun _ _ => rfl, fun _ _ h => h, fun _ a b => absurd a b, Below.refl _ _⟩
theorem Went.trans {base lo : Nat} {μ1 μ2 μ3 : Mu} {w1 w2 w3 : World} (h : Went base lo μ1 μ2 w1 w2) (k : Went base lo μ2 μ3 w2 w3) : Went base lo μ1 μ3 w1 w3 :=
  ⟨fun r hr => (k.at_ r hr).trans (h.at_ r hr), fun b o e => k.fz b o (h.fz b o e), fun b a c => by
    cases e : μ2.fz b with
    | none => exact k.fzn b e c
    | some o => exact h.fzn b a (by rw [e]; simp), h.below.trans k.below⟩
theorem Went.of_grew {base lo n n' : Nat} {μ μ' : Mu} {w w' : World} (h : Grew base μ μ' n n' w w') (hl : lo ≤ n) : Went base lo μ μ' w w' :=
  ⟨fun r hr => by
    cases e : μ.at_ r with
    | some L => exact h.le.at_ r L e
    | none =>
      cases e' : μ'.at_ r with
      | none => rfl
      | some L => have := h.new r e (by rw [e']; simp); omega, h.le.fz, h.fzn, h.below⟩

abbrev Post := X → Fr → St → Prop

/-- From a frame and a state on, code ends as Q says. -/
def Wp (E : Env) (lo : Nat) (c : Code) (fr : Fr) (s : St) (Q : Post) : Prop :=
  lo ≤ s.next → ∀ (base : Nat) (μ : Mu) (a : Act) (w : World) (K : Exit → Act → World → Prop), Rel E base μ fr s a w →
    (∀ x fr' s' μ' a' w' e, Q x fr' s' → lo ≤ s'.next → XRel x e → Rel E base μ' fr' s' a' w' → a'.defers = a.defers → Went base lo μ μ' w w' → K e a' w') → c.wp E.P K a w

/-- A frame and a state of which less is known, or with other names. -/
def Weak (E : Env) (lo : Nat) (fr : Fr) (s : St) (fr' : Fr) (s' : St) : Prop :=
  lo ≤ s.next → lo ≤ s'.next ∧ ∀ (base : Nat) (μ : Mu) (a : Act) (w : World), Rel E base μ fr s a w → ∃ μ', Rel E base μ' fr' s' a w ∧ Went base lo μ μ' w w

section
variable {E : Env} {lo : Nat} {fr : Fr} {s : St} {Q : Post}

theorem Wp.post {c : Code} {Q' : Post} (h : Wp E lo c fr s Q) (hq : ∀ x fr s, Q x fr s → Q' x fr s) : Wp E lo c fr s Q' :=
  fun hl base μ a w K hr hK => h hl base μ a w K hr fun x fr' s' μ' a' w' e q => hK x fr' s' μ' a' w' e (hq _ _ _ q)
theorem Wp.pre {c : Code} {fr' : Fr} {s' : St} (hw : Weak E lo fr s fr' s') (h : Wp E lo c fr' s' Q) : Wp E lo c fr s Q := by
  intro hl base μ a w K hr hK
  obtain ⟨hl', hw'⟩ := hw hl
  obtain ⟨μ1, hr1, hg1⟩ := hw' base μ a w hr
  exact h hl' base μ1 a w K hr1 fun x fr2 s2 μ2 a2 w2 e q l2 hx hr2 hd hg2 => hK x fr2 s2 μ2 a2 w2 e q l2 hx hr2 hd (hg1.trans hg2)
theorem Wp.weak {c : Code} {Q' : Post} (h : Wp E lo c fr s Q) (hq : ∀ x fr s, Q x fr s → ∃ fr' s', Weak E lo fr s fr' s' ∧ Q' x fr' s') : Wp E lo c fr s Q' := by
  intro hl base μ a w K hr hK
  refine h hl base μ a w K hr fun x fr2 s2 μ2 a2 w2 e q l2 hx hr2 hd hg2 => ?_
  obtain ⟨fr3, s3, hw, q3⟩ := hq _ _ _ q
  obtain ⟨l3, hw'⟩ := hw l2
  obtain ⟨μ3, hr3, hg3⟩ := hw' base μ2 a2 w2 hr2
  exact hK x fr3 s3 μ3 a2 w2 e q3 l3 hx hr3 hd (hg2.trans hg3)

theorem Wp.skip (h : Q .normal fr s) : Wp E lo .skip fr s Q := fun hl _ μ a w _ hr hK => wp_skip (hK .normal fr s μ a w .normal h hl trivial hr rfl (Went.refl _ _ _ _))
theorem Wp.label {l : Nat} (h : Q .normal fr s) : Wp E lo (.label l) fr s Q := fun hl _ μ a w _ hr hK => wp_label (hK .normal fr s μ a w .normal h hl trivial hr rfl (Went.refl _ _ _ _))
theorem Wp.ret (h : Q .ret fr s) : Wp E lo .ret fr s Q := fun hl _ μ a w _ hr hK => wp_ret (hK .ret fr s μ a w .ret h hl trivial hr rfl (Went.refl _ _ _ _))
theorem Wp.exit {id : Nat} (h : Q (.exit id) fr s) : Wp E lo (.exit id) fr s Q := fun hl _ μ a w _ hr hK => wp_exit (hK (.exit id) fr s μ a w (.exit id) h hl rfl hr rfl (Went.refl _ _ _ _))

/-- What comes behind a first part. -/
def andThen (E : Env) (lo : Nat) (c : Code) (Q : Post) : Post := fun x fr s => match x with | .normal => Wp E lo c fr s Q | x => Q x fr s
theorem Wp.seq {c1 c2 : Code} (h : Wp E lo c1 fr s (andThen E lo c2 Q)) : Wp E lo (.seq c1 c2) fr s Q := by
  intro hl base μ a w K hr hK
  refine wp_seq ?_
  refine h hl base μ a w _ hr fun x fr1 s1 μ1 a1 w1 e q l1 hx hr1 hd hg1 => ?_
  cases x with
  | normal =>
    cases e with
    | normal => exact q l1 base μ1 a1 w1 K hr1 fun x2 fr2 s2 μ2 a2 w2 e2 q2 l2 hx2 hr2 hd2 hg2 => hK x2 fr2 s2 μ2 a2 w2 e2 q2 l2 hx2 hr2 (hd2.trans hd) (hg1.trans hg2)
    | _ => exact hx.elim
  | exit k =>
    cases e with
    | exit k' => exact hK _ fr1 s1 μ1 a1 w1 _ q l1 hx hr1 hd hg1
    | _ => exact hx.elim
  | ret =>
    cases e with
    | ret => exact hK _ fr1 s1 μ1 a1 w1 _ q l1 hx hr1 hd hg1
    | _ => exact hx.elim

theorem Wp.cond {o : Operand} {c1 c2 : Code} {t : Bool} (ho : operOk E o = true) (ht : fr.eval o = .bool t) (h1 : t = true → Wp E lo c1 fr s Q) (h2 : t = false → Wp E lo c2 fr s Q) : Wp E lo (.cond o c1 c2) fr s Q := by
  intro hl base μ a w K hr hK
  have hrel : VRel μ (fr.eval o) (a.eval o) := eval_rel ho hr.gl fun t _ => hr.fr.get t
  rw [ht] at hrel
  have hb := hrel.ofBool
  cases t with
  | true => exact wp_cond_true hb (h1 rfl hl base μ a w K hr hK)
  | false => exact wp_cond_false hb (h2 rfl hl base μ a w K hr hK)

def endBlock (id : Nat) (Q : Post) : Post := fun x fr s => match x with | .exit k => (bif Nat.beq k id then Q .normal fr s else Q (.exit k) fr s) | x => Q x fr s
theorem Wp.block {id : Nat} {c : Code} (h : Wp E lo c fr s (endBlock id Q)) : Wp E lo (.block id c) fr s Q := by
  intro hl base μ a w K hr hK
  refine wp_block ?_
  refine h hl base μ a w _ hr fun x fr1 s1 μ1 a1 w1 e q l1 hx hr1 hd hg1 => ?_
  cases x with
  | normal =>
    cases e with
    | normal => exact hK .normal fr1 s1 μ1 a1 w1 .normal q l1 trivial hr1 hd hg1
    | _ => exact hx.elim
  | ret =>
    cases e with
    | ret => exact hK .ret fr1 s1 μ1 a1 w1 .ret q l1 trivial hr1 hd hg1
    | _ => exact hx.elim
  | exit k =>
    cases e with
    | exit k' =>
      have : k = k' := hx
      subst this
      show (if k = id then K .normal a1 w1 else K (.exit k) a1 w1)
      unfold endBlock at q
      simp only at q
      cases hk : Nat.beq k id with
      | true =>
        rw [hk, cond_true] at q
        rw [if_pos (Nat.eq_of_beq_eq_true hk)]
        exact hK .normal fr1 s1 μ1 a1 w1 .normal q l1 trivial hr1 hd hg1
      | false =>
        rw [hk, cond_false] at q
        rw [if_neg (by rintro rfl; rw [Nat.beq_refl] at hk; cases hk)]
        exact hK (.exit k) fr1 s1 μ1 a1 w1 (.exit k) q l1 rfl hr1 hd hg1
    | _ => exact hx.elim

theorem Wp.scope {c : Code} (h : Wp E lo c fr s Q) : Wp E lo (.scope c) fr s Q := by
  intro hl base μ a w K hr hK
  refine wp_scope_straight (h hl base μ a w _ hr fun x fr1 s1 μ1 a1 w1 e q l1 hx hr1 hd hg1 => ?_)
  cases e with
  | goto l => cases x <;> exact hx.elim
  | _ => exact hK x fr1 s1 μ1 a1 w1 _ q l1 hx hr1 hd hg1

/-- A region that draws no order. -/
theorem Wp.region (ok : E.Ok) (cok : E.Coded) {id n : Nat} {ops : Array Oper} {fr' : Fr} {s' : St} (hok : codeOk E (.region id ops false) = true)
    (h : evOps E (callF E (ev E n)) ops ops.toList fr s = some (fr', s')) (hq : Q .normal fr' s') : Wp E lo (.region id ops false) fr s Q := by
  intro hl base μ a w K hr hK
  have hcall := sim_callF ok cok (base := base) (sim_code ok cok n)
  unfold codeOk at hok
  rw [Bool.and_eq_true] at hok
  refine wp_region ?_
  have hall : ∀ o ∈ ops.toList, opOk E o = true := by have := hok.1; rw [List.all_eq_true] at this; exact this
  obtain ⟨_, _, rn⟩ := Loc.evOps E hcall.1 ops ops.toList fr s fr' s' h
  have hn := rn.next
  have := sim_ops ok hcall (Q := K) ops.toList 0 fr fr' a s s' μ w (by simp) h hall hr.fr hr.st hr.gl (fun r h1 _ => hr.nx r h1) fun μ' a' w' h1 h2 h3 h4 =>
    hK .normal fr' s' μ' a' w' .normal hq (by omega) trivial ⟨h1, h3, hr.gl.mono h4.le, fun r hr' => by
      cases e : μ'.at_ r with
      | none => rfl
      | some L => have := h4.new r (hr.nx r (by omega)) (by rw [e]; simp); omega⟩ h2 (Went.of_grew h4 hl)
  rw [Array.length_toList, ← List.range_eq_range'] at this
  exact this
/-- A region whose order is open. -/
theorem Wp.draw (ok : E.Ok) (cok : E.Coded) {id n : Nat} {ops : Array Oper} {fr' : Fr} {s' : St} (hok : codeOk E (.region id ops true) = true)
    (h : evDraw E (callF E (ev E n)) ops (Region.before ops) ops.toList 0 [] fr s = some (fr', s')) (hq : Q .normal fr' s') : Wp E lo (.region id ops true) fr s Q := by
  intro hl base μ a w K hr hK
  have hcall := sim_callF ok cok (base := base) (sim_code ok cok n)
  unfold codeOk at hok
  rw [Bool.and_eq_true, cond_true] at hok
  obtain ⟨_, _, rn⟩ := Loc.evDraw E hcall.1 ops (Region.before ops) ops.toList 0 [] fr s fr' s' h
  have hn := rn.next
  exact sim_draw ok hcall h hok.1 hok.2 hr.fr hr.st hr.gl (fun r h1 _ => hr.nx r h1) fun μ' a' w' h1 h2 h3 h4 =>
    hK .normal fr' s' μ' a' w' .normal hq (by omega) trivial ⟨h1, h3, hr.gl.mono h4.le, fun r hr' => by
      cases e : μ'.at_ r with
      | none => rfl
      | some L => have := h4.new r (hr.nx r (by omega)) (by rw [e]; simp); omega⟩ h2 (Went.of_grew h4 hl)

/-- A loop: what holds at its head, and a number that goes down. -/
def again (I : Nat → Fr → St → Prop) (m : Nat) (Q : Post) : Post := fun x fr s => match x with | .normal => ∃ k, k < m ∧ I k fr s | x => Q x fr s
theorem Wp.loop {c : Code} (I : Nat → Fr → St → Prop) {m : Nat} (h0 : I m fr s) (h : ∀ m fr s, I m fr s → Wp E lo c fr s (again I m Q)) : Wp E lo (.loop c) fr s Q := by
  intro hl base μ a w K hr hK
  have key : ∀ (n m : Nat) (fr : Fr) (s : St) (μ : Mu) (a : Act) (w : World) (K : Exit → Act → World → Prop), m < n → I m fr s → lo ≤ s.next → Rel E base μ fr s a w →
      (∀ x fr' s' μ' a' w' e, Q x fr' s' → lo ≤ s'.next → XRel x e → Rel E base μ' fr' s' a' w' → a'.defers = a.defers → Went base lo μ μ' w w' → K e a' w') → Code.rounds E.P c K n a w := by
    intro n
    induction n with
    | zero => intro m _ _ _ _ _ _ h; omega
    | succ n ih =>
      intro m fr s μ a w K hm hI hl hr hK
      rw [rounds_succ]
      refine h m fr s hI hl base μ a w _ hr fun x fr1 s1 μ1 a1 w1 e q l1 hx hr1 hd hg1 => ?_
      cases x with
      | normal =>
        cases e with
        | normal =>
          obtain ⟨k, hk, hI1⟩ := q
          exact ih k fr1 s1 μ1 a1 w1 K (by omega) hI1 l1 hr1 fun x2 fr2 s2 μ2 a2 w2 e2 q2 l2 hx2 hr2 hd2 hg2 => hK x2 fr2 s2 μ2 a2 w2 e2 q2 l2 hx2 hr2 (hd2.trans hd) (hg1.trans hg2)
        | _ => exact hx.elim
      | exit k =>
        cases e with
        | exit k' => exact hK _ fr1 s1 μ1 a1 w1 _ q l1 hx hr1 hd hg1
        | _ => exact hx.elim
      | ret =>
        cases e with
        | ret => exact hK _ fr1 s1 μ1 a1 w1 _ q l1 hx hr1 hd hg1
        | _ => exact hx.elim
  exact wp_loop_rounds (m + 1) (key (m + 1) m fr s μ a w K (Nat.lt_succ_self m) h0 hl hr hK)

/-- A function of cold things, by its code. -/
def returns (E : Env) (fn : Func) (fl : List (List Bool)) (v : Value) (rows : List (Nat × List Value)) : Post := fun x fr s =>
  match x with
  | .exit _ => False
  | _ => ∃ vs s2, resultsA E fr fn.results.toList s = some (vs, s2) ∧ packed fl (oneOf vs) s2 = some (v, rows)

theorem packed_ok {base : Nat} {fl : List (List Bool)} {v0 : Value} {v v' : Value} {rows : List (Nat × List Value)} {s : St} {μ1 : Mu} {w' : World} (h : packed fl v0 s = some (v, rows)) (hv' : VRel μ1 v0 v') (hs1 : SRel base μ1 s.rows.get w') :
    ∃ μ3 : Mu, (∀ b o, μ1.fz b = some o → μ3.fz b = some o) ∧ (∀ b, μ1.fz b = none → μ3.fz b ≠ none → base ≤ b) ∧ VRel μ3 v v' ∧ SRel base μ3 (fun k => (rows[k]?).map fun r => .cells false r.1 r.2) w' ∧ ∀ k L, μ3 k = some L → k < rows.length := by
  unfold packed at h
  cases hp : packM fl v0 s with
  | none => rw [hp] at h; cases h
  | some q =>
    obtain ⟨⟨u, rs⟩, s'⟩ := q
    simp only [hp, Option.bind_eq_some_iff, Option.map_eq_some_iff, guardO_some, Bool.and_eq_true] at h
    obtain ⟨rows', hrows, _, ⟨hnd, hcr⟩, x, hsh, hx⟩ := h
    injection hx with e1 e2; subst e1; subst e2
    obtain ⟨μ2, a2, ⟨b2, z2⟩, c2, d2, e2⟩ := packM_ok fl v0 u rs s s' μ1 w' v' hp hv' hs1
    obtain ⟨hlen, hget⟩ := optL_some hrows
    let μ3 : Mu := ⟨fun k => (rs[k]?).bind fun r => μ2 r, μ2.fz, μ2.sy⟩
    have hrow : ∀ (k : Nat) (y : Nat × List Value), rows'[k]? = some y → ∃ r, rs[k]? = some r ∧ s'.rows.get r = some (.cells false y.1 y.2) := by
      intro k y hy
      have hk : k < rs.length := by
        rcases Nat.lt_or_ge k rows'.length with h | h
        · omega
        · rw [List.getElem?_eq_none h] at hy; cases hy
      obtain ⟨b, hb, hb2⟩ := hget k _ (List.getElem?_eq_getElem hk)
      rw [hy] at hb; injection hb with hb; subst hb
      rw [Option.bind_eq_some_iff] at hb2
      obtain ⟨x, hx1, hx2⟩ := hb2
      rw [ownR_some] at hx2
      exact ⟨_, List.getElem?_eq_getElem hk, by rw [hx1, hx2]⟩
    have hat : ∀ (k r : Nat), rs[k]? = some r → μ3 k = μ2 r := fun k r h => by show (rs[k]?).bind _ = _; rw [h]; rfl
    refine ⟨μ3, b2.fz, z2, ?_, ?_, fun k L hk => ?_⟩
    · exact shift_ok (μ := μ2) (μ2 := μ3) (fun r q L h1 h2 => by rw [hat q r (indexIn_some h1)]; exact h2) rfl 3 u _ v' hsh e2
    · refine ⟨c2.ge, fun k x L hk e => ?_, fun k x hk => ?_, fun k q x y K1 K2 hne hk hq e1 e2 hf => ?_, c2.cold, fun k x K hk hf e => ?_, fun k x K hk e => ?_⟩
      all_goals (rw [Option.map_eq_some_iff] at hk; obtain ⟨y1, hy1, rfl⟩ := hk; obtain ⟨r1, hr1, hR1⟩ := hrow k y1 hy1)
      · rw [hat k r1 hr1] at e; exact c2.dom r1 _ L hR1 e
      · obtain ⟨K, hK, k1, k2, k3⟩ := c2.row r1 _ hR1
        refine ⟨K, by rw [hat k r1 hr1]; exact hK, fun i u hu => ?_, k2, k3⟩
        obtain ⟨u', g1, g2⟩ := k1 i u hu
        have := g2.ofColdB (coldsB_get (coldRows_get hcr _ _ hy1) i u hu)
        exact ⟨u', g1, (show Cold μ3.fz u u' from this).rel⟩
      · rw [Option.map_eq_some_iff] at hq
        obtain ⟨y2, hy2, rfl⟩ := hq
        obtain ⟨r2, hr2, hR2⟩ := hrow q y2 hy2
        rw [hat k r1 hr1] at e1; rw [hat q r2 hr2] at e2
        exact c2.apart r1 r2 _ _ K1 K2 (fun e => by subst e; exact hne (nodup_get hnd _ _ _ hr1 hr2)) hR1 hR2 e1 e2 rfl
      · rw [hat k r1 hr1] at e; exact c2.hot r1 _ K hR1 rfl e
      · rw [hat k r1 hr1] at e; exact c2.old r1 _ K hR1 e
    · have hk' : (rs[k]?).bind (fun r => μ2 r) = some L := hk
      rw [Option.bind_eq_some_iff] at hk'
      obtain ⟨r, hr', _⟩ := hk'
      rcases Nat.lt_or_ge k rs.length with h | h
      · omega
      · rw [List.getElem?_eq_none h] at hr'; cases hr'

theorem deep_of_wp (ok : E.Ok) {n0 : Nat} (hg : ∀ g, E.glob g = true → g < n0) {f : FuncId} {fn : Func} {c : Code} (hf : E.P.funcs[f]? = some fn) (hb : fn.body = some c) {ds : List Value} (hle : Nat.ble (max fn.ntmps ds.length) 1024 = true)
    {fl : List (List Bool)} {v : Value} {rows : List (Nat × List Value)} (h : Wp E n0 c (Fr.init fn.ntmps ds) (St.empty n0) (returns E fn fl v rows)) (hz : ∀ b, E.fz b = none := by intro _; rfl) : DeepOk E.P f ds v rows := by
  intro fz w args' hfz hds
  let μ0 : Mu := ⟨(globMu n0 E.sy).at_, fz, E.sy⟩
  have hs : SRel w.heap.size μ0 (St.empty n0).rows.get w :=
    { ge := Nat.le_refl _
      dom := fun r x L h _ => by unfold St.empty at h; rw [D.get_leaf] at h; cases h
      row := fun r x h => by unfold St.empty at h; rw [D.get_leaf] at h; cases h
      apart := fun r q x y L K _ h => by unfold St.empty at h; rw [D.get_leaf] at h; cases h
      cold := hfz
      hot := fun r x L h => by unfold St.empty at h; rw [D.get_leaf] at h; cases h
      old := fun r x L h => by unfold St.empty at h; rw [D.get_leaf] at h; cases h }
  have hv : VRels μ0 ds args'.toList := (show Colds μ0.fz ds args'.toList from hds).rel
  refine calls_of_wp hf hb ?_
  refine h (Nat.le_refl n0) w.heap.size μ0 _ w _ ⟨init_rel hv (Nat.le_of_ble_eq_true hle), hs, ⟨fun g h => ⟨0, 0, 0, globMu_at (sy := E.sy) (hg g h)⟩, rfl, fun b o h => by rw [hz] at h; cases h⟩, fun r h => globMu_none (sy := E.sy) (by have h' : n0 ≤ r := h; omega)⟩ fun x fr' s' μ' a' w' e q l2 hx hr hd hgo => ?_
  have hfin : ∀ vs s2, resultsA E fr' fn.results.toList s' = some (vs, s2) → packed fl (oneOf vs) s2 = some (v, rows) →
      ∃ v', (results fn a'.tmps).run E.P w' = .ok v' w' ∧ ∃ v'' μ3, (Ending.returned v' : Ending) = .returned v'' ∧ DeepRes fz w w' μ3 v v'' rows := by
    intro vs s2 h1 h2
    obtain ⟨e1, e2, v', hv', hrun⟩ := sim_res ok hr.fr h1 hr.st
    obtain ⟨μ3, p1, p2, p3, p4, p5⟩ := packed_ok h2 hv' (show SRel w.heap.size μ' s2.rows.get w' by rw [e1]; exact hr.st)
    exact ⟨v', hrun, v', μ3, rfl, ⟨fun b o hb => p1 b o (hgo.fz b o hb), fun b h1 h2 => by
      cases hz : μ'.fz b with
      | none => exact p2 b hz h2
      | some o => exact hgo.fzn b h1 (by rw [hz]; simp), hgo.below, p3, p4, p5⟩⟩
  cases x with
  | exit k => exact q.elim
  | normal =>
    obtain ⟨vs, s2, h1, h2⟩ := q
    obtain ⟨v', hrun, v'', μ3, he, hres⟩ := hfin vs s2 h1 h2
    cases e <;> first | exact hx.elim | exact ⟨hd, v', hrun, v'', μ3, he, hres⟩
  | ret =>
    obtain ⟨vs, s2, h1, h2⟩ := q
    obtain ⟨v', hrun, v'', μ3, he, hres⟩ := hfin vs s2 h1 h2
    cases e <;> first | exact hx.elim | exact ⟨hd, v', hrun, v'', μ3, he, hres⟩
end
end Go.Cm
namespace Go.Cm
open Go Go.RowKit

/-- A frame as a list of what was put. -/
structure SF where
  n : Nat
  b : Value
  l : List (Nat × Value)
noncomputable def look (b : Value) : List (Nat × Value) → Nat → Value
  | [], _ => b
  | p :: l, i => bif Nat.beq p.1 i then p.2 else look b l i
noncomputable def SF.get (f : SF) (i : Nat) : Value := bif Nat.blt i f.n then look f.b f.l i else undef
noncomputable def SF.tree (b : Value) : List (Nat × Value) → FT 5
  | [] => FT.all b 5
  | p :: l => FT.put 5 (SF.tree b l) p.1 p.2
noncomputable def SF.fr (f : SF) : Fr := ⟨f.n, SF.tree f.b f.l⟩
def SF.ok (f : SF) : Prop := f.n ≤ 1024 ∧ ∀ p, p ∈ f.l → p.1 < f.n

theorem look_tree (n : Nat) (hn : n ≤ 1024) (b : Value) : ∀ (l : List (Nat × Value)), (∀ p, p ∈ l → p.1 < n) → ∀ i, i < n → FT.get 5 (SF.tree b l) i = look b l i
  | [], _, i, _ => by rw [SF.tree, FT.get_all]; rfl
  | p :: l, h, i, hi => by
    rw [SF.tree, FT.get_put 5 _ _ _ _ (by have := h p (by simp); show p.1 < 1024; omega) (by show i < 1024; omega), look, beq_ite]
    by_cases e : i = p.1
    · rw [if_pos e, if_pos e.symm]
    · rw [if_neg e, if_neg (Ne.symm e)]; exact look_tree n hn b l (fun q hq => h q (by simp [hq])) i hi
theorem SF.get_fr {f : SF} (h : f.ok) (i : Nat) : f.fr.get i = f.get i := by
  rw [Fr.get_eq]
  unfold SF.get SF.fr
  cases hb : Nat.blt i f.n with
  | true => simp only [cond_true]; exact look_tree f.n h.1 f.b f.l h.2 i (blt_lt0 hb)
  | false => rfl
noncomputable def SF.eval (f : SF) : Operand → Value
  | .tmp t => f.get t
  | .const v => v
  | .global g => .pointer (some ⟨g, 0, none⟩)
  | .func g => .func (.func g) #[] #[]
theorem SF.eval_fr {f : SF} (h : f.ok) : f.fr.eval = f.eval := by
  funext o
  cases o <;> first | rfl | exact SF.get_fr h _
noncomputable def SF.put (f : SF) (d : Nat) (v : Value) : SF := ⟨f.n, f.b, (d, v) :: f.l⟩
theorem SF.put_fr (f : SF) (d : Nat) (v : Value) : (f.put d v).fr = f.fr.put d v := by rw [Fr.put_eq]; rfl
theorem SF.put_ok {f : SF} (h : f.ok) {d : Nat} {v : Value} (hd : d < f.n) : (f.put d v).ok :=
  ⟨h.1, fun p hp => by rcases List.mem_cons.1 hp with e | e; rw [e]; exact hd; exact h.2 p e⟩

/-- What a literal test leaves. -/
noncomputable def when (b : Bool) (P : Prop) : Prop := Bool.rec False P b
theorem when_spec {b : Bool} {P : Prop} (h : when b P) : b = true ∧ P := by cases b; exact h.elim; exact ⟨rfl, h⟩
noncomputable def pickP (t : Bool) (P Q : Prop) : Prop := Bool.rec Q P t

/-- Whole numbers. -/
noncomputable def intP (op : BinOp) (k : IntKind) (a b : Int) (D : Prop) (K : Value → Prop) : Prop :=
  match op with
  | .add => ∃ z, k.wrap (a + b) = z ∧ K (.int k z)
  | .sub => ∃ z, k.wrap (a - b) = z ∧ K (.int k z)
  | .mul => ∃ z, k.wrap (a * b) = z ∧ K (.int k z)
  | .eql => ∃ t : Bool, decide (a = b) = t ∧ K (.bool t)
  | .neq => ∃ t : Bool, decide (a = b) = t ∧ K (.bool (!t))
  | .lss => ∃ t : Bool, decide (a < b) = t ∧ K (.bool t)
  | .leq => ∃ t : Bool, decide (b < a) = t ∧ K (.bool (!t))
  | .gtr => ∃ t : Bool, decide (b < a) = t ∧ K (.bool t)
  | .geq => ∃ t : Bool, decide (a < b) = t ∧ K (.bool (!t))
  | .and => ∃ z, k.wrap ((BitVec.ofInt k.bits a &&& BitVec.ofInt k.bits b).toNat : Int) = z ∧ K (.int k z)
  | .quo => b ≠ 0 ∧ ∃ z, k.wrap (a.tdiv b) = z ∧ K (.int k z)
  | .rem => b ≠ 0 ∧ ∃ z, a.tmod b = z ∧ K (.int k z)
  | _ => D
noncomputable def strP (op : BinOp) (a b : ByteArray) (D : Prop) (K : Value → Prop) : Prop :=
  match op with
  | .eql => ∃ t : Bool, decide (a.data.toList = b.data.toList) = t ∧ K (.bool t)
  | .neq => ∃ t : Bool, decide (a.data.toList = b.data.toList) = t ∧ K (.bool (!t))
  | _ => D

noncomputable def anyP (E : Env) (ρ : Operand → Value) (o : Oper) (s : St) (K : Nx → St → Prop) : Prop := ∃ nx s', execA E ρ o s = some (nx, s') ∧ K nx s'

/-- An operation. -/
noncomputable def execP (E : Env) (ρ : Operand → Value) (o : Oper) (s : St) (K : Nx → St → Prop) : Prop :=
  match o.op with
  | .move x => K (.value (ρ x)) s
  | .assign x => K (.value (ρ x)) s
  | .pick c a b => match ρ c with
    | .bool t => pickP t (K (.value (ρ a)) s) (K (.value (ρ b)) s)
    | _ => False
  | .unOp u _ x => match u, ρ x with
    | .not, .bool b => K (.value (.bool (!b))) s
    | .neg, .int k a => ∃ z, k.wrap (-a) = z ∧ K (.value (.int k z)) s
    | _, _ => anyP E ρ o s K
  | .binOp op _ x y _ => match ρ x with
    | .int k a => (match ρ y with
      | .int k' b => pickP (Nat.beq (codeK k) (codeK k')) (intP op k a b (anyP E ρ o s K) fun v => K (.value v) s) False
      | _ => anyP E ρ o s K)
    | .string a => (match ρ y with
      | .string b => strP op a b (anyP E ρ o s K) fun v => K (.value v) s
      | _ => anyP E ρ o s K)
    | _ => anyP E ρ o s K
  | .index t x i => match ρ x with
    | .string st => (match ρ i with
      | .int _ n => E.und t = some .string ∧ ∃ (m : Nat) (b : UInt8), n = (m : Int) ∧ st.data.toList[m]? = some b ∧ K (.value (.int .u8 b.toNat)) s
      | _ => False)
    | _ => anyP E ρ o s K
  | .indexAddr t x i => match ρ i with
    | .int _ n => ∃ (e : TypeId) (inf : TypeInfo), E.und t = some (.slice e) ∧ E.info e = some inf ∧ (match ρ x with
      | .slice (some a) len _ => ∃ m : Nat, n = (m : Int) ∧ m < len ∧ K (.value (.pointer (some ⟨a.block, a.off + m * inf.size, none⟩))) s
      | .func (.yield 0) cs c => (match c.toList with
        | [.int .i64 (.ofNat len)] => ∃ m : Nat, n = (m : Int) ∧ m < len ∧ K (.value (fzp (m * inf.size) cs.toList)) s
        | _ => False)
      | _ => False)
    | _ => False
  | .load t a => match ρ a with
    | .func (.yield 1) cs c => (match c.toList with
      | [.int .i64 (.ofNat o)] => ∃ v, partA E t cs.toList o = some v ∧ K (.value v) s
      | _ => False)
    | _ => anyP E ρ o s K
  | _ => anyP E ρ o s K

theorem binOpA_slow {E : Env} {op : BinOp} {t : TypeId} {xo yo : Operand} {k : IntKind} {a b : Int} {v : Value} (h0 : intBinA op k a b = none) (h : binPlainA E op t xo yo (.int k a) (.int k b) = some v) (hp : plain v = true) :
    binOpA E op t xo yo (.int k a) (.int k b) = some v := by
  unfold binOpA
  have e1 : isTok (.int k a) = false := rfl
  have e2 : isTok (.int k b) = false := rfl
  simp only [e1, e2, Nat.beq_refl, cond_true, cond_false, h0, orA]
  unfold binSlowA
  have h1 : plain (.int k a) = true := rfl
  have h2 : plain (.int k b) = true := rfl
  rw [h1, h2, Bool.and_self, cond_true, h]
  simp [hp, guardO]
theorem binPlain_and {E : Env} {t : TypeId} {xo yo : Operand} {k : IntKind} {a b : Int} : binPlainA E .and t xo yo (.int k a) (.int k b) = some (.int k (k.wrap ((BitVec.ofInt k.bits a &&& BitVec.ofInt k.bits b).toNat : Int))) := by
  unfold binPlainA binOp
  simp
  rfl
theorem binPlain_quo {E : Env} {t : TypeId} {xo yo : Operand} {k : IntKind} {a b : Int} (h : b ≠ 0) : binPlainA E .quo t xo yo (.int k a) (.int k b) = some (.int k (k.wrap (a.tdiv b))) := by
  unfold binPlainA binOp Op.intDiv
  simp [h]
  rfl
theorem binPlain_rem {E : Env} {t : TypeId} {xo yo : Operand} {k : IntKind} {a b : Int} (h : b ≠ 0) : binPlainA E .rem t xo yo (.int k a) (.int k b) = some (.int k (a.tmod b)) := by
  unfold binPlainA binOp Op.intDiv
  simp [h]
  rfl
theorem int_spec {E : Env} {t : TypeId} {xo yo : Operand} {op : BinOp} {k : IntKind} {a b : Int} {D : Prop} {K : Value → Prop} (h : intP op k a b D K) : D ∨ ∃ v, binOpA E op t xo yo (.int k a) (.int k b) = some v ∧ K v := by
  unfold intP at h
  have eb : ∀ x y : Int, (decide (x = y)) = eqA x y := fun x y => by rw [eqA_eq]; exact Bool.eq_iff_iff.2 (by simp)
  have fast : ∀ v, intBinA op k a b = some v → binOpA E op t xo yo (.int k a) (.int k b) = some v := fun v hv => by
    unfold binOpA
    have e1 : isTok (.int k a) = false := rfl
    have e2 : isTok (.int k b) = false := rfl
    simp only [e1, e2, Nat.beq_refl, cond_true, cond_false, hv, orA]
  split at h
  · obtain ⟨z, rfl, h⟩ := h; exact Or.inr ⟨_, fast _ rfl, by rw [wrapA_eq]; exact h⟩
  · obtain ⟨z, rfl, h⟩ := h; exact Or.inr ⟨_, fast _ rfl, by rw [wrapA_eq]; exact h⟩
  · obtain ⟨z, rfl, h⟩ := h; exact Or.inr ⟨_, fast _ rfl, by rw [wrapA_eq]; exact h⟩
  · obtain ⟨z, rfl, h⟩ := h; exact Or.inr ⟨_, fast _ rfl, by rw [← eb]; exact h⟩
  · obtain ⟨z, rfl, h⟩ := h; exact Or.inr ⟨_, fast _ rfl, by rw [← eb]; exact h⟩
  · obtain ⟨z, rfl, h⟩ := h; exact Or.inr ⟨_, fast _ rfl, by rw [ltA_eq]; exact h⟩
  · obtain ⟨z, rfl, h⟩ := h; exact Or.inr ⟨_, fast _ rfl, by rw [ltA_eq]; exact h⟩
  · obtain ⟨z, rfl, h⟩ := h; exact Or.inr ⟨_, fast _ rfl, by rw [ltA_eq]; exact h⟩
  · obtain ⟨z, rfl, h⟩ := h; exact Or.inr ⟨_, fast _ rfl, by rw [ltA_eq]; exact h⟩
  · obtain ⟨z, rfl, h⟩ := h; exact Or.inr ⟨_, binOpA_slow rfl binPlain_and rfl, h⟩
  · obtain ⟨hb, z, rfl, h⟩ := h; exact Or.inr ⟨_, binOpA_slow rfl (binPlain_quo hb) rfl, h⟩
  · obtain ⟨hb, z, rfl, h⟩ := h; exact Or.inr ⟨_, binOpA_slow rfl (binPlain_rem hb) rfl, h⟩
  · exact Or.inl h
theorem str_spec {op : BinOp} {a b : ByteArray} {D : Prop} {K : Value → Prop} (h : strP op a b D K) : D ∨ ∃ v, strBinA op a b = some v ∧ K v := by
  unfold strP at h
  have eb : ∀ x y : List UInt8, decide (x = y) = bytesEqA x y := fun x y => by rw [bytesEqA_eq]; exact Bool.eq_iff_iff.2 (by simp)
  split at h
  · obtain ⟨z, rfl, h⟩ := h; exact Or.inr ⟨_, rfl, by rw [← eb]; exact h⟩
  · obtain ⟨z, rfl, h⟩ := h; exact Or.inr ⟨_, rfl, by rw [← eb]; exact h⟩
  · exact Or.inl h

theorem value_exec {E : Env} {ρ : Operand → Value} {o : Oper} {s : St} {v : Value} (h : execA E ρ o = asV (M.lift (valueA E ρ o.op))) (hv : valueA E ρ o.op = some v) : execA E ρ o s = some (.value v, s) := by
  rw [h]; unfold asV; rw [M.bind_eq, M.lift_eq, hv]; rfl

theorem exec_spec {E : Env} {ρ : Operand → Value} {o : Oper} {s : St} {K : Nx → St → Prop} (h : execP E ρ o s K) : ∃ nx s', execA E ρ o s = some (nx, s') ∧ K nx s' := by
  obtain ⟨dst, op, ty, pos, after, guard⟩ := o
  unfold execP at h
  cases op <;> simp only at h <;> first
    | exact h
    | skip
  · exact ⟨_, _, value_exec rfl rfl, h⟩
  · exact ⟨_, _, value_exec rfl rfl, h⟩
  · rename_i c a b
    split at h
    · rename_i t ht
      cases t with
      | true => exact ⟨_, _, value_exec (v := ρ a) rfl (by show pickA (ρ c) (ρ a) (ρ b) = _; rw [ht]; rfl), h⟩
      | false => exact ⟨_, _, value_exec (v := ρ b) rfl (by show pickA (ρ c) (ρ a) (ρ b) = _; rw [ht]; rfl), h⟩
    · exact h.elim
  · rename_i t a
    split at h
    · rename_i cs c ha
      split at h
      · rename_i o hc
        obtain ⟨v, hv, hK⟩ := h
        refine ⟨_, _, ?_, hK⟩
        show asV (loadA E t (ρ a)) s = _
        have hfz : asFz (ρ a) = some (1, o, cs.toList) := by rw [ha]; unfold asFz; simp only [hc]
        unfold asV loadA
        rw [hfz]
        simp only [M.bind_eq, M.lift_eq, hv]
        rfl
      · exact h.elim
    · exact h
  · rename_i op t x y u
    split at h
    · rename_i k a hx
      split at h
      · rename_i k' b hy
        cases hk : Nat.beq (codeK k) (codeK k') with
        | false => rw [hk] at h; exact h.elim
        | true =>
          rw [hk] at h
          have h' : intP op k a b (anyP E ρ { dst := dst, op := Op.binOp op t x y u, type := ty, pos := pos, after := after, guard := guard } s K) (fun v => K (Nx.value v) s) := h
          rcases int_spec (E := E) (t := t) (xo := x) (yo := y) h' with h | ⟨v, hv, hK⟩
          · exact h
          · refine ⟨_, _, value_exec (v := v) rfl ?_, hK⟩
            show binOpA E op t x y (ρ x) (ρ y) = _
            rw [hx, hy]
            have : k = k' := codeK_inj hk
            subst this
            exact hv
      · exact h
    · rename_i a hx
      split at h
      · rename_i b hy
        rcases str_spec h with h | ⟨v, hv, hK⟩
        · exact h
        · refine ⟨_, _, value_exec (v := v) rfl ?_, hK⟩
          show binOpA E op t x y (ρ x) (ρ y) = _
          rw [hx, hy]
          unfold binOpA
          simp only [hv]
          rfl
      · exact h
    · exact h
  · rename_i u t x
    have go : ∀ v, unOpA E u (ρ x) = some v → K (.value v) s → ∃ nx s', execA E ρ { dst := dst, op := Op.unOp u t x, type := ty, pos := pos, after := after, guard := guard } s = some (nx, s') ∧ K nx s' := fun v hv hK => ⟨_, _, value_exec rfl hv, hK⟩
    split at h
    · rename_i b hx
      exact go _ (by rw [hx]; rfl) h
    · rename_i k a hx
      obtain ⟨z, rfl, h⟩ := h
      refine go _ ?_ h
      rw [hx]
      unfold unOpA
      have h1 : plain (.int k a) = true := rfl
      rw [h1]
      have h2 : pureRun E.P (Op.unary .neg (.int k a)) = some (.int k (k.wrap (-a))) := by
        unfold Op.unary
        simp only [Op.intArith]
        show some (Value.int k (k.wrap (0 - a))) = _
        rw [Int.zero_sub]
      simp only [guardO, cond_true, Option.bind_some, h2]
      rfl
    · exact h
  · rename_i t x i
    split at h
    · rename_i kk n hi
      obtain ⟨e, inf, hd, hinf, h⟩ := h
      split at h
      · rename_i a len cap hx
        obtain ⟨m, rfl, hm, hK⟩ := h
        refine ⟨_, _, value_exec rfl ?_, hK⟩
        show indexAddrA E t (ρ x) (ρ i) = _
        rw [hx, hi]
        unfold indexAddrA
        have h1 : idx (.int kk (m : Int)) = some m := rfl
        have h2 : asFz (.slice (some a) len cap) = none := rfl
        have h3 : asSlice (.slice (some a) len cap) = some (some a, len, cap) := rfl
        simp only [hd, h1, hinf, h2, h3, Option.bind_some, lt_blt0 hm, guardO, cond_true, Option.map_some]
      · rename_i cs c hx
        split at h
        · rename_i len hc
          obtain ⟨m, rfl, hm, hK⟩ := h
          refine ⟨_, _, value_exec rfl ?_, hK⟩
          show indexAddrA E t (ρ x) (ρ i) = _
          have hfz : asFz (ρ x) = some (0, len, cs.toList) := by rw [hx]; unfold asFz; simp only [hc]
          rw [hi]
          unfold indexAddrA
          have h1 : idx (.int kk (m : Int)) = some m := rfl
          have h4 : Nat.beq 0 0 = true := rfl
          simp only [hd, h1, hinf, hfz, Option.bind_some, lt_blt0 hm, h4, Bool.and_self, guardO, cond_true, Option.map_some]
        · exact h.elim
      · exact h.elim
    · exact h.elim
  · rename_i t x i
    split at h
    · rename_i st hx
      split at h
      · rename_i kk n hi
        obtain ⟨hd, m, b, rfl, hb, hK⟩ := h
        refine ⟨_, _, value_exec rfl ?_, hK⟩
        show indexA E t (ρ x) (ρ i) = _
        rw [hx, hi]
        unfold indexA
        have h1 : idx (.int kk (m : Int)) = some m := rfl
        have h2 : asStr (.string st) = some st := rfl
        simp only [hd, h1, h2, Option.bind_some, hb, Option.map_some]
      · exact h.elim
    · exact h

/-- Whether it is wanted: a guard is a bool that is known. -/
noncomputable def wantP (ops : Array Oper) (f : SF) (o : Oper) (A B : Prop) : Prop :=
  match o.guard with
  | none => A
  | some (j, want) => match ops[j]? with
    | some g => (match g.dst with
      | some d => (match f.get d with
        | .bool b => pickP b (pickP want A B) (pickP want B A)
        | _ => False)
      | none => False)
    | none => False
noncomputable def dstP (f : SF) (d : Option Tmp) (v : Value) (K : SF → Prop) : Prop :=
  match d with
  | none => K f
  | some d => when (Nat.blt d f.n) (K (f.put d v))

/-- What a call answers. -/
def CallP := FuncId → List Value → St → (Value → St → Prop) → Prop
def CallP.fits (cp : CallP) (call : FuncId → List Value → M Value) : Prop := ∀ f args s K, cp f args s K → ∃ v s', call f args s = some (v, s') ∧ K v s'

noncomputable def opP (E : Env) (cp : CallP) (ops : Array Oper) (o : Oper) (f : SF) (s : St) (K : SF → St → Prop) : Prop :=
  wantP ops f o
    (execP E f.eval o s fun nx s => match nx with
      | .value v => dstP f o.dst v fun f => K f s
      | .skip => dstP f o.dst undef fun f => K f s
      | .known _ _ v => dstP f o.dst v fun f => K f s
      | .enter g args => cp g args s fun v s => dstP f o.dst v fun f => K f s)
    (dstP f o.dst undef fun f => K f s)
noncomputable def opsP (E : Env) (cp : CallP) (ops : Array Oper) : List Oper → SF → St → (SF → St → Prop) → Prop
  | [], f, s, K => K f s
  | o :: l, f, s, K => opP E cp ops o f s fun f s => opsP E cp ops l f s K
noncomputable def watchP (s : St) (K : Did → St → Prop) (s' : St) : Prop :=
  K { lo := s.next, hi := s'.next, log := below s.next s'.log, wlog := below s.next s'.wlog } { s' with log := below s.next s'.log ++ s.log, wlog := below s.next s'.wlog ++ s.wlog }
noncomputable def drawP (E : Env) (cp : CallP) (ops : Array Oper) (before : Array Nat) : List Oper → Nat → List (Nat × Did) → SF → St → (SF → St → Prop) → Prop
  | [], _, _, f, s, K => K f s
  | o :: l, i, ds, f, s, K => opP E cp ops o f { s with log := [], wlog := [] } fun f s' =>
      watchP s (fun d s' => settled before i d ds = true ∧ drawP E cp ops before l (Nat.succ i) (keep i d ds) f s' K) s'

theorem dst_spec {f : SF} (hf : f.ok) {d : Option Tmp} {v : Value} {K : SF → Prop} {s : St} (h : dstP f d v K) : ∃ f', f'.ok ∧ f.fr.dst d v s = some (f'.fr, s) ∧ K f' := by
  unfold dstP at h
  cases d with
  | none => exact ⟨f, hf, rfl, h⟩
  | some d =>
    obtain ⟨h1, h2⟩ := when_spec h
    refine ⟨f.put d v, SF.put_ok hf (blt_lt0 h1), ?_, h2⟩
    unfold Fr.dst
    have : Nat.blt d f.fr.n = true := h1
    simp only [this, cond_true, SF.put_fr]
    rfl

theorem want_spec {ops : Array Oper} {f : SF} (hf : f.ok) {o : Oper} {A B : Prop} (h : wantP ops f o A B) : sureA ops f.fr o = true ∧ (wantedA ops f.fr o = true ∧ A ∨ wantedA ops f.fr o = false ∧ B) := by
  unfold wantP at h
  unfold sureA wantedA
  split at h
  · rename_i hg
    simp only [hg]
    exact ⟨trivial, Or.inl ⟨trivial, h⟩⟩
  · rename_i j want hg
    split at h
    · rename_i g hgo
      split at h
      · rename_i d hd
        split at h
        · rename_i b hb
          rw [← SF.get_fr hf] at hb
          simp only [hg, hgo, hd, hb]
          refine ⟨rfl, ?_⟩
          cases b <;> cases want
          · exact Or.inl ⟨rfl, h⟩
          · exact Or.inr ⟨rfl, h⟩
          · exact Or.inr ⟨rfl, h⟩
          · exact Or.inl ⟨rfl, h⟩
        · exact h.elim
      · exact h.elim
    · exact h.elim

theorem op_spec {E : Env} {cp : CallP} {call : FuncId → List Value → M Value} (hc : cp.fits call) {ops : Array Oper} {o : Oper} {f : SF} (hf : f.ok) {s : St} {K : SF → St → Prop} (h : opP E cp ops o f s K) :
    ∃ f' s', f'.ok ∧ evOp E call ops o f.fr s = some (f'.fr, s') ∧ K f' s' := by
  unfold opP at h
  obtain ⟨hs, h⟩ := want_spec hf h
  unfold evOp
  rw [hs, Bool.not_true, cond_false]
  rcases h with ⟨hw, h⟩ | ⟨hw, h⟩
  · rw [hw, cond_true]
    obtain ⟨nx, s1, h1, h2⟩ := exec_spec h
    rw [SF.eval_fr hf, M.bind_eq, h1]
    simp only
    cases nx with
    | value v => obtain ⟨f', a, b, c⟩ := dst_spec hf (s := s1) h2; exact ⟨f', s1, a, b, c⟩
    | skip => obtain ⟨f', a, b, c⟩ := dst_spec hf (s := s1) h2; exact ⟨f', s1, a, b, c⟩
    | known g args v => obtain ⟨f', a, b, c⟩ := dst_spec hf (s := s1) h2; exact ⟨f', s1, a, b, c⟩
    | enter g args =>
      obtain ⟨v, s2, h3, h4⟩ := hc g args s1 _ h2
      obtain ⟨f', a, b, c⟩ := dst_spec hf (s := s2) h4
      exact ⟨f', s2, a, by simp only [M.bind_eq, h3]; exact b, c⟩
  · rw [hw, cond_false]
    obtain ⟨f', a, b, c⟩ := dst_spec hf (s := s) h
    exact ⟨f', s, a, b, c⟩
theorem ops_spec {E : Env} {cp : CallP} {call : FuncId → List Value → M Value} (hc : cp.fits call) {ops : Array Oper} : ∀ (l : List Oper) (f : SF) (s : St) (K : SF → St → Prop), f.ok → opsP E cp ops l f s K →
    ∃ f' s', f'.ok ∧ evOps E call ops l f.fr s = some (f'.fr, s') ∧ K f' s'
  | [], f, s, K, hf, h => ⟨f, s, hf, rfl, h⟩
  | o :: l, f, s, K, hf, h => by
    unfold opsP at h
    obtain ⟨f1, s1, a1, b1, c1⟩ := op_spec hc hf h
    obtain ⟨f2, s2, a2, b2, c2⟩ := ops_spec hc l f1 s1 K a1 c1
    exact ⟨f2, s2, a2, by unfold evOps; rw [M.bind_eq, b1]; exact b2, c2⟩
theorem draw_spec {E : Env} {cp : CallP} {call : FuncId → List Value → M Value} (hc : cp.fits call) {ops : Array Oper} {before : Array Nat} : ∀ (l : List Oper) (i : Nat) (ds : List (Nat × Did)) (f : SF) (s : St) (K : SF → St → Prop), f.ok → drawP E cp ops before l i ds f s K →
    ∃ f' s', f'.ok ∧ evDraw E call ops before l i ds f.fr s = some (f'.fr, s') ∧ K f' s'
  | [], _, _, f, s, K, hf, h => ⟨f, s, hf, rfl, h⟩
  | o :: l, i, ds, f, s, K, hf, h => by
    unfold drawP at h
    obtain ⟨f1, s1, a1, b1, c1⟩ := op_spec hc hf h
    obtain ⟨h1, h2⟩ := c1
    obtain ⟨f2, s2, a2, b2, c2⟩ := draw_spec hc l _ _ f1 _ K a1 h2
    refine ⟨f2, s2, a2, ?_, c2⟩
    unfold evDraw
    rw [M.bind_eq, M.watch_eq, b1]
    simp only [h1, cond_true]
    exact b2
end Go.Cm
