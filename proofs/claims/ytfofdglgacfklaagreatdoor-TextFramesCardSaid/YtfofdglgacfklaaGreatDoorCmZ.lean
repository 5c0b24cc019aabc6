/-
  A call of cold things, once run: what it answers may be taken as known wherever it is called.
-/
import Derived.Test.YtfofdglgacfklaaGreatDoorCmY
namespace Go.Cm
open Go Go.RowKit

/-- Cells handed back: those that are told by a flag keep a row of their own, the others become cold. -/
noncomputable def packL : List Bool → List Value → M (List Value × List Nat)
  | _, [] => M.pure ([], [])
  | fl, v :: l =>
    bif fl.headD false then
      match v with
      | .slice (some a) n c => M.bind (M.row a.block) fun x => M.bind (M.lift (ownR x)) fun ec => M.bind (M.mapL (coolN 8) ec.2) fun ds =>
          M.bind (M.row a.block) fun y => M.bind (M.lift (ownR y)) fun ed => M.bind (M.guard (Nat.beq ds.length ed.2.length)) fun _ =>
          M.bind (M.turn a.block (some (.cells false ed.1 ds))) fun _ => M.bind (packL fl.tail l) fun p => M.pure (.slice (some a) n c :: p.1, a.block :: p.2)
      | v => M.bind (coolN 8 v) fun d => M.bind (packL fl.tail l) fun p => M.pure (d :: p.1, p.2)
    else M.bind (coolN 8 v) fun d => M.bind (packL fl.tail l) fun p => M.pure (d :: p.1, p.2)
noncomputable def headV : List Value → Option Value
  | [v] => some v
  | _ => none
/-- A value handed back. -/
noncomputable def packV (fl : List Bool) (v : Value) : M (Value × List Nat) :=
  match v with
  | .agg cs => M.bind (packL fl cs.toList) fun p => M.pure (.agg ⟨p.1⟩, p.2)
  | v => M.bind (packL fl [v]) fun p => M.bind (M.lift (headV p.1)) fun u => M.pure (u, p.2)
noncomputable def packTs : List (List Bool) → List Value → M (List Value × List Nat)
  | _, [] => M.pure ([], [])
  | fl, v :: l => M.bind (packV (fl.headD []) v) fun p => M.bind (packTs fl.tail l) fun q => M.pure (p.1 :: q.1, p.2 ++ q.2)
noncomputable def packM (fl : List (List Bool)) (v : Value) : M (Value × List Nat) :=
  match v with
  | .tuple vs => M.bind (packTs fl vs.toList) fun p => M.pure (.tuple ⟨p.1⟩, p.2)
  | v => packV (fl.headD []) v
noncomputable def rowsOf (s : St) (l : List Nat) : Option (List (Nat × List Value)) := optL (fun r => (s.rows.get r).bind ownR) l
noncomputable def indexIn (l : List Nat) (r : Nat) : Option Nat :=
  match l with
  | [] => none
  | q :: l => bif Nat.beq q r then some 0 else (indexIn l r).map Nat.succ
noncomputable def nodup : List Nat → Bool
  | [] => true
  | r :: l => bif l.any (Nat.beq r) then false else nodup l
noncomputable def packed (fl : List (List Bool)) (v : Value) (s : St) : Option (Value × List (Nat × List Value)) :=
  match packM fl v s with
  | some (p, s') => (rowsOf s' p.2).bind fun rows => (guardO (nodup p.2 && coldRows rows)).bind fun _ => (shiftN (indexIn p.2) 3 p.1).map fun u => (u, rows)
  | none => none
/-- What a call answers, of cold things, from nothing. -/
noncomputable def deepRun (E : Env) (n n0 : Nat) (fl : List (List Bool)) (f : FuncId) (ds : List Value) : Option (Value × List (Nat × List Value)) :=
  match run E n f ds (St.empty n0) with
  | some (v, s) => packed fl v s
  | none => none

section
variable {base : Nat}
/-- What is handed back, and what it is to the model. -/
noncomputable def Packing (base : Nat) (μ : Mu) (w : World) (s s' : St) (Q : Mu → Prop) : Prop :=
  ∃ μ' : Mu, μ'.at_ = μ.at_ ∧ (μ.le μ' ∧ ∀ b, μ.fz b = none → μ'.fz b ≠ none → base ≤ b) ∧ SRel base μ' s'.rows.get w ∧ s'.next = s.next ∧ Q μ'

theorem SRel.recell {μ : Mu} {R R' : Nat → Option Row} {w : World} (h : SRel base μ R w) {r : Nat} {es : Nat} {cs ds : List Value} (hr : R r = some (.cells false es cs))
    (hd : ∀ L, μ r = some L → ∀ (i : Nat) (v : Value), ds[i]? = some v → ∃ v', w.cell? ⟨L.b, L.o + i, none⟩ = some v' ∧ VRel μ v v') (hl : ds.length = cs.length)
    (hR : ∀ q, R' q = if q = r then some (.cells false es ds) else R q) : SRel base μ R' w := by
  obtain ⟨L, hL, h1, h2, h3⟩ := h.row r _ hr
  exact h.turn r _ L hr rfl hL rfl (fun _ _ => rfl) (some (.cells false es ds)) (fun z hz => by
    injection hz with hz; subst hz
    exact ⟨hd L hL, by omega, h3⟩) hR

theorem keep_ok {r es es2 : Nat} {cs ds cs2 : List Value} {s s1 s2 : St} {μ : Mu} {w : World} (hx : s.rows.get r = some (.cells false es cs)) (hm : M.mapL (coolN 8) cs s = some (ds, s1))
    (hown : s1.rows.get r = some (.cells false es2 cs2)) (hlen2 : ds.length = cs2.length) (hR : ∀ q, s2.rows.get q = if q = r then some (.cells false es2 ds) else s1.rows.get q) (hn : s2.next = s1.next) (hs : SRel base μ s.rows.get w) :
    Packing base μ w s s2 fun _ => True := by
  obtain ⟨L, hL, h1, h2, h3⟩ := hs.row r _ hx
  have hvr : VRels μ cs ((List.range cs.length).map fun i => (w.cell? ⟨L.b, L.o + i, none⟩).getD undef) := by
    refine VRels.of_get _ _ (by simp) fun i v hv => ?_
    have hi : i < cs.length := by
      rcases Nat.lt_or_ge i cs.length with h | h
      · exact h
      · rw [List.getElem?_eq_none h] at hv; cases hv
    obtain ⟨v', a, b⟩ := h1 i v hv
    exact ⟨v', by simp [hi, a], b⟩
  obtain ⟨μ1, a1, b1, c1, e1, f1⟩ := cool_list (base := base) (cool_ok 8) cs ds s s1 μ w _ hm hvr hs
  have hlen := f1.length
  simp only [List.length_map, List.length_range] at hlen
  refine ⟨μ1, a1, b1, c1.recell (r := r) (cs := cs2) (ds := ds) hown (fun K hK i v hv => ?_) hlen2 hR, by rw [hn]; exact e1, trivial⟩
  rw [a1, hL] at hK
  injection hK with hK; subst hK
  obtain ⟨v', g1, g2⟩ := f1.get i v hv
  have hi : i < cs.length := by
    rcases Nat.lt_or_ge i ds.length with h | h
    · omega
    · rw [List.getElem?_eq_none h] at hv; cases hv
  obtain ⟨x, hx'⟩ : ∃ x, cs[i]? = some x := ⟨cs[i], List.getElem?_eq_getElem hi⟩
  obtain ⟨y, k1, k2⟩ := h1 i x hx'
  simp [hi, k1] at g1
  subst g1
  exact ⟨_, k1, g2.rel⟩

theorem Packing.mono {μ : Mu} {w : World} {s s' : St} {Q Q' : Mu → Prop} (h : Packing base μ w s s' Q) (hq : ∀ μ', μ.le μ' → Q μ' → Q' μ') : Packing base μ w s s' Q' :=
  let ⟨μ', a, b, c, d, e⟩ := h; ⟨μ', a, b, c, d, hq μ' b.1 e⟩
theorem Packing.trans {μ : Mu} {w : World} {s s1 s2 : St} {Q Q' : Mu → Prop} (h : Packing base μ w s s1 Q) (k : ∀ μ', μ.le μ' → SRel base μ' s1.rows.get w → Q μ' → Packing base μ' w s1 s2 Q') : Packing base μ w s s2 Q' := by
  obtain ⟨μ1, a1, b1, c1, d1, e1⟩ := h
  obtain ⟨μ2, a2, b2, c2, d2, e2⟩ := k μ1 b1.1 c1 e1
  exact ⟨μ2, a2.trans a1, fz_trans b1 b2, c2, d2.trans d1, e2⟩

theorem packL_ok : ∀ (l : List Value) (fl : List Bool) (vs : List Value) (rs : List Nat) (s s' : St) (μ : Mu) (w : World) (l' : List Value), packL fl l s = some ((vs, rs), s') → VRels μ l l' → SRel base μ s.rows.get w →
    Packing base μ w s s' fun μ' => VRels μ' vs l'
  | [], fl, vs, rs, s, s', μ, w, l', h, hv, hs => by
    unfold packL at h
    rw [pure_some] at h
    obtain ⟨h, rfl⟩ := h
    injection h with h1 h2; subst h1; subst h2
    cases hv
    exact ⟨μ, rfl, ⟨Mu.le_refl μ, fun _ a b => absurd a b⟩, hs, rfl, .nil⟩
  | v :: l, fl, vs, rs, s, s', μ, w, l', h, hv, hs => by
    cases hv with
    | cons _ v' _ l' hv hl =>
      have cold : ∀ (vs : List Value) (rs : List Nat), (M.bind (coolN 8 v) fun d => M.bind (packL fl.tail l) fun p => M.pure (d :: p.1, p.2)) s = some ((vs, rs), s') → Packing base μ w s s' fun μ' => VRels μ' vs (v' :: l') := by
        intro vs rs h
        rw [bind_some] at h
        obtain ⟨d, s1, h1, h⟩ := h
        rw [bind_some] at h
        obtain ⟨⟨ps, qs⟩, s2, h2, h⟩ := h
        rw [pure_some] at h
        obtain ⟨h, rfl⟩ := h
        injection h with e1 e2; subst e1; subst e2
        obtain ⟨μ1, a1, b1, c1, d1, e1⟩ := cool_ok (base := base) 8 v d s s1 μ w v' h1 hv hs
        refine Packing.trans (Q := fun μ' => Cold μ'.fz d v') ⟨μ1, a1, b1, c1, d1, e1⟩ fun μ' hle hs' hc => ?_
        exact (packL_ok l fl.tail _ _ s1 _ μ' w l' h2 (hl.mono hle) hs').mono fun μ2 hle2 hv2 => .cons _ _ _ _ (hc.mono hle2.fz).rel hv2
      unfold packL at h
      cases hf : fl.headD false with
      | false => rw [hf, cond_false] at h; exact cold vs rs h
      | true =>
        rw [hf, cond_true] at h
        split at h
        · rename_i a n c
          simp only [row_bind, lift_bind, ownR_some] at h
          obtain ⟨_, x, hx, ⟨es, cs⟩, rfl, h⟩ := h
          rw [bind_some] at h
          obtain ⟨ds, s1, h1, h⟩ := h
          simp only [row_bind, lift_bind, guard_bind, ownR_some] at h
          obtain ⟨_, y, hy, ⟨es2, cs2⟩, rfl, hlen, h⟩ := h
          rw [bind_some] at h
          obtain ⟨_, s2, ht, h⟩ := h
          rw [bind_some] at h
          obtain ⟨⟨ps, qs⟩, s3, h2, h⟩ := h
          rw [pure_some] at h
          obtain ⟨h, rfl⟩ := h
          injection h with e1 e2; subst e1; subst e2
          rw [turn_some] at ht
          obtain ⟨_, _, hble, e⟩ := ht
          have hk := keep_ok (base := base) (s := { s with log := a.block :: s.log }) (s1 := s1) (s2 := s2) (w := w) hx h1 hy (Nat.eq_of_beq_eq_true hlen) (fun q => by rw [e]; exact D.got _ _ _ _ hble) (by rw [e]) hs
          have hk2 : Packing base μ w s s2 fun _ => True := hk
          refine hk2.trans fun μ' hle hs' _ => ?_
          exact (packL_ok l fl.tail _ _ s2 _ μ' w l' h2 (hl.mono hle) hs').mono fun μ2 hle2 hv2 => .cons _ _ _ _ (hv.mono (Mu.le_trans hle hle2)) hv2
        · exact cold vs rs h

theorem packV_ok (fl : List Bool) (v u : Value) (rs : List Nat) (s s' : St) (μ : Mu) (w : World) (v' : Value) (h : packV fl v s = some ((u, rs), s')) (hv : VRel μ v v') (hs : SRel base μ s.rows.get w) :
    Packing base μ w s s' fun μ' => VRel μ' u v' := by
  unfold packV at h
  split at h
  · rename_i cs
    rw [bind_some] at h
    obtain ⟨⟨ps, qs⟩, s1, h1, h⟩ := h
    rw [pure_some] at h
    obtain ⟨h, rfl⟩ := h
    injection h with e1 e2; subst e1; subst e2
    obtain ⟨c', rfl, hc⟩ := hv.ofAgg
    exact (packL_ok _ _ _ _ _ _ μ w _ h1 hc hs).mono fun μ' _ hq => .agg _ _ hq
  · rw [bind_some] at h
    obtain ⟨⟨ps, qs⟩, s1, h1, h⟩ := h
    simp only [lift_bind, pure_some] at h
    obtain ⟨x, hx, h, rfl⟩ := h
    injection h with e1 e2; subst e1; subst e2
    refine (packL_ok _ _ _ _ _ _ μ w [v'] h1 (.cons _ _ _ _ hv .nil) hs).mono fun μ' _ hq => ?_
    unfold headV at hx
    split at hx
    · injection hx with hx; subst hx
      cases hq with | cons _ _ _ _ h _ => exact h
    · cases hx
theorem packTs_ok : ∀ (l : List Value) (fl : List (List Bool)) (vs : List Value) (rs : List Nat) (s s' : St) (μ : Mu) (w : World) (l' : List Value), packTs fl l s = some ((vs, rs), s') → VRels μ l l' → SRel base μ s.rows.get w →
    Packing base μ w s s' fun μ' => VRels μ' vs l'
  | [], fl, vs, rs, s, s', μ, w, l', h, hv, hs => by
    unfold packTs at h
    rw [pure_some] at h
    obtain ⟨h, rfl⟩ := h
    injection h with h1 h2; subst h1; subst h2
    cases hv
    exact ⟨μ, rfl, ⟨Mu.le_refl μ, fun _ a b => absurd a b⟩, hs, rfl, .nil⟩
  | v :: l, fl, vs, rs, s, s', μ, w, l', h, hv, hs => by
    cases hv with
    | cons _ v' _ l' hv hl =>
      unfold packTs at h
      rw [bind_some] at h
      obtain ⟨⟨u, us⟩, s1, h1, h⟩ := h
      rw [bind_some] at h
      obtain ⟨⟨ps, qs⟩, s2, h2, h⟩ := h
      rw [pure_some] at h
      obtain ⟨h, rfl⟩ := h
      injection h with e1 e2; subst e1; subst e2
      refine (packV_ok _ v _ _ s s1 μ w v' h1 hv hs).trans fun μ' hle hs' hq => ?_
      exact (packTs_ok l fl.tail _ _ s1 _ μ' w l' h2 (hl.mono hle) hs').mono fun μ2 hle2 hv2 => .cons _ _ _ _ (hq.mono hle2) hv2
theorem packM_ok (fl : List (List Bool)) (v u : Value) (rs : List Nat) (s s' : St) (μ : Mu) (w : World) (v' : Value) (h : packM fl v s = some ((u, rs), s')) (hv : VRel μ v v') (hs : SRel base μ s.rows.get w) :
    Packing base μ w s s' fun μ' => VRel μ' u v' := by
  unfold packM at h
  split at h
  · rename_i cs
    rw [bind_some] at h
    obtain ⟨⟨ps, qs⟩, s1, h1, h⟩ := h
    rw [pure_some] at h
    obtain ⟨h, rfl⟩ := h
    injection h with e1 e2; subst e1; subst e2
    obtain ⟨c', rfl, hc⟩ := hv.ofTuple
    exact (packTs_ok _ _ _ _ _ _ μ w _ h1 hc hs).mono fun μ' _ hq => .tuple _ _ hq
  · exact packV_ok _ _ _ _ _ _ μ w v' h hv hs

theorem indexIn_some : ∀ {l : List Nat} {r k : Nat}, indexIn l r = some k → l[k]? = some r
  | [], r, k, h => by cases h
  | q :: l, r, k, h => by
    unfold indexIn at h
    cases hb : Nat.beq q r with
    | true => rw [hb, cond_true] at h; injection h with h; subst h; simp [Nat.eq_of_beq_eq_true hb]
    | false =>
      rw [hb, cond_false, Option.map_eq_some_iff] at h
      obtain ⟨j, hj, rfl⟩ := h
      simpa using indexIn_some hj
theorem nodup_get : ∀ {l : List Nat}, nodup l = true → ∀ (i j r : Nat), l[i]? = some r → l[j]? = some r → i = j
  | [], _, i, j, r, h, _ => by simp at h
  | q :: l, hn, i, j, r, h1, h2 => by
    unfold nodup at hn
    cases hb : l.any (Nat.beq q) with
    | true => rw [hb] at hn; cases hn
    | false =>
      rw [hb, cond_false] at hn
      have hne : ∀ k : Nat, l[k]? ≠ some q := fun k hk => by
        have : l.any (Nat.beq q) = true := by rw [List.any_eq_true]; exact ⟨q, List.mem_of_getElem? hk, Nat.beq_refl q⟩
        rw [this] at hb; cases hb
      cases i with
      | zero =>
        simp at h1; subst h1
        cases j with
        | zero => rfl
        | succ j => simp at h2; exact absurd h2 (hne j)
      | succ i =>
        simp at h1
        cases j with
        | zero => simp at h2; subst h2; exact absurd h1 (hne i)
        | succ j => simp at h2; rw [nodup_get hn i j r h1 h2]

/-- A run of a call of cold things is an answer for good. -/
theorem deep_of_run {E : Env} (ok : E.Ok) (cok : E.Coded) {n0 : Nat} (hg : ∀ g, E.glob g = true → g < n0) {n : Nat} {fl : List (List Bool)} {f : FuncId} {ds : List Value} {v : Value} {rows : List (Nat × List Value)}
    (h : deepRun E n n0 fl f ds = some (v, rows)) (hz : ∀ b, E.fz b = none := by intro _; rfl) : DeepOk E.P f ds v rows := by
  intro fz w args' hfz hds
  unfold deepRun at h
  cases hr : run E n f ds (St.empty n0) with
  | none => rw [hr] at h; cases h
  | some p =>
    obtain ⟨v0, s⟩ := p
    rw [hr] at h
    simp only at h
    unfold packed at h
    cases hp : packM fl v0 s with
    | none => rw [hp] at h; cases h
    | some q =>
      obtain ⟨⟨u, rs⟩, s'⟩ := q
      simp only [hp, Option.bind_eq_some_iff, Option.map_eq_some_iff, guardO_some, Bool.and_eq_true] at h
      obtain ⟨rows', hrows, _, ⟨hnd, hcr⟩, x, hsh, hx⟩ := h
      injection hx with e1 e2; subst e1; subst e2
      let μ0 : Mu := ⟨(globMu n0 E.sy).at_, fz, E.sy⟩
      have hs : SRel w.heap.size μ0 (St.empty n0).rows.get w :=
        { ge := Nat.le_refl _
          dom := fun r x L h _ => by unfold St.empty at h; rw [D.get_leaf] at h; cases h
          row := fun r x h => by unfold St.empty at h; rw [D.get_leaf] at h; cases h
          apart := fun r q x y L K _ h => by unfold St.empty at h; rw [D.get_leaf] at h; cases h
          cold := hfz
          hot := fun r x L h => by unfold St.empty at h; rw [D.get_leaf] at h; cases h
          old := fun r x L h => by unfold St.empty at h; rw [D.get_leaf] at h; cases h }
      have hv : VRels μ0 ds args'.toList := (show Colds μ0.fz ds args'.toList from hds).rel
      refine Calls.mono (run_sound ok cok hr hv hs ⟨fun g h => ⟨0, 0, 0, globMu_at (sy := E.sy) (hg g h)⟩, rfl, fun b o h => by rw [hz] at h; cases h⟩ fun r h _ => globMu_none (sy := E.sy) (by have h' : n0 ≤ r := h; omega)) ?_
      rintro e w' ⟨v', μ1, rfl, hv', hs1, hgr⟩
      obtain ⟨μ2, a2, ⟨b2, z2⟩, c2, d2, e2⟩ := packM_ok fl v0 u rs s s' μ1 w' v' hp hv' hs1
      obtain ⟨hlen, hget⟩ := optL_some hrows
      let μ3 : Mu := ⟨fun k => (rs[k]?).bind fun r => μ2 r, μ2.fz, μ2.sy⟩
      have hrow : ∀ (k : Nat) (y : Nat × List Value), rows'[k]? = some y → ∃ r, rs[k]? = some r ∧ s'.rows.get r = some (.cells false y.1 y.2) := by
        intro k y hy
        have hk : k < rs.length := by
          rcases Nat.lt_or_ge k rows'.length with h | h
          · omega
          · rw [List.getElem?_eq_none h] at hy; cases hy
        obtain ⟨b, hb, hb2⟩ := hget k _ (List.getElem?_eq_getElem hk)
        rw [hy] at hb; injection hb with hb; subst hb
        rw [Option.bind_eq_some_iff] at hb2
        obtain ⟨x, hx1, hx2⟩ := hb2
        rw [ownR_some] at hx2
        exact ⟨_, List.getElem?_eq_getElem hk, by rw [hx1, hx2]⟩
      have hat : ∀ (k r : Nat), rs[k]? = some r → μ3 k = μ2 r := fun k r h => by show (rs[k]?).bind _ = _; rw [h]; rfl
      refine ⟨v', μ3, rfl, ⟨fun b o hb => b2.fz b o (hgr.le.fz b o hb), fun b h1 h2 => ?_, hgr.below, ?_, ?_, fun k L hk => ?_⟩⟩
      · cases hz : μ1.fz b with
        | none => exact z2 b hz h2
        | some o => exact hgr.fzn b h1 (by rw [hz]; simp)
      · exact shift_ok (μ := μ2) (μ2 := μ3) (fun r q L h1 h2 => by rw [hat q r (indexIn_some h1)]; exact h2) rfl 3 u _ v' hsh e2
      · refine ⟨Nat.le_trans c2.ge (Nat.le_refl _), fun k x L hk e => ?_, fun k x hk => ?_, fun k q x y K1 K2 hne hk hq e1 e2 hf => ?_, c2.cold, fun k x K hk hf e => ?_, fun k x K hk e => ?_⟩
        all_goals (rw [Option.map_eq_some_iff] at hk; obtain ⟨y1, hy1, rfl⟩ := hk; obtain ⟨r1, hr1, hR1⟩ := hrow k y1 hy1)
        · rw [hat k r1 hr1] at e; exact c2.dom r1 _ L hR1 e
        · obtain ⟨K, hK, k1, k2, k3⟩ := c2.row r1 _ hR1
          refine ⟨K, by rw [hat k r1 hr1]; exact hK, fun i u hu => ?_, k2, k3⟩
          obtain ⟨u', g1, g2⟩ := k1 i u hu
          have := g2.ofColdB (coldsB_get (coldRows_get hcr _ _ hy1) i u hu)
          exact ⟨u', g1, (show Cold μ3.fz u u' from this).rel⟩
        · rw [Option.map_eq_some_iff] at hq
          obtain ⟨y2, hy2, rfl⟩ := hq
          obtain ⟨r2, hr2, hR2⟩ := hrow q y2 hy2
          rw [hat k r1 hr1] at e1; rw [hat q r2 hr2] at e2
          exact c2.apart r1 r2 _ _ K1 K2 (fun e => by subst e; exact hne (nodup_get hnd _ _ _ hr1 hr2)) hR1 hR2 e1 e2 rfl
        · rw [hat k r1 hr1] at e; exact c2.hot r1 _ K hR1 rfl e
        · rw [hat k r1 hr1] at e; exact c2.old r1 _ K hR1 e
      · have hk' : (rs[k]?).bind (fun r => μ2 r) = some L := hk
        rw [Option.bind_eq_some_iff] at hk'
        obtain ⟨r, hr', _⟩ := hk'
        rcases Nat.lt_or_ge k rs.length with h | h
        · omega
        · rw [List.getElem?_eq_none h] at hr'; cases hr'
end
end Go.Cm
