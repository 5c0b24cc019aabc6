/-
  What code does, from a frame and a state of which only some is known: rules.
-/
import Derived.Test.YtfofdglgacfklaaGreatDoorCmZ
namespace Go.Cm
open Go Go.RowKit

/-- A frame and a state, and what they are to the model. -/
structure Rel (E : Env) (base : Nat) (μ : Mu) (fr : Fr) (s : St) (a : Act) (w : World) : Prop where
  fr : FRel μ fr a.tmps
  st : SRel base μ s.rows.get w
  gl : Globs E μ
  nx : ∀ r, s.next ≤ r → μ r = none

/-- What became of names and of the world: below 'lo' nothing was named anew. -/
structure Went (base lo : Nat) (μ μ' : Mu) (w w' : World) : Prop where
  at_ : ∀ r, r < lo → μ' r = μ r
  fz : ∀ b o, μ.fz b = some o → μ'.fz b = some o
  fzn : ∀ b, μ.fz b = none → μ'.fz b ≠ none → base ≤ b
  below : Below base w w'

theorem Went.refl (base lo : Nat) (μ : Mu) (w : World) : Went base lo μ μ w w := ⟨fun _ _ => rfl, fun _ _ h => h, fun _ a b => absurd a b, Below.refl _ _⟩
theorem Went.trans {base lo : Nat} {μ1 μ2 μ3 : Mu} {w1 w2 w3 : World} (h : Went base lo μ1 μ2 w1 w2) (k : Went base lo μ2 μ3 w2 w3) : Went base lo μ1 μ3 w1 w3 :=
  ⟨fun r hr => (k.at_ r hr).trans (h.at_ r hr), fun b o e => k.fz b o (h.fz b o e), fun b a c => by
    cases e : μ2.fz b with
    | none => exact k.fzn b e c
    | some o => exact h.fzn b a (by rw [e]; simp), h.below.trans k.below⟩
theorem Went.of_grew {base lo n n' : Nat} {μ μ' : Mu} {w w' : World} (h : Grew base μ μ' n n' w w') (hl : lo ≤ n) : Went base lo μ μ' w w' :=
  ⟨fun r hr => by
    cases e : μ.at_ r with
    | some L => exact h.le.at_ r L e
    | none =>
      cases e' : μ'.at_ r with
      | none => rfl
      | some L => have := h.new r e (by rw [e']; simp); omega, h.le.fz, h.fzn, h.below⟩

abbrev Post := X → Fr → St → Prop

/-- From a frame and a state on, code ends as Q says. -/
def Wp (E : Env) (lo : Nat) (c : Code) (fr : Fr) (s : St) (Q : Post) : Prop :=
  lo ≤ s.next → ∀ (base : Nat) (μ : Mu) (a : Act) (w : World) (K : Exit → Act → World → Prop), Rel E base μ fr s a w →
    (∀ x fr' s' μ' a' w' e, Q x fr' s' → lo ≤ s'.next → XRel x e → Rel E base μ' fr' s' a' w' → a'.defers = a.defers → Went base lo μ μ' w w' → K e a' w') → c.wp E.P K a w

/-- A frame and a state of which less is known, or with other names. -/
def Weak (E : Env) (lo : Nat) (fr : Fr) (s : St) (fr' : Fr) (s' : St) : Prop :=
  lo ≤ s.next → lo ≤ s'.next ∧ ∀ (base : Nat) (μ : Mu) (a : Act) (w : World), Rel E base μ fr s a w → ∃ μ', Rel E base μ' fr' s' a w ∧ Went base lo μ μ' w w

section
variable {E : Env} {lo : Nat} {fr : Fr} {s : St} {Q : Post}

theorem Wp.post {c : Code} {Q' : Post} (h : Wp E lo c fr s Q) (hq : ∀ x fr s, Q x fr s → Q' x fr s) : Wp E lo c fr s Q' :=
  fun hl base μ a w K hr hK => h hl base μ a w K hr fun x fr' s' μ' a' w' e q => hK x fr' s' μ' a' w' e (hq _ _ _ q)
theorem Wp.pre {c : Code} {fr' : Fr} {s' : St} (hw : Weak E lo fr s fr' s') (h : Wp E lo c fr' s' Q) : Wp E lo c fr s Q := by
  intro hl base μ a w K hr hK
  obtain ⟨hl', hw'⟩ := hw hl
  obtain ⟨μ1, hr1, hg1⟩ := hw' base μ a w hr
  exact h hl' base μ1 a w K hr1 fun x fr2 s2 μ2 a2 w2 e q l2 hx hr2 hd hg2 => hK x fr2 s2 μ2 a2 w2 e q l2 hx hr2 hd (hg1.trans hg2)
theorem Wp.weak {c : Code} {Q' : Post} (h : Wp E lo c fr s Q) (hq : ∀ x fr s, Q x fr s → ∃ fr' s', Weak E lo fr s fr' s' ∧ Q' x fr' s') : Wp E lo c fr s Q' := by
  intro hl base μ a w K hr hK
  refine h hl base μ a w K hr fun x fr2 s2 μ2 a2 w2 e q l2 hx hr2 hd hg2 => ?_
  obtain ⟨fr3, s3, hw, q3⟩ := hq _ _ _ q
  obtain ⟨l3, hw'⟩ := hw l2
  obtain ⟨μ3, hr3, hg3⟩ := hw' base μ2 a2 w2 hr2
  exact hK x fr3 s3 μ3 a2 w2 e q3 l3 hx hr3 hd (hg2.trans hg3)

theorem Wp.skip (h : Q .normal fr s) : Wp E lo .skip fr s Q := fun hl _ μ a w _ hr hK => wp_skip (hK .normal fr s μ a w .normal h hl trivial hr rfl (Went.refl _ _ _ _))
theorem Wp.label {l : Nat} (h : Q .normal fr s) : Wp E lo (.label l) fr s Q := fun hl _ μ a w _ hr hK => wp_label (hK .normal fr s μ a w .normal h hl trivial hr rfl (Went.refl _ _ _ _))
theorem Wp.ret (h : Q .ret fr s) : Wp E lo .ret fr s Q := fun hl _ μ a w _ hr hK => wp_ret (hK .ret fr s μ a w .ret h hl trivial hr rfl (Went.refl _ _ _ _))
theorem Wp.exit {id : Nat} (h : Q (.exit id) fr s) : Wp E lo (.exit id) fr s Q := fun hl _ μ a w _ hr hK => wp_exit (hK (.exit id) fr s μ a w (.exit id) h hl rfl hr rfl (Went.refl _ _ _ _))

/-- What comes behind a first part. -/
def andThen (E : Env) (lo : Nat) (c : Code) (Q : Post) : Post := fun x fr s => match x with | .normal => Wp E lo c fr s Q | x => Q x fr s
theorem Wp.seq {c1 c2 : Code} (h : Wp E lo c1 fr s (andThen E lo c2 Q)) : Wp E lo (.seq c1 c2) fr s Q := by
  intro hl base μ a w K hr hK
  refine wp_seq ?_
  refine h hl base μ a w _ hr fun x fr1 s1 μ1 a1 w1 e q l1 hx hr1 hd hg1 => ?_
  cases x with
  | normal =>
    cases e with
    | normal => exact q l1 base μ1 a1 w1 K hr1 fun x2 fr2 s2 μ2 a2 w2 e2 q2 l2 hx2 hr2 hd2 hg2 => hK x2 fr2 s2 μ2 a2 w2 e2 q2 l2 hx2 hr2 (hd2.trans hd) (hg1.trans hg2)
    | _ => exact hx.elim
  | exit k =>
    cases e with
    | exit k' => exact hK _ fr1 s1 μ1 a1 w1 _ q l1 hx hr1 hd hg1
    | _ => exact hx.elim
  | ret =>
    cases e with
    | ret => exact hK _ fr1 s1 μ1 a1 w1 _ q l1 hx hr1 hd hg1
    | _ => exact hx.elim

theorem Wp.cond {o : Operand} {c1 c2 : Code} {t : Bool} (ho : operOk E o = true) (ht : fr.eval o = .bool t) (h1 : t = true → Wp E lo c1 fr s Q) (h2 : t = false → Wp E lo c2 fr s Q) : Wp E lo (.cond o c1 c2) fr s Q := by
  intro hl base μ a w K hr hK
  have hrel : VRel μ (fr.eval o) (a.eval o) := eval_rel ho hr.gl fun t _ => hr.fr.get t
  rw [ht] at hrel
  have hb := hrel.ofBool
  cases t with
  | true => exact wp_cond_true hb (h1 rfl hl base μ a w K hr hK)
  | false => exact wp_cond_false hb (h2 rfl hl base μ a w K hr hK)

def endBlock (id : Nat) (Q : Post) : Post := fun x fr s => match x with | .exit k => (bif Nat.beq k id then Q .normal fr s else Q (.exit k) fr s) | x => Q x fr s
theorem Wp.block {id : Nat} {c : Code} (h : Wp E lo c fr s (endBlock id Q)) : Wp E lo (.block id c) fr s Q := by
  intro hl base μ a w K hr hK
  refine wp_block ?_
  refine h hl base μ a w _ hr fun x fr1 s1 μ1 a1 w1 e q l1 hx hr1 hd hg1 => ?_
  cases x with
  | normal =>
    cases e with
    | normal => exact hK .normal fr1 s1 μ1 a1 w1 .normal q l1 trivial hr1 hd hg1
    | _ => exact hx.elim
  | ret =>
    cases e with
    | ret => exact hK .ret fr1 s1 μ1 a1 w1 .ret q l1 trivial hr1 hd hg1
    | _ => exact hx.elim
  | exit k =>
    cases e with
    | exit k' =>
      have : k = k' := hx
      subst this
      show (if k = id then K .normal a1 w1 else K (.exit k) a1 w1)
      unfold endBlock at q
      simp only at q
      cases hk : Nat.beq k id with
      | true =>
        rw [hk, cond_true] at q
        rw [if_pos (Nat.eq_of_beq_eq_true hk)]
        exact hK .normal fr1 s1 μ1 a1 w1 .normal q l1 trivial hr1 hd hg1
      | false =>
        rw [hk, cond_false] at q
        rw [if_neg (by rintro rfl; rw [Nat.beq_refl] at hk; cases hk)]
        exact hK (.exit k) fr1 s1 μ1 a1 w1 (.exit k) q l1 rfl hr1 hd hg1
    | _ => exact hx.elim

theorem Wp.scope {c : Code} (h : Wp E lo c fr s Q) : Wp E lo (.scope c) fr s Q := by
  intro hl base μ a w K hr hK
  refine wp_scope_straight (h hl base μ a w _ hr fun x fr1 s1 μ1 a1 w1 e q l1 hx hr1 hd hg1 => ?_)
  cases e with
  | goto l => cases x <;> exact hx.elim
  | _ => exact hK x fr1 s1 μ1 a1 w1 _ q l1 hx hr1 hd hg1

/-- A region that draws no order. -/
theorem Wp.region (ok : E.Ok) (cok : E.Coded) {id n : Nat} {ops : Array Oper} {fr' : Fr} {s' : St} (hok : codeOk E (.region id ops false) = true)
    (h : evOps E (callF E (ev E n)) ops ops.toList fr s = some (fr', s')) (hq : Q .normal fr' s') : Wp E lo (.region id ops false) fr s Q := by
  intro hl base μ a w K hr hK
  have hcall := sim_callF ok cok (base := base) (sim_code ok cok n)
  unfold codeOk at hok
  rw [Bool.and_eq_true] at hok
  refine wp_region ?_
  have hall : ∀ o ∈ ops.toList, opOk E o = true := by have := hok.1; rw [List.all_eq_true] at this; exact this
  obtain ⟨_, _, rn⟩ := Loc.evOps E hcall.1 ops ops.toList fr s fr' s' h
  have hn := rn.next
  have := sim_ops ok hcall (Q := K) ops.toList 0 fr fr' a s s' μ w (by simp) h hall hr.fr hr.st hr.gl (fun r h1 _ => hr.nx r h1) fun μ' a' w' h1 h2 h3 h4 =>
    hK .normal fr' s' μ' a' w' .normal hq (by omega) trivial ⟨h1, h3, hr.gl.mono h4.le, fun r hr' => by
      cases e : μ'.at_ r with
      | none => rfl
      | some L => have := h4.new r (hr.nx r (by omega)) (by rw [e]; simp); omega⟩ h2 (Went.of_grew h4 hl)
  rw [Array.length_toList, ← List.range_eq_range'] at this
  exact this
/-- A region whose order is open. -/
theorem Wp.draw (ok : E.Ok) (cok : E.Coded) {id n : Nat} {ops : Array Oper} {fr' : Fr} {s' : St} (hok : codeOk E (.region id ops true) = true)
    (h : evDraw E (callF E (ev E n)) ops (Region.before ops) ops.toList 0 [] fr s = some (fr', s')) (hq : Q .normal fr' s') : Wp E lo (.region id ops true) fr s Q := by
  intro hl base μ a w K hr hK
  have hcall := sim_callF ok cok (base := base) (sim_code ok cok n)
  unfold codeOk at hok
  rw [Bool.and_eq_true, cond_true] at hok
  obtain ⟨_, _, rn⟩ := Loc.evDraw E hcall.1 ops (Region.before ops) ops.toList 0 [] fr s fr' s' h
  have hn := rn.next
  exact sim_draw ok hcall h hok.1 hok.2 hr.fr hr.st hr.gl (fun r h1 _ => hr.nx r h1) fun μ' a' w' h1 h2 h3 h4 =>
    hK .normal fr' s' μ' a' w' .normal hq (by omega) trivial ⟨h1, h3, hr.gl.mono h4.le, fun r hr' => by
      cases e : μ'.at_ r with
      | none => rfl
      | some L => have := h4.new r (hr.nx r (by omega)) (by rw [e]; simp); omega⟩ h2 (Went.of_grew h4 hl)

/-- A loop: what holds at its head, and a number that goes down. -/
def again (I : Nat → Fr → St → Prop) (m : Nat) (Q : Post) : Post := fun x fr s => match x with | .normal => ∃ k, k < m ∧ I k fr s | x => Q x fr s
theorem Wp.loop {c : Code} (I : Nat → Fr → St → Prop) {m : Nat} (h0 : I m fr s) (h : ∀ m fr s, I m fr s → Wp E lo c fr s (again I m Q)) : Wp E lo (.loop c) fr s Q := by
  intro hl base μ a w K hr hK
  have key : ∀ (n m : Nat) (fr : Fr) (s : St) (μ : Mu) (a : Act) (w : World) (K : Exit → Act → World → Prop), m < n → I m fr s → lo ≤ s.next → Rel E base μ fr s a w →
      (∀ x fr' s' μ' a' w' e, Q x fr' s' → lo ≤ s'.next → XRel x e → Rel E base μ' fr' s' a' w' → a'.defers = a.defers → Went base lo μ μ' w w' → K e a' w') → Code.rounds E.P c K n a w := by
    intro n
    induction n with
    | zero => intro m _ _ _ _ _ _ h; omega
    | succ n ih =>
      intro m fr s μ a w K hm hI hl hr hK
      rw [rounds_succ]
      refine h m fr s hI hl base μ a w _ hr fun x fr1 s1 μ1 a1 w1 e q l1 hx hr1 hd hg1 => ?_
      cases x with
      | normal =>
        cases e with
        | normal =>
          obtain ⟨k, hk, hI1⟩ := q
          exact ih k fr1 s1 μ1 a1 w1 K (by omega) hI1 l1 hr1 fun x2 fr2 s2 μ2 a2 w2 e2 q2 l2 hx2 hr2 hd2 hg2 => hK x2 fr2 s2 μ2 a2 w2 e2 q2 l2 hx2 hr2 (hd2.trans hd) (hg1.trans hg2)
        | _ => exact hx.elim
      | exit k =>
        cases e with
        | exit k' => exact hK _ fr1 s1 μ1 a1 w1 _ q l1 hx hr1 hd hg1
        | _ => exact hx.elim
      | ret =>
        cases e with
        | ret => exact hK _ fr1 s1 μ1 a1 w1 _ q l1 hx hr1 hd hg1
        | _ => exact hx.elim
  exact wp_loop_rounds (m + 1) (key (m + 1) m fr s μ a w K (Nat.lt_succ_self m) h0 hl hr hK)

/-- A function of cold things, by its code. -/
def returns (E : Env) (fn : Func) (fl : List (List Bool)) (v : Value) (rows : List (Nat × List Value)) : Post := fun x fr s =>
  match x with
  | .exit _ => False
  | _ => ∃ vs s2, resultsA E fr fn.results.toList s = some (vs, s2) ∧ packed fl (oneOf vs) s2 = some (v, rows)

theorem packed_ok {base : Nat} {fl : List (List Bool)} {v0 : Value} {v v' : Value} {rows : List (Nat × List Value)} {s : St} {μ1 : Mu} {w' : World} (h : packed fl v0 s = some (v, rows)) (hv' : VRel μ1 v0 v') (hs1 : SRel base μ1 s.rows.get w') :
    ∃ μ3 : Mu, (∀ b o, μ1.fz b = some o → μ3.fz b = some o) ∧ (∀ b, μ1.fz b = none → μ3.fz b ≠ none → base ≤ b) ∧ VRel μ3 v v' ∧ SRel base μ3 (fun k => (rows[k]?).map fun r => .cells false r.1 r.2) w' ∧ ∀ k L, μ3 k = some L → k < rows.length := by
  unfold packed at h
  cases hp : packM fl v0 s with
  | none => rw [hp] at h; cases h
  | some q =>
    obtain ⟨⟨u, rs⟩, s'⟩ := q
    simp only [hp, Option.bind_eq_some_iff, Option.map_eq_some_iff, guardO_some, Bool.and_eq_true] at h
    obtain ⟨rows', hrows, _, ⟨hnd, hcr⟩, x, hsh, hx⟩ := h
    injection hx with e1 e2; subst e1; subst e2
    obtain ⟨μ2, a2, ⟨b2, z2⟩, c2, d2, e2⟩ := packM_ok fl v0 u rs s s' μ1 w' v' hp hv' hs1
    obtain ⟨hlen, hget⟩ := optL_some hrows
    let μ3 : Mu := ⟨fun k => (rs[k]?).bind fun r => μ2 r, μ2.fz, μ2.sy⟩
    have hrow : ∀ (k : Nat) (y : Nat × List Value), rows'[k]? = some y → ∃ r, rs[k]? = some r ∧ s'.rows.get r = some (.cells false y.1 y.2) := by
      intro k y hy
      have hk : k < rs.length := by
        rcases Nat.lt_or_ge k rows'.length with h | h
        · omega
        · rw [List.getElem?_eq_none h] at hy; cases hy
      obtain ⟨b, hb, hb2⟩ := hget k _ (List.getElem?_eq_getElem hk)
      rw [hy] at hb; injection hb with hb; subst hb
      rw [Option.bind_eq_some_iff] at hb2
      obtain ⟨x, hx1, hx2⟩ := hb2
      rw [ownR_some] at hx2
      exact ⟨_, List.getElem?_eq_getElem hk, by rw [hx1, hx2]⟩
    have hat : ∀ (k r : Nat), rs[k]? = some r → μ3 k = μ2 r := fun k r h => by show (rs[k]?).bind _ = _; rw [h]; rfl
    refine ⟨μ3, b2.fz, z2, ?_, ?_, fun k L hk => ?_⟩
    · exact shift_ok (μ := μ2) (μ2 := μ3) (fun r q L h1 h2 => by rw [hat q r (indexIn_some h1)]; exact h2) rfl 3 u _ v' hsh e2
    · refine ⟨c2.ge, fun k x L hk e => ?_, fun k x hk => ?_, fun k q x y K1 K2 hne hk hq e1 e2 hf => ?_, c2.cold, fun k x K hk hf e => ?_, fun k x K hk e => ?_⟩
      all_goals (rw [Option.map_eq_some_iff] at hk; obtain ⟨y1, hy1, rfl⟩ := hk; obtain ⟨r1, hr1, hR1⟩ := hrow k y1 hy1)
      · rw [hat k r1 hr1] at e; exact c2.dom r1 _ L hR1 e
      · obtain ⟨K, hK, k1, k2, k3⟩ := c2.row r1 _ hR1
        refine ⟨K, by rw [hat k r1 hr1]; exact hK, fun i u hu => ?_, k2, k3⟩
        obtain ⟨u', g1, g2⟩ := k1 i u hu
        have := g2.ofColdB (coldsB_get (coldRows_get hcr _ _ hy1) i u hu)
        exact ⟨u', g1, (show Cold μ3.fz u u' from this).rel⟩
      · rw [Option.map_eq_some_iff] at hq
        obtain ⟨y2, hy2, rfl⟩ := hq
        obtain ⟨r2, hr2, hR2⟩ := hrow q y2 hy2
        rw [hat k r1 hr1] at e1; rw [hat q r2 hr2] at e2
        exact c2.apart r1 r2 _ _ K1 K2 (fun e => by subst e; exact hne (nodup_get hnd _ _ _ hr1 hr2)) hR1 hR2 e1 e2 rfl
      · rw [hat k r1 hr1] at e; exact c2.hot r1 _ K hR1 rfl e
      · rw [hat k r1 hr1] at e; exact c2.old r1 _ K hR1 e
    · have hk' : (rs[k]?).bind (fun r => μ2 r) = some L := hk
      rw [Option.bind_eq_some_iff] at hk'
      obtain ⟨r, hr', _⟩ := hk'
      rcases Nat.lt_or_ge k rs.length with h | h
      · omega
      · rw [List.getElem?_eq_none h] at hr'; cases hr'

theorem deep_of_wp (ok : E.Ok) {n0 : Nat} (hg : ∀ g, E.glob g = true → g < n0) {f : FuncId} {fn : Func} {c : Code} (hf : E.P.funcs[f]? = some fn) (hb : fn.body = some c) {ds : List Value} (hle : Nat.ble (max fn.ntmps ds.length) 1024 = true)
    {fl : List (List Bool)} {v : Value} {rows : List (Nat × List Value)} (h : Wp E n0 c (Fr.init fn.ntmps ds) (St.empty n0) (returns E fn fl v rows)) (hz : ∀ b, E.fz b = none := by intro _; rfl) : DeepOk E.P f ds v rows := by
  intro fz w args' hfz hds
  let μ0 : Mu := ⟨(globMu n0 E.sy).at_, fz, E.sy⟩
  have hs : SRel w.heap.size μ0 (St.empty n0).rows.get w :=
    { ge := Nat.le_refl _
      dom := fun r x L h _ => by unfold St.empty at h; rw [D.get_leaf] at h; cases h
      row := fun r x h => by unfold St.empty at h; rw [D.get_leaf] at h; cases h
      apart := fun r q x y L K _ h => by unfold St.empty at h; rw [D.get_leaf] at h; cases h
      cold := hfz
      hot := fun r x L h => by unfold St.empty at h; rw [D.get_leaf] at h; cases h
      old := fun r x L h => by unfold St.empty at h; rw [D.get_leaf] at h; cases h }
  have hv : VRels μ0 ds args'.toList := (show Colds μ0.fz ds args'.toList from hds).rel
  refine calls_of_wp hf hb ?_
  refine h (Nat.le_refl n0) w.heap.size μ0 _ w _ ⟨init_rel hv (Nat.le_of_ble_eq_true hle), hs, ⟨fun g h => ⟨0, 0, 0, globMu_at (sy := E.sy) (hg g h)⟩, rfl, fun b o h => by rw [hz] at h; cases h⟩, fun r h => globMu_none (sy := E.sy) (by have h' : n0 ≤ r := h; omega)⟩ fun x fr' s' μ' a' w' e q l2 hx hr hd hgo => ?_
  have hfin : ∀ vs s2, resultsA E fr' fn.results.toList s' = some (vs, s2) → packed fl (oneOf vs) s2 = some (v, rows) →
      ∃ v', (results fn a'.tmps).run E.P w' = .ok v' w' ∧ ∃ v'' μ3, (Ending.returned v' : Ending) = .returned v'' ∧ DeepRes fz w w' μ3 v v'' rows := by
    intro vs s2 h1 h2
    obtain ⟨e1, e2, v', hv', hrun⟩ := sim_res ok hr.fr h1 hr.st
    obtain ⟨μ3, p1, p2, p3, p4, p5⟩ := packed_ok h2 hv' (show SRel w.heap.size μ' s2.rows.get w' by rw [e1]; exact hr.st)
    exact ⟨v', hrun, v', μ3, rfl, ⟨fun b o hb => p1 b o (hgo.fz b o hb), fun b h1 h2 => by
      cases hz : μ'.fz b with
      | none => exact p2 b hz h2
      | some o => exact hgo.fzn b h1 (by rw [hz]; simp), hgo.below, p3, p4, p5⟩⟩
  cases x with
  | exit k => exact q.elim
  | normal =>
    obtain ⟨vs, s2, h1, h2⟩ := q
    obtain ⟨v', hrun, v'', μ3, he, hres⟩ := hfin vs s2 h1 h2
    cases e <;> first | exact hx.elim | exact ⟨hd, v', hrun, v'', μ3, he, hres⟩
  | ret =>
    obtain ⟨vs, s2, h1, h2⟩ := q
    obtain ⟨v', hrun, v'', μ3, he, hres⟩ := hfin vs s2 h1 h2
    cases e <;> first | exact hx.elim | exact ⟨hd, v', hrun, v'', μ3, he, hres⟩
end
end Go.Cm
