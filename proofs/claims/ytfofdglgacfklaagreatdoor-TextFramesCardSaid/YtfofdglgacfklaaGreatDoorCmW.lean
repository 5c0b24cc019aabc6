/-
  The code of a function; a call; and what a run shows.
-/
import Derived.Test.YtfofdglgacfklaaGreatDoorCmWa
import Derived.Test.YtfofdglgacfklaaGreatDoorCmSk
import Derived.LoopN
namespace Go.Cm
open Go Go.RowKit

/-- What of the functions is asked before they run. -/
def Env.Coded (E : Env) : Prop := ∀ f fn c, E.fn f = some fn → fn.body = some c → codeOk E c = true

def XRel : X → Exit → Prop
  | .normal, .normal => True
  | .exit k, .exit k' => k = k'
  | .ret, .ret => True
  | _, _ => False

section
variable {E : Env} (ok : E.Ok) (cok : E.Coded) {base : Nat}

include ok in
theorem sim_draw {call : FuncId → List Value → M Value} (hcall : CallSim E base call) {ops : Array Oper} {id : Nat} {Q : Exit → Act → World → Prop} {fr fr' : Fr} {s s' : St} {a : Act} {w : World} {μ : Mu}
    (h : evDraw E call ops (Region.before ops) ops.toList 0 [] fr s = some (fr', s')) (h1 : ops.toList.all (opOk E) = true) (h2 : orderOk ops (Region.before ops) ops.toList 0 = true)
    (hfr : FRel μ fr a.tmps) (hs : SRel base μ s.rows.get w) (hgl : Globs E μ) (hf : ∀ r, s.next ≤ r → r < s'.next → μ r = none)
    (hQ : ∀ μ' a' w', FRel μ' fr' a'.tmps → a'.defers = a.defers → SRel base μ' s'.rows.get w' → Grew base μ μ' s.next s'.next w w' → Q .normal a' w') :
    (Code.region id ops true).wp E.P Q a w := by
  obtain ⟨F, R, N, L, W, ⟨f1, f2, f3⟩, ⟨e1, e2, e3⟩, hall⟩ := trace hcall.1 ops.toList 0 [] fr fr' s s' h
  simp only [Nat.zero_add, Array.length_toList] at e1 e2 e3 hall
  have hall' : ∀ (i : Nat) (o : Oper), ops[i]? = some o → _ := fun i o ho => hall i o (by simpa using ho)
  have hst := orderOk_spec ops.toList 0 h2
  simp only [Nat.zero_add] at hst
  have hst' : ∀ (j : Nat) (o : Oper), ops[j]? = some o → _ := fun j o ho => hst j o (by simpa using ho)
  have hbw : Below w.heap.size w { w with drawn := w.drawn + 1 } := ⟨rfl, rfl, rfl, Nat.le_refl _, fun _ _ => rfl⟩
  have hs2 : SRel base μ s.rows.get { w with drawn := w.drawn + 1 } := hs.grow hbw
  have hnF : ∀ i, i ≤ ops.size → (F i).n = fr.n := by
    intro i
    induction i with
    | zero => intro _; rw [f1]
    | succ i ih =>
      intro hi
      obtain ⟨v, hd | ⟨t, _, _, hd⟩⟩ := (hall' i _ (Array.getElem?_eq_getElem (by omega : i < ops.size))).1.dst
      · rw [hd.2]; exact ih (by omega)
      · rw [hd]; exact ih (by omega)
  refine wp_region_any ok.mixed ?_
  refine draw_any ok hcall (F := F) (R := R) (N := N) (L := L) (W := W) (n0 := fr.n) (μ0 := μ) (w0 := w) (ds := a.defers) (base := base)
    (fun i o ho => (hall' i o ho).1) (fun j i hj hi hc => (hall' i _ (Array.getElem?_eq_getElem hi)).2.2 j hj hc)
    (fun j i oj oi hj hoj hoi => (hst' i oi hoi).1 j oj hoj hj) (fun i o e ho he hb => (hst' i o ho).2 e he hb)
    (fun i o ho => by rw [List.all_eq_true] at h1; exact h1 o (Array.mem_toList_iff.2 (Array.mem_of_getElem? ho))) hnF hfr.le (by rw [f3, e3]; exact hf) hgl ?_ ops.size _ a _ μ s ?_ (Nat.le_trans List.countP_le_length (by simp))
  · intro μ' a' w' g1 g2 g3 g4
    rw [e1] at g1; rw [e2] at g3; rw [f3, e3] at g4
    exact hQ μ' a' w' g1 g2 g3 g4
  · have hoff : ∀ j, ¬ isOn (Array.replicate ops.size false) j := by
      intro j hj
      unfold isOn at hj
      simp only [Array.getD_eq_getD_getElem?, Array.getElem?_replicate] at hj
      split at hj <;> simp at hj
    refine ⟨by simp, fun j o hj => absurd hj (hoff j), fun r => ⟨fun _ => (by show s.rows.get r = R 0 r; rw [f2]), fun j hj => absurd hj (hoff j)⟩, fun t => ⟨fun _ => (by show VRel μ ((F 0).get t) _; rw [f1]; exact hfr.get t), fun j hj => absurd hj (hoff j)⟩,
      hfr.n.symm, hs2, fun r hr => Or.inl hr, Mu.le_refl _, fun _ a b => absurd a b, ?_, rfl⟩
    exact hbw.mono hs.ge

def resSem (tmps : Array Value) : ResultVar → Sem Value
  | .tmp t => pure (tmps.getD t undef)
  | .cell a t => do loadVar t (← asAddr (tmps.getD a undef))

include ok in
theorem sim_results {fr : Fr} {μ : Mu} {w : World} {tmps : Array Value} (hfr : FRel μ fr tmps) : ∀ (l : List ResultVar) (vs : List Value) (s s' : St), resultsA E fr l s = some (vs, s') → SRel base μ s.rows.get w →
    s'.rows = s.rows ∧ s'.next = s.next ∧ ∃ vs', VRels μ vs vs' ∧ (l.mapM (resSem tmps)).run E.P w = .ok vs' w
  | [], vs, s, s', h, hs => by
    unfold resultsA at h
    rw [pure_some] at h
    obtain ⟨rfl, rfl⟩ := h
    exact ⟨rfl, rfl, [], .nil, rfl⟩
  | r :: l, vs, s, s', h, hs => by
    unfold resultsA at h
    rw [bind_some] at h
    obtain ⟨v, s1, h1, h2⟩ := h
    rw [bind_some] at h2
    obtain ⟨us, s2, h2, h3⟩ := h2
    rw [pure_some] at h3
    obtain ⟨rfl, rfl⟩ := h3
    have hone : s1.rows = s.rows ∧ s1.next = s.next ∧ ∃ v', VRel μ v v' ∧ (resSem tmps r).run E.P w = .ok v' w := by
      cases r with
      | tmp t =>
        simp only [resA, pure_some] at h1
        obtain ⟨rfl, rfl⟩ := h1
        exact ⟨rfl, rfl, _, hfr.get t, rfl⟩
      | cell a t =>
        simp only [resA] at h1
        obtain ⟨ad, v', he, hr, hv, e1, e2⟩ := load_var ok h1 (hfr.get a) hs
        refine ⟨e1, e2, v', hv, ?_⟩
        simp only [resSem, Sem.run_bind, he, asAddr, Sem.run_pure, Result.andThen_ok]
        exact hr
    obtain ⟨e1, e2, v', hv, hr⟩ := hone
    obtain ⟨g1, g2, vs', hvs, hrs⟩ := sim_results hfr l us s1 s' h2 (by rw [e1]; exact hs)
    refine ⟨g1.trans e1, g2.trans e2, v' :: vs', .cons _ _ _ _ hv hvs, ?_⟩
    simp only [List.mapM_cons, Sem.run_bind, hr, Result.andThen_ok, hrs, Sem.run_pure]

theorem one_rel {μ : Mu} {vs vs' : List Value} (h : VRels μ vs vs') : VRel μ (oneOf vs) (if h : vs'.toArray.size = 1 then vs'.toArray[0] else .tuple vs'.toArray) := by
  cases h with
  | nil => exact .plain _ rfl
  | cons v v' l l' h1 h2 =>
    cases h2 with
    | nil => exact h1
    | cons v2 v2' l2 l2' h3 h4 => simpa [oneOf] using VRel.tuple ⟨v :: v2 :: l2⟩ ⟨v' :: v2' :: l2'⟩ (.cons _ _ _ _ h1 (.cons _ _ _ _ h3 h4))

include ok in
theorem sim_res {fr : Fr} {μ : Mu} {w : World} {tmps : Array Value} {fn : Func} (hfr : FRel μ fr tmps) {vs : List Value} {s s' : St} (h : resultsA E fr fn.results.toList s = some (vs, s')) (hs : SRel base μ s.rows.get w) :
    s'.rows = s.rows ∧ s'.next = s.next ∧ ∃ v', VRel μ (oneOf vs) v' ∧ (results fn tmps).run E.P w = .ok v' w := by
  obtain ⟨e1, e2, vs', hv, hr⟩ := sim_results ok hfr _ vs s s' h hs
  refine ⟨e1, e2, _, one_rel hv, ?_⟩
  have he : results fn tmps = (do let vs ← fn.results.mapM (resSem tmps); pure (if h : vs.size = 1 then vs[0] else .tuple vs)) := rfl
  rw [he, Array.mapM_eq_mapM_toList]
  simp only [map_eq_pure_bind, bind_assoc, pure_bind, Sem.run_bind, hr, Result.andThen_ok, Sem.run_pure]

/-! ### The code -/
def CodeSim (E : Env) (base : Nat) (n : Nat) : Prop :=
  ∀ (c : Code) (fr fr' : Fr) (x : X) (s s' : St) (μ : Mu) (a : Act) (w : World) (Q : Exit → Act → World → Prop), ev E n c fr s = some ((x, fr'), s') → codeOk E c = true → FRel μ fr a.tmps → SRel base μ s.rows.get w → Globs E μ →
    (∀ r, s.next ≤ r → r < s'.next → μ r = none) →
    (∀ μ' a' w' e, XRel x e → FRel μ' fr' a'.tmps → a'.defers = a.defers → SRel base μ' s'.rows.get w' → Grew base μ μ' s.next s'.next w w' → Q e a' w') → c.wp E.P Q a w

theorem fill_get : ∀ (l : List Value) (k : Nat) (t : FT 5), k + l.length ≤ 1024 → ∀ i, i < 1024 → FT.get 5 (Fr.fill l k t) i = if i < k then FT.get 5 t i else (l[i - k]?).getD (FT.get 5 t i)
  | [], k, t, _, i, _ => by unfold Fr.fill; simp
  | v :: l, k, t, h, i, hi => by
    rw [Fr.fill_cons]
    simp only [List.length_cons] at h
    rw [fill_get l (k + 1) _ (by omega) i hi, FT.get_put 5 t k i v (by show k < 1024; omega) (by show i < 1024; omega)]
    rcases Nat.lt_trichotomy i k with h1 | h1 | h1
    · rw [if_pos (by omega), if_neg (by omega), if_pos h1]
    · subst h1; simp
    · rw [if_neg (by omega), if_neg (by omega), if_neg (by omega)]
      rw [show i - k = i - (k + 1) + 1 by omega, List.getElem?_cons_succ]

theorem init_rel {μ : Mu} {n : Nat} {args : List Value} {args' : Array Value} (h : VRels μ args args'.toList) (hn : max n args.length ≤ 1024) :
    FRel μ (Fr.init n args) (args' ++ Array.replicate (n - args'.size) undef) := by
  have hl : args'.size = args.length := by have := h.length; simpa using this
  refine ⟨?_, hn, fun t ht => ?_⟩
  · simp only [Fr.init, Array.size_append, Array.size_replicate, hl]; omega
  · have ht' : t < max n args.length := ht
    show VRel μ (FT.get 5 (Fr.fill args 0 (FT.all undef 5)) t) _
    rw [fill_get args 0 _ (by omega) t (by omega), if_neg (by omega), Nat.sub_zero, FT.get_all]
    rcases Nat.lt_or_ge t args.length with h1 | h1
    · obtain ⟨v', hv, hr⟩ := h.get t _ (List.getElem?_eq_getElem h1)
      rw [List.getElem?_eq_getElem h1]
      rw [Array.getElem?_toList] at hv
      simp only [Array.getD_eq_getD_getElem?, Array.getElem?_append_left (by omega : t < args'.size), hv, Option.getD_some]
      exact hr
    · rw [List.getElem?_eq_none h1]
      simp only [Array.getD_eq_getD_getElem?, Array.getElem?_append_right (by omega : args'.size ≤ t), Array.getElem?_replicate, Option.getD_none]
      split <;> exact .plain _ rfl

include ok cok in
theorem sim_callF {n : Nat} (hev : CodeSim E base n) : CallSim E base (callF E (ev E n)) := by
  refine ⟨fun f args => Loc.callF E (Loc.ev E n) f args, fun f args v s s' μ w args' h hv hs hgl hf => ?_⟩
  unfold callF at h
  cases hdk : E.dk f with
  | some F =>
    rw [hdk] at h
    exact known_ok ok hdk h hv hs hf
  | none =>
  rw [hdk] at h
  simp only at h
  cases hsk : E.sk f with
  | some g =>
    rw [hsk] at h
    exact sorted_ok (ok.sk f g hsk) h hv hs hf
  | none =>
  rw [hsk] at h
  simp only at h
  cases hpk : E.pk f with
  | some p =>
    rw [hpk] at h
    exact peeks_ok (ok.pk f p hpk) hgl.2.1 h hv hs
  | none =>
  rw [hpk] at h
  simp only at h
  rw [M.within_eq] at h
  split at h
  · rename_i v1 s1 h1
    injection h with h; injection h with e1 e2; subst e1; subst e2
    cases hfn : E.fn f with
    | none => rw [hfn] at h1; rw [fail_some] at h1; exact h1.elim
    | some fn =>
      simp only [hfn] at h1
      cases hb : fn.body with
      | none => rw [hb] at h1; rw [fail_some] at h1; exact h1.elim
      | some c =>
        simp only [hb] at h1
        cases hle : Nat.ble (max fn.ntmps args.length) 1024 with
        | false => rw [hle, cond_false, fail_some] at h1; exact h1.elim
        | true =>
          rw [hle, cond_true, bind_some] at h1
          obtain ⟨⟨x, fr'⟩, s2, h2, h3⟩ := h1
          have hfin : x ≠ .normal → x ≠ .ret → False := by
            intro n1 n2
            cases x with
            | normal => exact n1 rfl
            | ret => exact n2 rfl
            | exit k => simp only [fail_some] at h3
          have h4 : (M.bind (resultsA E fr' fn.results.toList) fun vs => M.pure (oneOf vs)) s2 = some (v1, s1) := by
            cases x with
            | normal => exact h3
            | ret => exact h3
            | exit k => simp only [fail_some] at h3
          rw [bind_some] at h4
          obtain ⟨vs, s3, h5, h6⟩ := h4
          rw [pure_some] at h6
          obtain ⟨rfl, rfl⟩ := h6
          obtain ⟨hP, _, _⟩ := ok.fn f fn hfn
          have hnext : s2.next ≤ s1.next := by obtain ⟨_, _, r⟩ := Loc.resultsA E fr' _ s2 vs s1 h5; exact r.next
          refine calls_of_wp hP hb ?_
          refine hev c _ fr' x _ s2 μ _ w _ h2 (cok f fn c hfn hb) (init_rel hv (Nat.le_of_ble_eq_true hle)) hs hgl (fun r h1 h2 => hf r h1 (by show r < s1.next; omega)) fun μ' a' w' e hx hfr hd hs' hg => ?_
          obtain ⟨e1, e2, v', hv', hr⟩ := sim_res ok hfr h5 hs'
          have hg' : Grew base μ μ' s.next s1.next w w' := by rw [e2]; exact hg
          have hs3 : SRel base μ' s1.rows.get w' := by rw [e1]; exact hs'
          cases x with
          | normal => cases e <;> first | exact hx.elim | exact ⟨hd, v', hr, v', μ', rfl, hv', hs3, hg'⟩
          | ret => cases e <;> first | exact hx.elim | exact ⟨hd, v', hr, v', μ', rfl, hv', hs3, hg'⟩
          | exit k => exact (hfin (by simp) (by simp)).elim
  · cases h
end
end Go.Cm
