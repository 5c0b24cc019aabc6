/-
  A region that draws an order: the model's run of it, in any order. A region that draws an order: the induction. What is handed on becomes cold; a call of which is known beforehand what it answers.
-/
import Derived.Test.YtkcibhokjiciiaaMg
namespace Go.Cm
open Go Go.RowKit

def isOn (listed : Array Bool) (j : Nat) : Prop := listed.getD j false = true
def Wrote (m : Nat) (N : Nat → Nat) (W : Nat → List Nat) (r j : Nat) : Prop := j < m ∧ (r ∈ W j ∨ (N j ≤ r ∧ r < N (j + 1)))
def Put (ops : Array Oper) (t j : Nat) : Prop := ∃ o, ops[j]? = some o ∧ o.dst = some t

structure Mid (E : Env) (base : Nat) (ops : Array Oper) (F : Nat → Fr) (R : Nat → Nat → Option Row) (N : Nat → Nat) (W : Nat → List Nat) (n0 : Nat) (μ0 : Mu) (w0 : World) (ds : List Deferred)
    (listed : Array Bool) (a : Act) (w : World) (μ : Mu) (s : St) : Prop where
  size : listed.size = ops.size
  closed : ∀ j o, isOn listed j → ops[j]? = some o → ∀ e, e ∈ o.after → Region.binds .any e = true → isOn listed e.on
  rows : ∀ r, Last (isOn listed) (Wrote ops.size N W r) (fun i => R i r) (fun x => s.rows.get r = x)
  tmps : ∀ t, Last (isOn listed) (Put ops t) (fun i => (F i).get t) (fun v => VRel μ v (a.tmps.getD t undef))
  tsize : a.tmps.size = n0
  srel : SRel base μ s.rows.get w
  mu : ∀ r, μ r ≠ none → μ0 r ≠ none ∨ ∃ j, isOn listed j ∧ N j ≤ r ∧ r < N (j + 1)
  le : μ0.le μ
  fzn : ∀ b, μ0.fz b = none → μ.fz b ≠ none → base ≤ b
  below : Below base w0 w
  defers : a.defers = ds

theorem isOn_set {listed : Array Bool} {i j : Nat} (hi : i < listed.size) : isOn (listed.setIfInBounds i true) j ↔ (isOn listed j ∨ j = i) := by
  unfold isOn
  by_cases h : i = j
  · subst h; simp [hi]
  · rw [getD_set_ne false h]
    constructor
    · exact Or.inl
    · rintro (h1 | h1)
      · exact h1
      · exact absurd h1.symm h

theorem countP_listed {listed : Array Bool} {i : Nat} (hi : listed[i]? = some false) :
    (listed.setIfInBounds i true).toList.countP (fun b => !b) + 1 = listed.toList.countP (fun b => !b) := by
  have hlt : i < listed.size := (Array.getElem?_eq_some_iff.1 hi).1
  have hv : listed[i] = false := (Array.getElem?_eq_some_iff.1 hi).2
  have hl : i < listed.toList.length := by simpa using hlt
  have hv' : listed.toList[i] = false := by simpa using hv
  rw [Array.toList_setIfInBounds, List.countP_set hl, hv']
  have : 0 < listed.toList.countP (fun b => !b) := by
    rw [List.countP_pos_iff]
    exact ⟨false, by rw [← hv']; exact List.getElem_mem _, rfl⟩
  simp only [Bool.not_false, if_true, Bool.not_true, Bool.false_eq_true, if_false]
  omega

section
variable {E : Env} (ok : E.Ok) {base : Nat} {call : FuncId → List Value → M Value} (hcall : CallSim E base call) {ops : Array Oper} {Q : Exit → Act → World → Prop}
  {F : Nat → Fr} {R : Nat → Nat → Option Row} {N : Nat → Nat} {L W : Nat → List Nat} {n0 : Nat} {μ0 : Mu} {w0 : World} {ds : List Deferred}
  (hstep : ∀ (i : Nat) (o : Oper), ops[i]? = some o → Stp E call ops o (F i) (F (i + 1)) (R i) (R (i + 1)) (N i) (N (i + 1)) (L i) (W i))
  (hord : ∀ (j i : Nat), j < i → i < ops.size → clash (didOf (N j) (N (j + 1)) (L j) (W j)) (didOf (N i) (N (i + 1)) (L i) (W i)) = true → ordered (Region.before ops) j i = true)
  (hstat : ∀ (j i : Nat) (oj oi : Oper), j < i → ops[j]? = some oj → ops[i]? = some oi → ordered (Region.before ops) j i = true ∨ oj.apart ops oi = true)
  (haft : ∀ (i : Nat) (o : Oper) (e : Edge), ops[i]? = some o → e ∈ o.after → Region.binds .any e = true → e.on < i)
  (hok : ∀ (i : Nat) (o : Oper), ops[i]? = some o → opOk E o = true)
  (hn0 : ∀ i, i ≤ ops.size → (F i).n = n0) (hn : n0 ≤ 1024)
  (hf0 : ∀ r, N 0 ≤ r → r < N ops.size → μ0 r = none) (hgl : Globs E μ0)
  (hQ : ∀ μ' a' w', FRel μ' (F ops.size) a'.tmps → a'.defers = ds → SRel base μ' (R ops.size) w' → Grew base μ0 μ' (N 0) (N ops.size) w0 w' → Q .normal a' w')

include hstep in
theorem N_mono {i j : Nat} (h : i ≤ j) (hj : j ≤ ops.size) : N i ≤ N j := by
  induction j with
  | zero => have : i = 0 := by omega
            subst this; exact Nat.le_refl _
  | succ j ih =>
    rcases Nat.lt_or_ge j i with h1 | h1
    · have : i = j + 1 := by omega
      subst this; exact Nat.le_refl _
    · exact Nat.le_trans (ih h1 (by omega)) (hstep j _ (Array.getElem?_eq_getElem (by omega : j < ops.size))).mono

include hstep hord in
/-- Two that meet stand in an order. -/
theorem ord_of {j i r : Nat} (hji : j < i) (hi : i < ops.size) (h : (Wrote ops.size N W r j ∧ r ∈ L i) ∨ (r ∈ L j ∧ r ∈ W i)) : ordered (Region.before ops) j i = true := by
  have sj := hstep j _ (Array.getElem?_eq_getElem (by omega : j < ops.size))
  have si := hstep i _ (Array.getElem?_eq_getElem hi)
  have hm : N (j + 1) ≤ N i := N_mono hstep (by omega) (by omega)
  apply hord j i hji hi
  apply clash_of
  have made : N j ≤ r → r < N (j + 1) → r ∈ L i → ∃ x, x ∈ below (N i) (L i) ∧ N j ≤ x ∧ x < N (j + 1) := fun h1 h2 h3 =>
    ⟨r, (mem_below _ _ _).2 ⟨h3, by omega⟩, h1, h2⟩
  rcases h with ⟨⟨_, h1⟩, h2⟩ | ⟨h1, h2⟩
  · rcases h1 with h1 | h1
    · rcases Nat.lt_or_ge r (N j) with h3 | h3
      · have := sj.mono
        exact Or.inl ⟨r, (mem_below _ _ _).2 ⟨h1, h3⟩, (mem_below _ _ _).2 ⟨h2, by omega⟩⟩
      · exact Or.inr (Or.inr (made h3 (sj.lt r (sj.sub r h1)) h2))
    · exact Or.inr (Or.inr (made h1.1 h1.2 h2))
  · rcases Nat.lt_or_ge r (N j) with h3 | h3
    · have := sj.mono
      exact Or.inr (Or.inl ⟨r, (mem_below _ _ _).2 ⟨h2, by omega⟩, (mem_below _ _ _).2 ⟨h1, h3⟩⟩)
    · exact Or.inr (Or.inr (made h3 (sj.lt r h1) (si.sub r h2)))

theorem put_getD {a : Act} {d t : Nat} {v : Value} (hd : d < a.tmps.size) : (a.put (some d) v).tmps.getD t undef = if t = d then v else a.tmps.getD t undef := by
  show (a.tmps.setIfInBounds d v).getD t undef = _
  by_cases h : t = d
  · subst h; simp [Array.getD, hd]
  · rw [if_neg h]
    simp only [Array.getD, Array.size_setIfInBounds]
    split
    · rename_i hlt
      exact Array.getElem_setIfInBounds_ne hlt (Ne.symm h)
    · rfl

include ok hcall hstep hord hstat haft hok hn0 hn hf0 hgl hQ

omit ok hcall hord hstat hok hf0 hgl in
theorem draw_end {listed : Array Bool} {a : Act} {w : World} {μ : Mu} {s : St} (h : Mid E base ops F R N W n0 μ0 w0 ds listed a w μ s) (hr : Region.ready .any ops listed = []) : Q .normal a w := by
  have hall : ∀ n j, j < n → j < ops.size → isOn listed j := by
    intro n
    induction n with
    | zero => intro j h; omega
    | succ n ih =>
      intro j hj hlt
      have hoj := Array.getElem?_eq_getElem hlt
      cases hl : listed.getD j true with
      | true =>
        unfold isOn
        have : j < listed.size := by rw [h.size]; exact hlt
        simp [Array.getD, this] at hl ⊢; exact hl
      | false =>
        have : j ∈ Region.ready .any ops listed := by
          rw [mem_ready]
          exact ⟨hl, _, hoj, fun e he hb => ih e.on (by have := haft j _ e hoj he hb; omega) (by have := haft j _ e hoj he hb; omega)⟩
        rw [hr] at this; simp at this
  have honlt : ∀ j, isOn listed j → j < ops.size := by
    intro j hj
    rcases Nat.lt_or_ge j ops.size with h1 | h1
    · exact h1
    · unfold isOn at hj
      simp [Array.getD_eq_getD_getElem?, Array.getElem?_eq_none (by rw [h.size]; exact h1 : listed.size ≤ j)] at hj
  have hx : ∀ j, j < ops.size → (isOn listed j ↔ j < ops.size) := fun j hj => ⟨fun _ => hj, fun _ => hall (j + 1) j (by omega) hj⟩
  have hrows : s.rows.get = R ops.size := by
    funext r
    refine (h.rows r).at_ (m := ops.size) (Nat.le_refl _) (fun j hj hw => ?_) (fun j hj _ => hx j hj) honlt
    have sj := hstep j _ (Array.getElem?_eq_getElem hj)
    refine sj.same r (fun hh => hw ⟨hj, Or.inl hh⟩) ?_
    rcases Nat.lt_or_ge r (N j) with h1 | h1
    · exact Or.inl h1
    · rcases Nat.lt_or_ge r (N (j + 1)) with h2 | h2
      · exact absurd ⟨hj, Or.inr ⟨h1, h2⟩⟩ hw
      · exact Or.inr h2
  have hnn := hn0 ops.size (Nat.le_refl _)
  refine hQ μ a w ⟨by rw [hnn, h.tsize], by rw [hnn]; exact hn, fun t ht => ?_⟩ h.defers (by rw [← hrows]; exact h.srel) ⟨h.le, fun r h1 h2 => ?_, h.fzn, h.below⟩
  · have := (h.tmps t).at_ (m := ops.size) (Nat.le_refl _) (fun j hj hw => ?_) (fun j hj _ => hx j hj) honlt
    · rw [Fr.get_eq] at this
      rw [lt_blt0 ht] at this
      exact this
    · have hoj := Array.getElem?_eq_getElem hj
      have sj := hstep j _ hoj
      obtain ⟨v, hd | ⟨d, hd, hlt, he⟩⟩ := sj.dst
      · rw [hd.2]
      · have hne : t ≠ d := fun e => hw ⟨_, hoj, by rw [hd, e]⟩
        simp only [he]
        rw [Fr.get_put hlt (by rw [hn0 j (by omega)]; exact hn), if_neg hne]
  · rcases h.mu r h2 with h3 | ⟨j, hj, h3, h4⟩
    · exact absurd h1 h3
    · have hjl := honlt j hj
      have a1 : N 0 ≤ N j := N_mono hstep (by omega) (by omega)
      have a2 : N (j + 1) ≤ N ops.size := N_mono hstep (by omega) (by omega)
      omega
end
end Go.Cm
namespace Go.Cm
open Go Go.RowKit

section
variable {E : Env} (ok : E.Ok) {base : Nat} {call : FuncId → List Value → M Value} (hcall : CallSim E base call) {ops : Array Oper} {Q : Exit → Act → World → Prop}
  {F : Nat → Fr} {R : Nat → Nat → Option Row} {N : Nat → Nat} {L W : Nat → List Nat} {n0 : Nat} {μ0 : Mu} {w0 : World} {ds : List Deferred}
  (hstep : ∀ (i : Nat) (o : Oper), ops[i]? = some o → Stp E call ops o (F i) (F (i + 1)) (R i) (R (i + 1)) (N i) (N (i + 1)) (L i) (W i))
  (hord : ∀ (j i : Nat), j < i → i < ops.size → clash (didOf (N j) (N (j + 1)) (L j) (W j)) (didOf (N i) (N (i + 1)) (L i) (W i)) = true → ordered (Region.before ops) j i = true)
  (hstat : ∀ (j i : Nat) (oj oi : Oper), j < i → ops[j]? = some oj → ops[i]? = some oi → ordered (Region.before ops) j i = true ∨ oj.apart ops oi = true)
  (haft : ∀ (i : Nat) (o : Oper) (e : Edge), ops[i]? = some o → e ∈ o.after → Region.binds .any e = true → e.on < i)
  (hok : ∀ (i : Nat) (o : Oper), ops[i]? = some o → opOk E o = true)
  (hn0 : ∀ i, i ≤ ops.size → (F i).n = n0) (hn : n0 ≤ 1024)
  (hf0 : ∀ r, N 0 ≤ r → r < N ops.size → μ0 r = none) (hgl : Globs E μ0)
  (hQ : ∀ μ' a' w', FRel μ' (F ops.size) a'.tmps → a'.defers = ds → SRel base μ' (R ops.size) w' → Grew base μ0 μ' (N 0) (N ops.size) w0 w' → Q .normal a' w')


include ok hcall hstep hord hstat haft hok hn0 hn hf0 hgl hQ

theorem draw_any : ∀ (fuel : Nat) (listed : Array Bool) (a : Act) (w : World) (μ : Mu) (s : St), Mid E base ops F R N W n0 μ0 w0 ds listed a w μ s → listed.toList.countP (fun b => !b) ≤ fuel →
    wpAny E.P .any ops Q fuel listed a w
  | 0, listed, a, w, μ, s, h, hc => by
    have hr : Region.ready .any ops listed = [] := by
      rw [List.eq_nil_iff_forall_not_mem]
      intro i hi
      rw [mem_ready] at hi
      obtain ⟨hl, o, ho, _⟩ := hi
      have hlt : i < listed.size := by rw [h.size]; exact (Array.getElem?_eq_some_iff.1 ho).1
      have hv : listed[i]? = some false := by
        rw [Array.getElem?_eq_getElem hlt]
        simp [Array.getD, hlt] at hl
        rw [hl]
      have := countP_listed hv
      omega
    exact ⟨hr, draw_end hstep haft hn0 hn hQ h hr⟩
  | fuel + 1, listed, a, w, μ, s, h, hc => by
    refine ⟨fun hr => draw_end hstep haft hn0 hn hQ h hr, fun i hi => ?_⟩
    rw [mem_ready] at hi
    obtain ⟨hl, o, ho, hafter⟩ := hi
    have hio : i < ops.size := (Array.getElem?_eq_some_iff.1 ho).1
    have hlt : i < listed.size := by rw [h.size]; exact hio
    have hv0 : listed[i]? = some false := by
      rw [Array.getElem?_eq_getElem hlt]
      simp [Array.getD, hlt] at hl
      rw [hl]
    have hnot : ¬ isOn listed i := by unfold isOn; simp [Array.getD_eq_getD_getElem?, hv0]
    have honlt : ∀ j, isOn listed j → j < ops.size := by
      intro j hj
      rcases Nat.lt_or_ge j ops.size with h1 | h1
      · exact h1
      · unfold isOn at hj
        simp [Array.getD_eq_getD_getElem?, Array.getElem?_eq_none (by rw [h.size]; exact h1 : listed.size ≤ j)] at hj
    -- what stands before it was done; what was done does not stand behind it
    have hA : ∀ j, ordered (Region.before ops) j i = true → isOn listed j := by
      intro j hj
      obtain ⟨e, he, hb, he2⟩ := ordered_edge ho hj
      have hx : isOn listed e.on := hafter e he hb
      rcases he2 with rfl | ⟨_, h2⟩
      · exact hx
      · exact ordered_closed h.closed honlt _ e.on (Nat.lt_succ_self _) hx h2
    have hB : ∀ j, isOn listed j → ordered (Region.before ops) i j = true → False := fun j hj ho =>
      hnot (ordered_closed h.closed honlt _ j (Nat.lt_succ_self _) hj ho)
    have si := hstep i o ho
    have hNi := si.mono
    have jlt : ∀ j, j < i → N (j + 1) ≤ N i := fun j hj => N_mono hstep (by omega) (by omega)
    have jgt : ∀ j, i < j → j < ops.size → N (i + 1) ≤ N j := fun j hj hj' => N_mono hstep (by omega) (by omega)
    -- the rows that it looks at
    have hagree : ∀ r, r ∈ L i → r < N i → s.rows.get r = R i r := by
      intro r hr _
      refine (h.rows r).at_ (m := ops.size) (by omega) (fun j hj hw => ?_) (fun j hj hw => ?_) honlt
      · have sj := hstep j _ (Array.getElem?_eq_getElem hj)
        refine sj.same r (fun hh => hw ⟨hj, Or.inl hh⟩) ?_
        rcases Nat.lt_or_ge r (N j) with h1 | h1
        · exact Or.inl h1
        · rcases Nat.lt_or_ge r (N (j + 1)) with h2 | h2
          · exact absurd ⟨hj, Or.inr ⟨h1, h2⟩⟩ hw
          · exact Or.inr h2
      · constructor
        · intro hx
          rcases Nat.lt_trichotomy j i with h1 | h1 | h1
          · exact h1
          · subst h1; exact absurd hx hnot
          · exfalso
            rcases hw.2 with h2 | h2
            · exact hB j hx (ord_of hstep hord h1 hj (Or.inr ⟨hr, h2⟩))
            · have := si.lt r hr
              have := jgt j h1 hj
              omega
        · intro h1
          exact hA j (ord_of hstep hord h1 hio (Or.inl ⟨hw, hr⟩))
    -- the temporaries that it looks at
    have hlook : ∀ t, t ∈ o.looksAt ops → VRel μ ((F i).get t) (a.tmps.getD t undef) := by
      intro t ht
      refine (h.tmps t).at_ (m := ops.size) (by omega) (fun j hj hw => ?_) (fun j hj hw => ?_) honlt
      · have hoj := Array.getElem?_eq_getElem hj
        have sj := hstep j _ hoj
        obtain ⟨v, hd | ⟨d, hd, hlt, he⟩⟩ := sj.dst
        · show (F (j + 1)).get t = (F j).get t
          rw [hd.2]
        · have hne : t ≠ d := fun e => hw ⟨_, hoj, by rw [hd, e]⟩
          show (F (j + 1)).get t = (F j).get t
          rw [he, Fr.get_put hlt (by rw [hn0 j (by omega)]; exact hn), if_neg hne]
      · obtain ⟨oj, hoj, hdj⟩ := hw
        constructor
        · intro hx
          rcases Nat.lt_trichotomy j i with h1 | h1 | h1
          · exact h1
          · subst h1; exact absurd hx hnot
          · exfalso
            rcases hstat i j o oj h1 ho hoj with h2 | h2
            · exact hB j hx h2
            · exact (Oper.apart_spec h2).2.2 t hdj ht
        · intro h1
          rcases hstat j i oj o h1 hoj ho with h2 | h2
          · exact hA j h2
          · exact absurd ht ((Oper.apart_spec h2).1 t hdj)
    obtain ⟨s', hev, hn', hrows'⟩ := si.again { s with next := N i } rfl hagree
    have hmu : ∀ r, N i ≤ r → r < N (i + 1) → μ r = none := by
      intro r h1 h2
      rcases hμ : μ r with _ | K
      · rfl
      · exfalso
        rcases h.mu r (by rw [hμ]; simp) with h3 | ⟨j, hj, h3, h4⟩
        · have a1 : N 0 ≤ N i := N_mono hstep (by omega) (by omega)
          have a2 : N (i + 1) ≤ N ops.size := N_mono hstep (by omega) (by omega)
          exact h3 (hf0 r (by omega) (by omega))
        · have hjl := honlt j hj
          rcases Nat.lt_trichotomy j i with h5 | h5 | h5
          · have := jlt j h5; omega
          · subst h5; exact hnot hj
          · have := jgt j h5 hjl; omega
    refine sim_op ok hcall ho hev ?_ ?_ (s := { s with next := N i }) h.srel (hgl.mono h.le) (fun r h1 h2 => hmu r h1 (by rw [← hn']; exact h2)) fun v v' μ1 w1 hd hv hs1 hg1 => ?_
    · intro x hx
      have h1 := hok i o ho
      unfold opOk at h1
      rw [List.all_eq_true] at h1
      refine eval_rel (h1 x (by simpa using hx)) (hgl.mono h.le) fun t ht => hlook t ?_
      subst ht
      exact List.mem_append_left _ (List.mem_filterMap.2 ⟨.tmp t, by simpa using hx, rfl⟩)
    · refine wanted_same (μ := μ) (evOp_sure hev) fun j want g d hg hog hd => hlook d ?_
      unfold Oper.looksAt
      rw [hg]
      simp only [hog, Option.bind_some, hd]
      exact List.mem_append_right _ (by simp)
    · -- the next one
      have hle1 := hg1.le
      refine draw_any fuel (listed.setIfInBounds i true) (a.put o.dst v') w1 μ1 s' ?_ (by have := countP_listed hv0; omega)
      have hX : isOn (listed.setIfInBounds i true) = fun j => isOn listed j ∨ j = i := by
        funext j; exact propext (isOn_set hlt)
      refine ⟨by rw [Array.size_setIfInBounds]; exact h.size, ?_, ?_, ?_, ?_, hs1, ?_, Mu.le_trans h.le hle1, (fun b a c => by
        cases e : μ.fz b with
        | none => exact hg1.fzn b e c
        | some o => exact h.fzn b a (by rw [e]; simp)), h.below.trans hg1.below, by rw [put_defers]; exact h.defers⟩
      · intro j oj hj hoj e he hb
        rw [isOn_set hlt] at hj ⊢
        rcases hj with hj | rfl
        · exact Or.inl (h.closed j oj hj hoj e he hb)
        · rw [ho] at hoj; injection hoj with hoj; subst hoj
          exact Or.inl (hafter e he hb)
      · intro r
        rw [hX]
        refine (h.rows r).step ?_ ?_ ?_
        · intro hw
          rw [hrows' r, if_pos]
          rcases hw.2 with h1 | h1
          · exact ⟨Or.inl h1, si.lt r (si.sub r h1)⟩
          · exact ⟨Or.inr h1.1, h1.2⟩
        · intro hw x hx
          rw [hrows' r, if_neg]
          · exact hx
          · rintro ⟨h1 | h1, h2⟩
            · exact hw ⟨hio, Or.inl h1⟩
            · exact hw ⟨hio, Or.inr ⟨h1, h2⟩⟩
        · intro hw j hj hwj
          rcases Nat.lt_trichotomy j i with h1 | h1 | h1
          · exact h1
          · subst h1; exact absurd hj hnot
          · exfalso
            have hjl := honlt j hj
            have hwr : r < N (i + 1) := by
              rcases hw.2 with h2 | h2
              · exact si.lt r (si.sub r h2)
              · exact h2.2
            have hge := jgt j h1 hjl
            rcases hwj.2 with h2 | h2
            · have sj := hstep j _ (Array.getElem?_eq_getElem hjl)
              exact hB j hj (ord_of hstep hord h1 hjl (Or.inl ⟨hw, sj.sub r h2⟩))
            · omega
      · intro t
        rw [hX]
        have hni := hn0 i (by omega)
        refine (h.tmps t).step ?_ ?_ ?_
        · rintro ⟨o', ho', hdt⟩
          rw [ho] at ho'; injection ho' with ho'; subst ho'
          rcases hd with ⟨hd1, _⟩ | ⟨d, hd1, hd2, hd3⟩
          · rw [hdt] at hd1; cases hd1
          · rw [hdt] at hd1; injection hd1 with hd1; subst hd1
            show VRel μ1 ((F (i + 1)).get t) _
            rw [hd3, Fr.get_put hd2 (by rw [hni]; exact hn), if_pos rfl, hdt, put_getD (by rw [h.tsize, ← hni]; exact hd2), if_pos rfl]
            exact hv
        · intro hw x hx
          have : (a.put o.dst v').tmps.getD t undef = a.tmps.getD t undef := by
            rcases hd with ⟨hd1, _⟩ | ⟨d, hd1, hd2, hd3⟩
            · rw [hd1]; rfl
            · have hne : t ≠ d := fun e => hw ⟨o, ho, by rw [hd1, e]⟩
              rw [hd1, put_getD (by rw [h.tsize, ← hni]; exact hd2), if_neg hne]
          rw [this]
          exact hx.mono hle1
        · rintro ⟨o', ho', hdt⟩ j hj ⟨oj, hoj, hdj⟩
          rw [ho] at ho'; injection ho' with ho'; subst ho'
          rcases Nat.lt_trichotomy j i with h1 | h1 | h1
          · exact h1
          · subst h1; exact absurd hj hnot
          · exfalso
            rcases hstat i j o oj h1 ho hoj with h2 | h2
            · exact hB j hj h2
            · exact (Oper.apart_spec h2).2.1 t hdt hdj
      · rw [← h.tsize]
        cases o.dst with
        | none => rfl
        | some d => simp [Act.put]
      · intro r hr
        rcases hμ : μ r with _ | K
        · have h1 := hg1.new r hμ hr
          rw [hn'] at h1
          exact Or.inr ⟨i, (isOn_set hlt).2 (Or.inr rfl), h1.1, h1.2⟩
        · rcases h.mu r (by rw [hμ]; simp) with h1 | ⟨j, hj, h1⟩
          · exact Or.inl h1
          · exact Or.inr ⟨j, (isOn_set hlt).2 (Or.inl hj), h1⟩
end
end Go.Cm
namespace Go.Cm
open Go Go.RowKit

section
variable {base : Nat}

theorem VRel.toCold {μ : Mu} {v v' : Value} {p : Nat × Nat × List Value} (h : VRel μ v v') (hp : asFz v = some p) : Cold μ.fz v v' := by
  obtain ⟨k, n, cs⟩ := p
  rw [asFz_some] at hp
  subst hp
  cases h with
  | plain _ h => exact .plain _ h
  | arr _ _ a cap l' hs hc hl hm => exact .arr _ _ a cap l' hs hc hl hm
  | ref _ _ b z l' hl hm => exact .ref _ _ b z l' hl hm
theorem VRel.ofColdB {μ : Mu} {v v' : Value} (h : VRel μ v v') (hb : coldB v = true) : Cold μ.fz v v' := by
  unfold coldB at hb
  cases hp : Cm.plain v with
  | true => have := h.eq hp; subst this; exact .plain _ hp
  | false =>
    rw [hp, cond_false] at hb
    obtain ⟨p, hp⟩ := Option.isSome_iff_exists.1 hb
    exact h.toCold hp

def Mu.cool (μ : Mu) (b : Nat) (o : Obj) : Mu := { μ with fz := fun q => if q = b then some o else μ.fz q }
theorem SRel.cool {μ : Mu} {R R' : Nat → Option Row} {w : World} (h : SRel base μ R w) {r : Nat} {ro : Bool} {es : Nat} {cs : List Value} {L : Place} {o : Obj} (hr : R r = some (.cells ro es cs)) (hL : μ r = some L)
    (ho : w.heap[L.b]? = some o) (hR : ∀ q, R' q = if q = r then some (.cells true es cs) else R q) : SRel base (μ.cool L.b o) R' w ∧ μ.le (μ.cool L.b o) := by
  have hle : μ.le (μ.cool L.b o) := by
    refine ⟨fun _ _ h => h, fun b o' h' => ?_, rfl⟩
    show (if b = L.b then some o else μ.fz b) = some o'
    by_cases e : b = L.b
    · subst e; rw [if_pos rfl, ← ho]; exact h.cold _ _ h'
    · rw [if_neg e]; exact h'
  refine ⟨⟨h.ge, fun q x K hq e => ?_, fun q x hq => ?_, fun p q x y K1 K2 hne hp hq e1 e2 hf => ?_, fun b o' h' => ?_, fun q x K hq hf e => ?_, fun q x K hq e => ?_⟩, hle⟩
  · rw [hR] at hq
    by_cases e' : q = r
    · subst e'; exact h.dom q _ K hr e
    · rw [if_neg e'] at hq; exact h.dom q x K hq e
  · rw [hR] at hq
    by_cases e' : q = r
    · subst e'
      rw [if_pos rfl] at hq; injection hq with hq; subst hq
      obtain ⟨K, hK, h1, h2, h3⟩ := h.row q _ hr
      refine ⟨K, hK, fun i v hv => ?_, h2, fun hro => by cases hro⟩
      obtain ⟨v', a, b⟩ := h1 i v hv
      exact ⟨v', a, b.mono hle⟩
    · rw [if_neg e'] at hq
      obtain ⟨K, hK, hk⟩ := h.row q x hq
      exact ⟨K, hK, hk.move hle rfl⟩
  · rw [hR] at hp hq
    have hpr : p ≠ r := by
      intro e; subst e; rw [if_pos rfl] at hp; injection hp with hp; subst hp; cases hf
    rw [if_neg hpr] at hp
    by_cases e' : q = r
    · subst e'; exact h.apart p q x _ K1 K2 hne hp hr e1 e2 hf
    · rw [if_neg e'] at hq; exact h.apart p q x y K1 K2 hne hp hq e1 e2 hf
  · have h2 : (if b = L.b then some o else μ.fz b) = some o' := h'
    by_cases e : b = L.b
    · subst e; rw [if_pos rfl] at h2; rw [ho]; exact h2
    · rw [if_neg e] at h2; exact h.cold b o' h2
  · rw [hR] at hq
    have hqr : q ≠ r := by
      intro e; subst e; rw [if_pos rfl] at hq; injection hq with hq; subst hq; cases hf
    rw [if_neg hqr] at hq
    show (if K.b = L.b then some o else μ.fz K.b) = none
    rw [if_neg (h.apart q r x _ K L hqr hq hr e hL hf)]
    exact h.hot q x K hq hf e
  · rw [hR] at hq
    have : base ≤ K.b ∨ μ.fz K.b ≠ none := by
      by_cases e' : q = r
      · subst e'; exact h.old q _ K hr e
      · rw [if_neg e'] at hq; exact h.old q x K hq e
    refine this.imp id fun h2 => ?_
    show (if K.b = L.b then some o else μ.fz K.b) ≠ none
    split
    · simp
    · exact h2

/-- What is handed on, and what it is to the model. -/
def Cooled (base : Nat) (μ : Mu) (w : World) (s s' : St) (Q : (Nat → Option Obj) → Prop) : Prop :=
  ∃ μ' : Mu, μ'.at_ = μ.at_ ∧ (μ.le μ' ∧ ∀ b, μ.fz b = none → μ'.fz b ≠ none → base ≤ b) ∧ SRel base μ' s'.rows.get w ∧ s'.next = s.next ∧ Q μ'.fz

theorem fz_trans {μ1 μ2 μ3 : Mu} (h : μ1.le μ2 ∧ ∀ b, μ1.fz b = none → μ2.fz b ≠ none → base ≤ b) (k : μ2.le μ3 ∧ ∀ b, μ2.fz b = none → μ3.fz b ≠ none → base ≤ b) :
    μ1.le μ3 ∧ ∀ b, μ1.fz b = none → μ3.fz b ≠ none → base ≤ b :=
  ⟨Mu.le_trans h.1 k.1, fun b a c => by
    cases e : μ2.fz b with
    | none => exact k.2 b e c
    | some o => exact h.2 b a (by rw [e]; simp)⟩
theorem cool_list {k : Nat} (ih : ∀ (v : Value) (d : Value) (s s' : St) (μ : Mu) (w : World) (v' : Value), coolN k v s = some (d, s') → VRel μ v v' → SRel base μ s.rows.get w → Cooled base μ w s s' fun fz => Cold fz d v') :
    ∀ (l ds : List Value) (s s' : St) (μ : Mu) (w : World) (l' : List Value), M.mapL (coolN k) l s = some (ds, s') → VRels μ l l' → SRel base μ s.rows.get w → Cooled base μ w s s' fun fz => Colds fz ds l'
  | [], ds, s, s', μ, w, l', h, hv, hs => by
    unfold M.mapL at h
    rw [pure_some] at h
    obtain ⟨rfl, rfl⟩ := h
    cases hv
    exact ⟨μ, rfl, ⟨Mu.le_refl μ, fun _ a b => absurd a b⟩, hs, rfl, .nil⟩
  | v :: l, ds, s, s', μ, w, l', h, hv, hs => by
    cases hv with
    | cons _ v' _ l' hv hl =>
      unfold M.mapL at h
      rw [bind_some] at h
      obtain ⟨d, s1, h1, h⟩ := h
      rw [bind_some] at h
      obtain ⟨ds2, s2, h2, h⟩ := h
      rw [pure_some] at h
      obtain ⟨rfl, rfl⟩ := h
      obtain ⟨μ1, a1, b1, c1, e1, f1⟩ := ih v d s s1 μ w v' h1 hv hs
      obtain ⟨μ2, a2, b2, c2, e2, f2⟩ := cool_list ih l ds2 s1 s' μ1 w l' h2 (hl.mono b1.1) c1
      exact ⟨μ2, a2.trans a1, fz_trans b1 b2, c2, e2.trans e1, .cons _ _ _ _ (f1.mono b2.1.fz) f2⟩

theorem cool_ok : ∀ (k : Nat) (v d : Value) (s s' : St) (μ : Mu) (w : World) (v' : Value), coolN k v s = some (d, s') → VRel μ v v' → SRel base μ s.rows.get w → Cooled base μ w s s' fun fz => Cold fz d v'
  | 0, v, d, s, s', μ, w, v', h, hv, hs => by unfold coolN at h; rw [fail_some] at h; exact h.elim
  | k + 1, v, d, s, s', μ, w, v', h, hv, hs => by
    have ih := cool_ok k
    have il := cool_list ih
    unfold coolN at h
    split at h
    · rename_i a n c
      simp only [guard_bind, row_bind, lift_bind] at h
      obtain ⟨hnc, _, x, hx, ⟨es, cs⟩, hcs, hes, l, hl, h⟩ := h
      have hnc' := blt_lt hnc
      have hes' := blt_lt hes
      rw [bind_some] at h
      obtain ⟨_, s1, hc, h⟩ := h
      rw [bind_some] at h
      obtain ⟨ds, s2, hm, h⟩ := h
      rw [pure_some] at h
      obtain ⟨rfl, rfl⟩ := h
      have hx' : ∃ ro, x = .cells ro es cs := by
        unfold cellsE at hcs
        split at hcs
        · rename_i ro es2 cs2
          simp only [Option.some.injEq, Prod.mk.injEq] at hcs
          obtain ⟨rfl, rfl⟩ := hcs
          exact ⟨ro, rfl⟩
        · cases hcs
      obtain ⟨ro, rfl⟩ := hx'
      obtain ⟨L, hL, hrow⟩ := hs.row a.block _ hx
      obtain ⟨l', hll, hlen, hcell⟩ := row_read hrow hl
      simp only at hlen hcell hes' hl
      have hpos : 0 < (n + 1) * sizeE es := Nat.mul_pos (Nat.succ_pos n) hes'
      obtain ⟨o, ho⟩ : ∃ o, w.heap[L.b]? = some o := by
        have h0 : ∃ v0, l'[0]? = some v0 := ⟨l'[0]'(by omega), List.getElem?_eq_getElem (by omega)⟩
        obtain ⟨v0, h0⟩ := h0
        have := hcell 0 v0 h0
        rw [addr_add] at this
        unfold World.cell? at this
        cases hb : w.heap[L.b]? with
        | none => simp only [hb] at this; cases this
        | some o => exact ⟨o, rfl⟩
      have hR : (∀ q, s1.rows.get q = if q = a.block then some (.cells true es cs) else s.rows.get q) ∧ s1.next = s.next := by
        unfold coolRow at hc
        cases ro with
        | false =>
          simp only at hc
          rw [turn_some] at hc
          obtain ⟨_, _, hble, e⟩ := hc
          rw [e]
          exact ⟨fun q => D.got _ _ _ _ hble, rfl⟩
        | true =>
          simp only [pure_some] at hc
          obtain ⟨_, e⟩ := hc
          subst e
          refine ⟨fun q => ?_, rfl⟩
          by_cases e : q = a.block
          · subst e; rw [if_pos rfl]; exact hx
          · rw [if_neg e]
      obtain ⟨hs1, hle⟩ := hs.cool hx hL ho hR.1
      obtain ⟨μ2, a2, b2, c2, e2, f2⟩ := il l ds s1 s' _ w l' hm (hll.mono hle) hs1
      have fin : ∀ cap', n + 1 ≤ cap' → v' = .slice (some ⟨L.b, L.o + a.off, none⟩) (n + 1) cap' → Cooled base μ w s s' fun fz => Cold fz (fzs (n + 1) ds) v' := by
        intro cap' hcap hv'
        refine ⟨μ2, a2, fz_trans ⟨hle, fun b h1 h2 => ?_⟩ b2, c2, e2.trans hR.2, ?_⟩
        · have h3 : (if b = L.b then some o else μ.fz b) ≠ none := h2
          by_cases e : b = L.b
          · subst e; exact (hs.old a.block _ L hx hL).elim id fun h4 => absurd h1 h4
          · rw [if_neg e] at h3; exact absurd h1 h3
        subst hv'
        refine .arr (n + 1) ds ⟨L.b, L.o + a.off, none⟩ cap' l' (Or.inr rfl) hcap f2 fun i u hu => ?_
        refine objAt_mono b2.1.fz ?_
        have hcu := hcell i u hu
        rw [addr_add] at hcu
        show objAt (fun q => if q = L.b then some o else μ.fz q) L.b (L.o + a.off + i) = some u
        unfold objAt
        simp only [if_true]
        unfold World.cell? at hcu
        simp only [ho] at hcu
        cases o <;> simp only at hcu ⊢ <;> first | (cases hcu; done) | skip
        simpa using hcu
      rcases hv.ofSlice with ⟨K, hsp, hK, e1⟩ | ⟨K, cap', hsp, hK, hc1, hx1, e1⟩ | ⟨a', h0, _, _⟩
      · rw [hL] at hK; injection hK with hK; subst hK; exact fin c (by omega) e1
      · rw [hL] at hK; injection hK with hK; subst hK; exact fin cap' (by omega) e1
      · omega
    · rename_i a c
      rw [pure_some] at h
      obtain ⟨rfl, rfl⟩ := h
      have fin : ∀ (a' : Addr) (cap' : Nat), v' = .slice (some a') 0 cap' → Cooled base μ w s' s' fun fz => Cold fz (fzs 0 []) v' := by
        intro a' cap' e; subst e
        exact ⟨μ, rfl, ⟨Mu.le_refl μ, fun _ a b => absurd a b⟩, hs, rfl, .arr 0 [] a' cap' [] (Or.inl rfl) (Nat.zero_le _) .nil (fun i v h => by simp at h)⟩
      rcases hv.ofSlice with ⟨K, hsp, hK, e1⟩ | ⟨K, cap', hsp, hK, hc1, hx1, e1⟩ | ⟨a', _, _, e1⟩
      · exact fin _ _ e1
      · exact fin _ _ e1
      · exact fin _ _ e1
    · rename_i c
      rw [bind_some] at h
      obtain ⟨ds, s1, h1, h⟩ := h
      rw [pure_some] at h
      obtain ⟨rfl, rfl⟩ := h
      obtain ⟨c', rfl, hc⟩ := hv.ofAgg
      obtain ⟨μ2, a2, b2, c2, e2, f2⟩ := il _ ds _ _ μ w _ h1 hc hs
      exact ⟨μ2, a2, b2, c2, e2, .agg _ _ f2⟩
    · cases hp : plain v with
      | true =>
        rw [hp, cond_true, pure_some] at h
        obtain ⟨rfl, rfl⟩ := h
        have := hv.eq hp; subst this
        exact ⟨μ, rfl, ⟨Mu.le_refl μ, fun _ a b => absurd a b⟩, hs, rfl, .plain _ hp⟩
      | false =>
        rw [hp, cond_false] at h
        cases hz : asFz v with
        | none => rw [hz, fail_some] at h; exact h.elim
        | some p =>
          simp only [hz, pure_some] at h
          obtain ⟨rfl, rfl⟩ := h
          exact ⟨μ, rfl, ⟨Mu.le_refl μ, fun _ a b => absurd a b⟩, hs, rfl, hv.toCold hz⟩

theorem freshes_ok : ∀ (rows : List (Nat × List Value)) (s s' : St) (u : Unit), freshes rows s = some (u, s') → s'.next = s.next + rows.length ∧
    ∀ r, s'.rows.get r = if s.next ≤ r ∧ r < s.next + rows.length then (rows[r - s.next]?).map (fun x => Row.cells false x.1 x.2) else s.rows.get r
  | [], s, s', u, h => by
    unfold freshes at h
    rw [pure_some] at h
    obtain ⟨_, rfl⟩ := h
    exact ⟨rfl, fun r => by rw [if_neg]; simp only [List.length_nil]; omega⟩
  | x :: l, s, s', u, h => by
    unfold freshes at h
    rw [fresh_bind] at h
    obtain ⟨hb, h⟩ := h
    obtain ⟨h1, h2⟩ := freshes_ok l _ s' u h
    simp only at h1 h2
    refine ⟨by rw [h1]; simp; omega, fun r => ?_⟩
    rw [h2, D.got _ _ _ _ hb]
    simp only [List.length_cons]
    by_cases e : r = s.next
    · subst e
      rw [if_neg (by omega), if_pos rfl, if_pos (by omega), Nat.sub_self]; rfl
    · by_cases e2 : s.next + 1 ≤ r ∧ r < s.next + 1 + l.length
      · rw [if_pos e2, if_pos (by omega), show r - s.next = (r - (s.next + 1)) + 1 by omega, List.getElem?_cons_succ]
      · rw [if_neg e2, if_neg e, if_neg (by omega)]

theorem optL_some {α β : Type} {f : α → Option β} : ∀ {l : List α} {bs : List β}, optL f l = some bs → bs.length = l.length ∧ ∀ (i : Nat) (a : α), l[i]? = some a → ∃ b, bs[i]? = some b ∧ f a = some b
  | [], bs, h => by unfold optL at h; injection h with h; subst h; exact ⟨rfl, fun i a h => by simp at h⟩
  | a :: l, bs, h => by
    unfold optL at h
    simp only [Option.bind_eq_some_iff, Option.map_eq_some_iff] at h
    obtain ⟨b, hb, bs2, h, rfl⟩ := h
    obtain ⟨h1, h2⟩ := optL_some h
    refine ⟨by simp [h1], fun i a' ha => ?_⟩
    cases i with
    | zero => simp at ha; subst ha; exact ⟨b, rfl, hb⟩
    | succ i => simp at ha; obtain ⟨b', h3, h4⟩ := h2 i a' ha; exact ⟨b', by simpa using h3, h4⟩

theorem shift_ok {μ μ2 : Mu} {g : Nat → Option Nat} (hat : ∀ r q L, g r = some q → μ r = some L → μ2 q = some L) (hfz : μ2.fz = μ.fz) : ∀ (k : Nat) (v u v' : Value), shiftN g k v = some u → VRel μ v v' → VRel μ2 u v'
  | 0, _, _, _, h, _ => by unfold shiftN at h; cases h
  | k + 1, v, u, v', h, hv => by
    have ih := shift_ok hat hfz k
    have il : ∀ (l us l' : List Value), optL (shiftN g k) l = some us → VRels μ l l' → VRels μ2 us l' := by
      intro l us l' h hv
      obtain ⟨h1, h2⟩ := optL_some h
      refine VRels.of_get _ _ (by rw [hv.length, h1]) fun i u hu => ?_
      have hi : i < l.length := by
        rcases Nat.lt_or_ge i us.length with h | h
        · omega
        · rw [List.getElem?_eq_none h] at hu; cases hu
      obtain ⟨v', a, c⟩ := hv.get i _ (List.getElem?_eq_getElem hi)
      obtain ⟨u', d, e⟩ := h2 i _ (List.getElem?_eq_getElem hi)
      rw [hu] at d; injection d with d; subst d
      exact ⟨v', a, ih _ _ _ e c⟩
    unfold shiftN at h
    split at h
    · rename_i r off spot n c
      rw [Option.map_eq_some_iff] at h
      obtain ⟨q, hq, rfl⟩ := h
      rcases hv.ofSlice with ⟨K, hsp, hK, e1⟩ | ⟨K, cap', hsp, hK, hc1, hx1, e1⟩ | ⟨a', h0, h1, e1⟩
      · simp only at hsp; subst hsp; subst e1; exact .slice _ _ _ _ K (hat _ _ _ hq hK)
      · simp only at hsp; subst hsp; subst e1; exact .grown _ _ _ _ _ K (hat _ _ _ hq hK) hc1 hx1
      · subst h0; subst h1; subst e1; exact .over _ _
    · rw [Option.map_eq_some_iff] at h
      obtain ⟨l, hl, rfl⟩ := h
      obtain ⟨c', rfl, hc⟩ := hv.ofAgg
      exact .agg _ _ (il _ _ _ hl hc)
    · rw [Option.map_eq_some_iff] at h
      obtain ⟨l, hl, rfl⟩ := h
      obtain ⟨c', rfl, hc⟩ := hv.ofTuple
      exact .tuple _ _ (il _ _ _ hl hc)
    · cases hp : plain v with
      | true =>
        rw [hp, cond_true] at h; injection h with h; subst h
        have := hv.eq hp; subst this; exact .plain _ hp
      | false =>
        rw [hp, cond_false] at h
        cases hz : asFz v with
        | none => rw [hz] at h; cases h
        | some p =>
          simp only [hz, Option.some.injEq] at h; subst h
          have := hv.toCold hz
          rw [← hfz] at this
          exact this.rel

theorem coldRows_get : ∀ {rows : List (Nat × List Value)}, coldRows rows = true → ∀ (k : Nat) (x : Nat × List Value), rows[k]? = some x → coldsB x.2 = true
  | [], _, k, x, h => by simp at h
  | y :: l, hc, k, x, h => by
    unfold coldRows at hc
    cases hy : coldsB y.2 with
    | false => rw [hy] at hc; cases hc
    | true =>
      rw [hy, cond_true] at hc
      cases k with
      | zero => simp at h; subst h; exact hy
      | succ k => simp at h; exact coldRows_get hc k x h
theorem coldsB_get : ∀ {l : List Value}, coldsB l = true → ∀ (k : Nat) (x : Value), l[k]? = some x → coldB x = true
  | [], _, k, x, h => by simp at h
  | y :: l, hc, k, x, h => by
    unfold coldsB at hc
    cases hy : coldB y with
    | false => rw [hy] at hc; cases hc
    | true =>
      rw [hy, cond_true] at hc
      cases k with
      | zero => simp at h; subst h; exact hy
      | succ k => simp at h; exact coldsB_get hc k x h

theorem known_ok {E : Env} (ok : E.Ok) {f : FuncId} {F : List Value → Option (Value × List (Nat × List Value))} (hF : E.dk f = some F) {args : List Value} {v : Value} {s s' : St} {μ : Mu} {w : World} {args' : Array Value}
    (h : knownF F args s = some (v, s')) (hv : VRels μ args args'.toList) (hs : SRel base μ s.rows.get w) (hf : ∀ r, s.next ≤ r → r < s'.next → μ r = none) :
    Calls E.P f args' w fun e w' => ∃ v' μ', e = .returned v' ∧ VRel μ' v v' ∧ SRel base μ' s'.rows.get w' ∧ Grew base μ μ' s.next s'.next w w' := by
  unfold knownF at h; rw [M.within_eq] at h
  split at h
  · rename_i v1 s1 h1
    injection h with h; injection h with e1 e2; subst e1
    rw [bind_some] at h1
    obtain ⟨ds, s2, hc, h1⟩ := h1
    simp only [lift_bind, guard_bind] at h1
    obtain ⟨⟨v0, rows⟩, hFd, hcr, h1⟩ := h1
    rw [bind_some] at h1
    obtain ⟨b, s3, hb, h1⟩ := h1
    have hb' : s2.next = b ∧ s2 = s3 := by
      unfold M.nextId at hb; injection hb with hb; injection hb with x y; exact ⟨x, y⟩
    obtain ⟨rfl, rfl⟩ := hb'
    rw [bind_some] at h1
    obtain ⟨u, s4, hfr, h1⟩ := h1
    rw [lift_some] at h1
    obtain ⟨hsh, rfl⟩ := h1
    obtain ⟨μ1, a1, ⟨b1, z1⟩, c1, n1, hcold⟩ := cool_list (base := base) (cool_ok 8) args ds _ s2 μ w args'.toList hc hv hs
    have n1' : s2.next = s.next := n1
    obtain ⟨fn1, fn2⟩ := freshes_ok rows s2 s1 u hfr
    have hs' : s'.rows = s1.rows ∧ s'.next = s1.next := by rw [← e2]; exact ⟨rfl, rfl⟩
    refine Calls.mono (ok.dk f F ds v0 rows hF hFd μ1.fz w args' c1.cold hcold) ?_
    rintro e w' ⟨v', μ', rfl, hr⟩
    obtain ⟨dle, dnew, dbel, drel, dsr, ddom⟩ := hr
    have hfresh : ∀ r, s2.next ≤ r → r < s2.next + rows.length → μ1 r = none := by
      intro r h1 h2
      rw [a1]; exact hf r (by omega) (by rw [hs'.2, fn1]; exact h2)
    let μ2 : Mu := ⟨fun r => if s2.next ≤ r ∧ r < s2.next + rows.length then μ' (r - s2.next) else μ1 r, μ'.fz, μ1.sy⟩
    have hat : ∀ r L, μ' r = some L → μ2 (s2.next + r) = some L := by
      intro r L h
      have := ddom r L h
      show (if s2.next ≤ s2.next + r ∧ s2.next + r < s2.next + rows.length then μ' (s2.next + r - s2.next) else μ1 (s2.next + r)) = some L
      rw [if_pos (by omega), show s2.next + r - s2.next = r by omega]; exact h
    have hle : μ1.le μ2 := by
      refine ⟨fun r L h => ?_, dle, rfl⟩
      show (if s2.next ≤ r ∧ r < s2.next + rows.length then μ' (r - s2.next) else μ1 r) = some L
      rw [if_neg (fun hh => by rw [hfresh r hh.1 hh.2] at h; cases h)]; exact h
    have hold : ∀ q, ¬ (s2.next ≤ q ∧ q < s2.next + rows.length) → μ2 q = μ1 q := fun q hq => if_neg hq
    have hnew : ∀ q, (s2.next ≤ q ∧ q < s2.next + rows.length) → μ2 q = μ' (q - s2.next) := fun q hq => if_pos hq
    have hoR : ∀ q, ¬ (s2.next ≤ q ∧ q < s2.next + rows.length) → s'.rows.get q = s2.rows.get q := fun q hq => by rw [hs'.1, fn2, if_neg hq]
    have hnR : ∀ q, (s2.next ≤ q ∧ q < s2.next + rows.length) → s'.rows.get q = (rows[q - s2.next]?).map (fun x => Row.cells false x.1 x.2) := fun q hq => by rw [hs'.1, fn2, if_pos hq]
    refine ⟨v', μ2, rfl, shift_ok (μ := μ') (μ2 := μ2) (fun r q L h1 h2 => by injection h1 with h1; subst h1; exact hat r L h2) rfl 3 v0 _ v' hsh drel, ?_, ?_⟩
    · refine ⟨Nat.le_trans c1.ge dbel.size, fun q x K hq e => ?_, fun q x hq => ?_, fun p q x y K1 K2 hne hp hq e1 e2 hfr => ?_, dsr.cold, fun q x K hq hfr e => ?_, fun q x K hq e => ?_⟩
      · by_cases hc : s2.next ≤ q ∧ q < s2.next + rows.length
        · rw [hnR q hc] at hq; rw [hnew q hc] at e; exact dsr.dom _ x K hq e
        · rw [hoR q hc] at hq; rw [hold q hc] at e; exact Nat.lt_of_lt_of_le (c1.dom q x K hq e) dbel.size
      · by_cases hc : s2.next ≤ q ∧ q < s2.next + rows.length
        · rw [hnR q hc] at hq
          obtain ⟨K, hK, hk⟩ := dsr.row _ x hq
          refine ⟨K, by rw [hnew q hc]; exact hK, ?_⟩
          rw [Option.map_eq_some_iff] at hq
          obtain ⟨y, hy, rfl⟩ := hq
          obtain ⟨k1, k2, k3⟩ := hk
          refine ⟨fun i u hu => ?_, k2, fun hro => ?_⟩
          · obtain ⟨u', g1, g2⟩ := k1 i u hu
            have := g2.ofColdB (coldsB_get (coldRows_get hcr _ _ hy) i u hu)
            exact ⟨u', g1, (show Cold μ2.fz u u' from this).rel⟩
          · obtain ⟨⟨g1, g2⟩, g3, g4⟩ := k3 hro
            exact ⟨⟨Nat.le_trans c1.ge g1, g2⟩, g3, g4⟩
        · rw [hoR q hc] at hq
          obtain ⟨K, hK, hk⟩ := c1.row q x hq
          exact ⟨K, by rw [hold q hc]; exact hK, hk.move hle (dbel.block _ (c1.dom q x K hq hK))⟩
      · by_cases hc : s2.next ≤ p ∧ p < s2.next + rows.length
        · rw [hnR p hc] at hp; rw [hnew p hc] at e1
          by_cases hd : s2.next ≤ q ∧ q < s2.next + rows.length
          · rw [hnR q hd] at hq; rw [hnew q hd] at e2
            exact dsr.apart _ _ x y K1 K2 (by omega) hp hq e1 e2 hfr
          · rw [hoR q hd] at hq; rw [hold q hd] at e2
            have h1 := c1.dom q y K2 hq e2
            obtain ⟨K, hK, hk⟩ := dsr.row _ x hp
            rw [hK] at e1; injection e1 with e1; subst e1
            rw [Option.map_eq_some_iff] at hp
            obtain ⟨z, _, rfl⟩ := hp
            have := (hk.2.2 rfl).1.1
            omega
        · rw [hoR p hc] at hp; rw [hold p hc] at e1
          have h1 := c1.dom p x K1 hp e1
          by_cases hd : s2.next ≤ q ∧ q < s2.next + rows.length
          · rw [hnR q hd] at hq; rw [hnew q hd] at e2
            obtain ⟨K, hK, hk⟩ := dsr.row _ y hq
            rw [hK] at e2; injection e2 with e2; subst e2
            rw [Option.map_eq_some_iff] at hq
            obtain ⟨z, _, rfl⟩ := hq
            have := (hk.2.2 rfl).1.1
            omega
          · rw [hoR q hd] at hq; rw [hold q hd] at e2
            exact c1.apart p q x y K1 K2 hne hp hq e1 e2 hfr
      · by_cases hc : s2.next ≤ q ∧ q < s2.next + rows.length
        · rw [hnR q hc] at hq; rw [hnew q hc] at e; exact dsr.hot _ x K hq hfr e
        · rw [hoR q hc] at hq; rw [hold q hc] at e
          have h1 := c1.dom q x K hq e
          have h2 := c1.hot q x K hq hfr e
          cases hz : μ2.fz K.b with
          | none => rfl
          | some o =>
            have h3 : w.heap.size ≤ K.b := dnew K.b h2 (by show μ2.fz K.b ≠ none; rw [hz]; simp)
            omega
      · by_cases hc : s2.next ≤ q ∧ q < s2.next + rows.length
        · rw [hnR q hc] at hq; rw [hnew q hc] at e
          exact (dsr.old _ x K hq e).imp (Nat.le_trans c1.ge) id
        · rw [hoR q hc] at hq; rw [hold q hc] at e
          refine (c1.old q x K hq e).imp id fun h2 => ?_
          cases hz : μ1.fz K.b with
          | none => exact absurd hz h2
          | some o => have := hle.fz _ _ hz; rw [this]; simp
    · refine ⟨Mu.le_trans b1 hle, fun r h1 h2 => ?_, fun b h1 h2 => ?_, dbel.mono hs.ge⟩
      rotate_left
      · cases e : μ1.fz b with
        | none => have := dnew b e h2; have := hs.ge; omega
        | some o => exact z1 b h1 (by rw [e]; simp)
      by_cases hc : s2.next ≤ r ∧ r < s2.next + rows.length
      · rw [hs'.2, fn1]; omega
      · rw [hold r hc, a1] at h2; exact absurd h1 h2
  · cases h
end
end Go.Cm
