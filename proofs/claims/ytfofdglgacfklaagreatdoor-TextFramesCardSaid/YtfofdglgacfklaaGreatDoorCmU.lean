/-
  A region that draws an order: the model's run of it, in any order.
-/
import Derived.Test.YtfofdglgacfklaaGreatDoorCmT
namespace Go.Cm
open Go Go.RowKit

def isOn (listed : Array Bool) (j : Nat) : Prop := listed.getD j false = true
def Wrote (m : Nat) (N : Nat → Nat) (W : Nat → List Nat) (r j : Nat) : Prop := j < m ∧ (r ∈ W j ∨ (N j ≤ r ∧ r < N (j + 1)))
def Put (ops : Array Oper) (t j : Nat) : Prop := ∃ o, ops[j]? = some o ∧ o.dst = some t

structure Mid (E : Env) (base : Nat) (ops : Array Oper) (F : Nat → Fr) (R : Nat → Nat → Option Row) (N : Nat → Nat) (W : Nat → List Nat) (n0 : Nat) (μ0 : Mu) (w0 : World) (ds : List Deferred)
    (listed : Array Bool) (a : Act) (w : World) (μ : Mu) (s : St) : Prop where
  size : listed.size = ops.size
  closed : ∀ j o, isOn listed j → ops[j]? = some o → ∀ e, e ∈ o.after → Region.binds .any e = true → isOn listed e.on
  rows : ∀ r, Last (isOn listed) (Wrote ops.size N W r) (fun i => R i r) (fun x => s.rows.get r = x)
  tmps : ∀ t, Last (isOn listed) (Put ops t) (fun i => (F i).get t) (fun v => VRel μ v (a.tmps.getD t undef))
  tsize : a.tmps.size = n0
  srel : SRel base μ s.rows.get w
  mu : ∀ r, μ r ≠ none → μ0 r ≠ none ∨ ∃ j, isOn listed j ∧ N j ≤ r ∧ r < N (j + 1)
  le : μ0.le μ
  fzn : ∀ b, μ0.fz b = none → μ.fz b ≠ none → base ≤ b
  below : Below base w0 w
  defers : a.defers = ds

theorem isOn_set {listed : Array Bool} {i j : Nat} (hi : i < listed.size) : isOn (listed.setIfInBounds i true) j ↔ (isOn listed j ∨ j = i) := by
  unfold isOn
  by_cases h : i = j
  · subst h; simp [hi]
  · rw [getD_set_ne false h]
    constructor
    · exact Or.inl
    · rintro (h1 | h1)
      · exact h1
      · exact absurd h1.symm h

theorem countP_listed {listed : Array Bool} {i : Nat} (hi : listed[i]? = some false) :
    (listed.setIfInBounds i true).toList.countP (fun b => !b) + 1 = listed.toList.countP (fun b => !b) := by
  have hlt : i < listed.size := (Array.getElem?_eq_some_iff.1 hi).1
  have hv : listed[i] = false := (Array.getElem?_eq_some_iff.1 hi).2
  have hl : i < listed.toList.length := by simpa using hlt
  have hv' : listed.toList[i] = false := by simpa using hv
  rw [Array.toList_setIfInBounds, List.countP_set hl, hv']
  have : 0 < listed.toList.countP (fun b => !b) := by
    rw [List.countP_pos_iff]
    exact ⟨false, by rw [← hv']; exact List.getElem_mem _, rfl⟩
  simp only [Bool.not_false, if_true, Bool.not_true, Bool.false_eq_true, if_false]
  omega

section
variable {E : Env} (ok : E.Ok) {base : Nat} {call : FuncId → List Value → M Value} (hcall : CallSim E base call) {ops : Array Oper} {Q : Exit → Act → World → Prop}
  {F : Nat → Fr} {R : Nat → Nat → Option Row} {N : Nat → Nat} {L W : Nat → List Nat} {n0 : Nat} {μ0 : Mu} {w0 : World} {ds : List Deferred}
  (hstep : ∀ (i : Nat) (o : Oper), ops[i]? = some o → Stp E call ops o (F i) (F (i + 1)) (R i) (R (i + 1)) (N i) (N (i + 1)) (L i) (W i))
  (hord : ∀ (j i : Nat), j < i → i < ops.size → clash (didOf (N j) (N (j + 1)) (L j) (W j)) (didOf (N i) (N (i + 1)) (L i) (W i)) = true → ordered (Region.before ops) j i = true)
  (hstat : ∀ (j i : Nat) (oj oi : Oper), j < i → ops[j]? = some oj → ops[i]? = some oi → ordered (Region.before ops) j i = true ∨ oj.apart ops oi = true)
  (haft : ∀ (i : Nat) (o : Oper) (e : Edge), ops[i]? = some o → e ∈ o.after → Region.binds .any e = true → e.on < i)
  (hok : ∀ (i : Nat) (o : Oper), ops[i]? = some o → opOk E o = true)
  (hn0 : ∀ i, i ≤ ops.size → (F i).n = n0) (hn : n0 ≤ 1024)
  (hf0 : ∀ r, N 0 ≤ r → r < N ops.size → μ0 r = none) (hgl : Globs E μ0)
  (hQ : ∀ μ' a' w', FRel μ' (F ops.size) a'.tmps → a'.defers = ds → SRel base μ' (R ops.size) w' → Grew base μ0 μ' (N 0) (N ops.size) w0 w' → Q .normal a' w')

include hstep in
theorem N_mono {i j : Nat} (h : i ≤ j) (hj : j ≤ ops.size) : N i ≤ N j := by
  induction j with
  | zero => have : i = 0 := by omega
            subst this; exact Nat.le_refl _
  | succ j ih =>
    rcases Nat.lt_or_ge j i with h1 | h1
    · have : i = j + 1 := by omega
      subst this; exact Nat.le_refl _
    · exact Nat.le_trans (ih h1 (by omega)) (hstep j _ (Array.getElem?_eq_getElem (by omega : j < ops.size))).mono

include hstep hord in
/-- Two that meet stand in an order. -/
theorem ord_of {j i r : Nat} (hji : j < i) (hi : i < ops.size) (h : (Wrote ops.size N W r j ∧ r ∈ L i) ∨ (r ∈ L j ∧ r ∈ W i)) : ordered (Region.before ops) j i = true := by
  have sj := hstep j _ (Array.getElem?_eq_getElem (by omega : j < ops.size))
  have si := hstep i _ (Array.getElem?_eq_getElem hi)
  have hm : N (j + 1) ≤ N i := N_mono hstep (by omega) (by omega)
  apply hord j i hji hi
  apply clash_of
  have made : N j ≤ r → r < N (j + 1) → r ∈ L i → ∃ x, x ∈ below (N i) (L i) ∧ N j ≤ x ∧ x < N (j + 1) := fun h1 h2 h3 =>
    ⟨r, (mem_below _ _ _).2 ⟨h3, by omega⟩, h1, h2⟩
  rcases h with ⟨⟨_, h1⟩, h2⟩ | ⟨h1, h2⟩
  · rcases h1 with h1 | h1
    · rcases Nat.lt_or_ge r (N j) with h3 | h3
      · have := sj.mono
        exact Or.inl ⟨r, (mem_below _ _ _).2 ⟨h1, h3⟩, (mem_below _ _ _).2 ⟨h2, by omega⟩⟩
      · exact Or.inr (Or.inr (made h3 (sj.lt r (sj.sub r h1)) h2))
    · exact Or.inr (Or.inr (made h1.1 h1.2 h2))
  · rcases Nat.lt_or_ge r (N j) with h3 | h3
    · have := sj.mono
      exact Or.inr (Or.inl ⟨r, (mem_below _ _ _).2 ⟨h2, by omega⟩, (mem_below _ _ _).2 ⟨h1, h3⟩⟩)
    · exact Or.inr (Or.inr (made h3 (sj.lt r h1) (si.sub r h2)))

theorem put_getD {a : Act} {d t : Nat} {v : Value} (hd : d < a.tmps.size) : (a.put (some d) v).tmps.getD t undef = if t = d then v else a.tmps.getD t undef := by
  show (a.tmps.setIfInBounds d v).getD t undef = _
  by_cases h : t = d
  · subst h; simp [Array.getD, hd]
  · rw [if_neg h]
    simp only [Array.getD, Array.size_setIfInBounds]
    split
    · rename_i hlt
      exact Array.getElem_setIfInBounds_ne hlt (Ne.symm h)
    · rfl

include ok hcall hstep hord hstat haft hok hn0 hn hf0 hgl hQ

omit ok hcall hord hstat hok hf0 hgl in
theorem draw_end {listed : Array Bool} {a : Act} {w : World} {μ : Mu} {s : St} (h : Mid E base ops F R N W n0 μ0 w0 ds listed a w μ s) (hr : Region.ready .any ops listed = []) : Q .normal a w := by
  have hall : ∀ n j, j < n → j < ops.size → isOn listed j := by
    intro n
    induction n with
    | zero => intro j h; omega
    | succ n ih =>
      intro j hj hlt
      have hoj := Array.getElem?_eq_getElem hlt
      cases hl : listed.getD j true with
      | true =>
        unfold isOn
        have : j < listed.size := by rw [h.size]; exact hlt
        simp [Array.getD, this] at hl ⊢; exact hl
      | false =>
        have : j ∈ Region.ready .any ops listed := by
          rw [mem_ready]
          exact ⟨hl, _, hoj, fun e he hb => ih e.on (by have := haft j _ e hoj he hb; omega) (by have := haft j _ e hoj he hb; omega)⟩
        rw [hr] at this; simp at this
  have honlt : ∀ j, isOn listed j → j < ops.size := by
    intro j hj
    rcases Nat.lt_or_ge j ops.size with h1 | h1
    · exact h1
    · unfold isOn at hj
      simp [Array.getD_eq_getD_getElem?, Array.getElem?_eq_none (by rw [h.size]; exact h1 : listed.size ≤ j)] at hj
  have hx : ∀ j, j < ops.size → (isOn listed j ↔ j < ops.size) := fun j hj => ⟨fun _ => hj, fun _ => hall (j + 1) j (by omega) hj⟩
  have hrows : s.rows.get = R ops.size := by
    funext r
    refine (h.rows r).at_ (m := ops.size) (Nat.le_refl _) (fun j hj hw => ?_) (fun j hj _ => hx j hj) honlt
    have sj := hstep j _ (Array.getElem?_eq_getElem hj)
    refine sj.same r (fun hh => hw ⟨hj, Or.inl hh⟩) ?_
    rcases Nat.lt_or_ge r (N j) with h1 | h1
    · exact Or.inl h1
    · rcases Nat.lt_or_ge r (N (j + 1)) with h2 | h2
      · exact absurd ⟨hj, Or.inr ⟨h1, h2⟩⟩ hw
      · exact Or.inr h2
  have hnn := hn0 ops.size (Nat.le_refl _)
  refine hQ μ a w ⟨by rw [hnn, h.tsize], by rw [hnn]; exact hn, fun t ht => ?_⟩ h.defers (by rw [← hrows]; exact h.srel) ⟨h.le, fun r h1 h2 => ?_, h.fzn, h.below⟩
  · have := (h.tmps t).at_ (m := ops.size) (Nat.le_refl _) (fun j hj hw => ?_) (fun j hj _ => hx j hj) honlt
    · rw [Fr.get_eq] at this
      rw [lt_blt0 ht] at this
      exact this
    · have hoj := Array.getElem?_eq_getElem hj
      have sj := hstep j _ hoj
      obtain ⟨v, hd | ⟨d, hd, hlt, he⟩⟩ := sj.dst
      · rw [hd.2]
      · have hne : t ≠ d := fun e => hw ⟨_, hoj, by rw [hd, e]⟩
        simp only [he]
        rw [Fr.get_put hlt (by rw [hn0 j (by omega)]; exact hn), if_neg hne]
  · rcases h.mu r h2 with h3 | ⟨j, hj, h3, h4⟩
    · exact absurd h1 h3
    · have hjl := honlt j hj
      have a1 : N 0 ≤ N j := N_mono hstep (by omega) (by omega)
      have a2 : N (j + 1) ≤ N ops.size := N_mono hstep (by omega) (by omega)
      omega
end
end Go.Cm
