/-
  An operation: what the machine does with a frame, the model does with its own.
-/
import Derived.Test.YtfofdglgacfklaaGreatDoorCmN
namespace Go.Cm
open Go Go.RowKit

structure FRel (μ : Mu) (fr : Fr) (tmps : Array Value) : Prop where
  n : fr.n = tmps.size
  le : fr.n ≤ 1024
  at_ : ∀ t, t < fr.n → VRel μ (FT.get 5 fr.t t) (tmps.getD t undef)

theorem FRel.get {μ : Mu} {fr : Fr} {tmps : Array Value} (h : FRel μ fr tmps) (t : Nat) : VRel μ (fr.get t) (tmps.getD t undef) := by
  rw [Fr.get_eq]
  cases hb : Nat.blt t fr.n with
  | true => exact h.at_ t (blt_lt hb)
  | false =>
    have : ¬ t < tmps.size := by
      intro hh
      have : Nat.blt t fr.n = true := Nat.ble_eq_true_of_le (by rw [h.n]; exact hh)
      rw [this] at hb; cases hb
    have he : tmps.getD t undef = undef := by simp [Array.getD, this]
    rw [he]; exact .plain _ rfl

theorem FRel.mono {μ μ' : Mu} {fr : Fr} {tmps : Array Value} (h : FRel μ fr tmps) (hm : μ.le μ') : FRel μ' fr tmps := ⟨h.n, h.le, fun t ht => (h.at_ t ht).mono hm⟩

theorem FRel.put {μ : Mu} {fr : Fr} {tmps : Array Value} (h : FRel μ fr tmps) {d : Nat} (hd : d < fr.n) {v v' : Value} (hv : VRel μ v v') : FRel μ (fr.put d v) (tmps.setIfInBounds d v') where
  n := by rw [Fr.put_eq]; simp [h.n]
  le := by rw [Fr.put_eq]; exact h.le
  at_ := fun t ht => by
    have ht' : t < fr.n := by rw [Fr.put_eq] at ht; exact ht
    have hn := h.n
    have hle := h.le
    rw [Fr.put_eq]
    show VRel μ (FT.get 5 (FT.put 5 fr.t d v) t) _
    rw [FT.get_put 5 fr.t d t v (by show d < 1024; omega) (by show t < 1024; omega)]
    by_cases e : t = d
    · subst e
      rw [if_pos rfl]
      have : (tmps.setIfInBounds t v').getD t undef = v' := by simp [Array.getD]; intro hh; omega
      rw [this]; exact hv
    · rw [if_neg e]
      have : (tmps.setIfInBounds d v').getD t undef = tmps.getD t undef := by
        simp only [Array.getD, Array.size_setIfInBounds]
        split
        · rename_i hlt
          exact Array.getElem_setIfInBounds_ne hlt (Ne.symm e)
        · rfl
      rw [this]; exact h.at_ t ht'

theorem VRel.toBool {μ : Mu} {v : Value} {b : Bool} (h : VRel μ v (.bool b)) (hj : darkV v = false) : v = .bool b := by
  cases h with
  | plain => rfl
  | any => simp [darkV, isJunk] at hj
  | tok c _ hc => rw [show darkV (.chan (some c)) = true from Nat.ble_eq_true_of_le hc] at hj; cases hj

def NRel (μ : Mu) : Nx → Next → Prop
  | .value v, .value v' => VRel μ v v'
  | .skip, .skip => True
  | _, _ => False

section
variable {E : Env} (ok : E.Ok) {base : Nat} {μ : Mu} {w : World}
include ok

omit ok in
theorem prels_of {ρ ρ' : Operand → Value} : ∀ (l : List (Nat × Operand)), (∀ p ∈ l, VRel μ (ρ p.2) (ρ' p.2)) → PRels μ (l.map fun p => (p.1, ρ p.2)) (l.map fun p => (p.1, ρ' p.2))
  | [], _ => .nil
  | p :: l, h => .cons _ _ _ _ _ (h p (by simp)) (prels_of l fun q hq => h q (by simp [hq]))
omit ok in
theorem vrels_of {ρ ρ' : Operand → Value} : ∀ (l : List Operand), (∀ x ∈ l, VRel μ (ρ x) (ρ' x)) → VRels μ (l.map ρ) (l.map ρ')
  | [], _ => .nil
  | p :: l, h => .cons _ _ _ _ (h p (by simp)) (vrels_of l fun q hq => h q (by simp [hq]))

theorem does_value {ρ ρ' : Operand → Value} {o : Oper} {v : Value} (h : valueA E ρ o.op = some v) (hρ : ∀ x ∈ o.op.operands, VRel μ (ρ x) (ρ' x)) (hsy : μ.sy = E.sy) :
    ∃ v', (execOp ρ' o).run E.P w = .ok (.value v') w ∧ VRel μ v v' := by
  have fin : ∀ (e : Sem Value) (v' : Value), e.run E.P w = .ok v' w → VRel μ v v' → ((do pure (.value (← e)) : Sem Next).run E.P w = .ok (.value v') w ∧ VRel μ v v') := by
    intro e v' hr hv
    exact ⟨by simp only [Sem.run_bind, hr, Result.andThen_ok, Sem.run_pure], hv⟩
  unfold execOp
  cases hop : o.op <;> rw [hop] at h hρ <;> unfold valueA at h <;> simp only at h ⊢ <;> first
    | (cases h; done)
    | skip
  · simp only [Option.some.injEq] at h; subst h
    exact ⟨_, rfl, hρ _ (by simp [Op.operands])⟩
  · simp only [Option.some.injEq] at h; subst h
    exact ⟨_, rfl, hρ _ (by simp [Op.operands])⟩
  · rename_i c a b
    have hc := hρ c (by simp [Op.operands])
    have ha := hρ a (by simp [Op.operands])
    have hb := hρ b (by simp [Op.operands])
    unfold pickA at h
    split at h
    · rename_i t ht
      rw [ht] at hc
      have hc' := hc.ofBool
      simp only [Option.some.injEq] at h; subst h
      cases t with
      | true => exact ⟨ρ' a, by rw [hc']; rfl, ha⟩
      | false => exact ⟨ρ' b, by rw [hc']; rfl, hb⟩
    · cases h
  · rename_i t ps
    have hp : PRels μ (parts ρ ps) (ps.map fun p => (p.1, ρ' p.2)).toList := by
      rw [Array.toList_map]
      exact prels_of ps.toList fun p hp => hρ p.2 (by simp only [Op.operands, List.mem_toArray, List.mem_map]; exact ⟨p, hp, rfl⟩)
    obtain ⟨v', hr, hv⟩ := does_build ok (w := w) h hp
    exact ⟨v', fin _ v' hr hv⟩
  · rename_i x
    have hx := hρ x (by simp [Op.operands])
    unfold nilCheckA at h
    generalize ρ' x = y at hx ⊢
    generalize ρ x = x at hx h
    cases x <;> (try simp only at h) <;> first
      | (cases h; done)
      | skip
    · rename_i a
      cases a with
      | none => cases h
      | some a =>
        simp only [Option.some.injEq] at h; subst h
        obtain ⟨r, off, sp⟩ := a
        cases hx with
        | plain _ h => simp [Cm.plain, plainN] at h
        | ptr r off L hL => exact ⟨_, rfl, .ptr r off L hL⟩
    · rename_i a n c
      simp only [Option.some.injEq] at h; subst h
      cases a with
      | none => have := hx.ofNilSlice; subst this; exact ⟨_, rfl, hx⟩
      | some a => rcases hx.ofSlice with ⟨L, _, _, rfl⟩ | ⟨L, c2, _, _, _, _, rfl⟩ | ⟨a2, rfl, rfl, rfl⟩ <;> exact ⟨_, rfl, hx⟩
    · rename_i r
      simp only [Option.some.injEq] at h; subst h
      cases r with
      | none => have := hx.eq rfl; subst this; exact ⟨_, rfl, hx⟩
      | some r => obtain ⟨L, _, rfl⟩ := hx.ofMap; exact ⟨_, rfl, hx⟩
    · rename_i f a c
      cases f <;> (try simp only at h) <;> first
        | (cases h; done)
        | skip
      · obtain ⟨a', c', rfl, _, _⟩ := hx.ofFunc
        simp only [Option.some.injEq] at h; subst h
        exact ⟨_, rfl, hx⟩
      · rename_i k
        match k with
        | 0 =>
          simp only [Option.some.injEq] at h; subst h
          cases hx with
          | plain _ h => simp [Cm.plain, plainN] at h
          | arr n cs a cap l' hs hc hl hm => exact ⟨_, rfl, .arr n cs a cap l' hs hc hl hm⟩
        | 1 =>
          simp only [Option.some.injEq] at h; subst h
          cases hx with
          | plain _ h => simp [Cm.plain, plainN] at h
          | ref o cs b z l' hl hm => exact ⟨_, rfl, .ref o cs b z l' hl hm⟩
        | k + 2 => simp at h
    · rename_i t u
      simp only [Option.some.injEq] at h; subst h
      obtain ⟨u', rfl, _⟩ := hx.ofIface
      exact ⟨_, rfl, hx⟩
  · rename_i op t x y u
    obtain ⟨v', hr, hp⟩ := does_binOp ok (w := w) h (hρ x (by simp [Op.operands])) (hρ y (by simp [Op.operands])) hsy
    exact ⟨v', fin _ v' hr hp⟩
  · rename_i op t x
    unfold unOpA at h
    simp only [Option.bind_eq_some_iff, guardO_some] at h
    obtain ⟨_, hp, h⟩ := h
    obtain ⟨h1, h2⟩ := plainly_some.1 h
    have := (hρ x (by simp [Op.operands])).eq hp
    rw [this]
    exact ⟨v, fin _ v (pureRun_ok _ _ h1 w) (.plain v h2)⟩
  · rename_i t x
    unfold makeInterfaceA at h
    rw [Option.bind_eq_some_iff] at h
    obtain ⟨d, hd, h⟩ := h
    have hx := hρ x (by simp [Op.operands])
    have : v = .iface t (ρ x) ∧ (Instr.makeInterface t (ρ' x)).run E.P w = .ok (.iface t (ρ' x)) w := by
      unfold Instr.makeInterface
      cases d <;> simp only at h <;> first
        | (cases h; done)
        | (simp only [Option.some.injEq] at h; exact ⟨h.symm, by simp only [Sem.run_bind, ok.run_und w hd, Result.andThen_ok, Sem.run_pure]⟩)
    obtain ⟨rfl, hr⟩ := this
    exact ⟨_, fin _ _ hr (.iface _ _ _ hx)⟩
  · rename_i fn first captured
    cases fn <;> (try simp only at h) <;> first
      | (cases h; done)
      | skip
    rename_i fn
    simp only [Option.some.injEq] at h; subst h
    refine ⟨_, fin _ (.func (.func fn) (first.map ρ') (captured.map ρ')) rfl (.func _ _ _ _ _ ?_ ?_)⟩
    · simp only [Array.toList_map]; exact vrels_of _ fun x hx => hρ x (by simp only [Op.operands, Array.mem_append]; exact Or.inl (Array.mem_toList_iff.1 hx))
    · simp only [Array.toList_map]; exact vrels_of _ fun x hx => hρ x (by simp only [Op.operands, Array.mem_append]; exact Or.inr (Array.mem_toList_iff.1 hx))
  · rename_i t x lo hi mx
    have orel : ∀ y : Option Operand, (∀ z, y = some z → z ∈ (Op.slice t x lo hi mx).operands) → ORel μ (y.map ρ) (y.map ρ') := by
      intro y hy
      cases y with
      | none => exact trivial
      | some z => exact hρ z (hy z rfl)
    obtain ⟨v', hr, hv⟩ := does_slice ok (w := w) h (hρ x (by simp [Op.operands]))
      (orel lo fun z hz => by subst hz; simp [Op.operands]) (orel hi fun z hz => by subst hz; simp [Op.operands]) (orel mx fun z hz => by subst hz; simp [Op.operands]) hsy
    exact ⟨v', fin _ v' hr hv⟩
  · rename_i t x f
    obtain ⟨v', hr, hv⟩ := does_fieldAddr ok (w := w) h (hρ x (by simp [Op.operands]))
    exact ⟨v', fin _ v' hr hv⟩
  · rename_i t x f
    obtain ⟨v', hr, hv⟩ := does_field ok (w := w) h (hρ x (by simp [Op.operands]))
    exact ⟨v', fin _ v' hr hv⟩
  · rename_i t x i
    obtain ⟨v', hr, hv⟩ := does_indexAddr ok (w := w) h (hρ x (by simp [Op.operands])) (hρ i (by simp [Op.operands]))
    exact ⟨v', fin _ v' hr hv⟩
  · rename_i t x i
    obtain ⟨v', hr, hv⟩ := does_index ok (w := w) h (hρ x (by simp [Op.operands])) (hρ i (by simp [Op.operands]))
    exact ⟨v', fin _ v' hr hv⟩
  · rename_i x i
    have hx := hρ x (by simp [Op.operands])
    unfold extractA at h
    split at h
    · rename_i vs hvs
      rw [hvs] at hx
      obtain ⟨c', hc', hv⟩ := hx.ofTuple
      obtain ⟨v', hg, hr⟩ := hv.get _ v h
      rw [hc']
      refine ⟨v', fin _ v' ?_ hr⟩
      unfold Instr.extract
      rw [Array.getElem?_toList] at hg
      simp only [hg, Sem.run_pure]
    · cases h
end
end Go.Cm
