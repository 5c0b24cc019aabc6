/-
  OperTells: the law, of whatever arguments.
-/
import Derived.Test.YtoloiegahmehkaaUOoU
namespace Go.Proofs.Ytoloiegahmehkaa.Oo
open Go Go.Cm Go.RowKit

theorem bytes_has : ∀ els : List (List Value), (∀ x ∈ els, (Ty.int .u8).Has x) → ∃ l : List UInt8, els.length = l.length ∧ els.flatten = bytesC l
  | [], _ => ⟨[], rfl, rfl⟩
  | x :: els, h => by
    obtain ⟨i, rfl, hw⟩ := h x (by simp)
    obtain ⟨l, h1, h2⟩ := bytes_has els fun y hy => h y (by simp [hy])
    have hi : 0 ≤ i ∧ i ≤ 255 := by
      simp [Lit.wf, IntKind.min, IntKind.max, IntKind.signed, IntKind.bits] at hw
      omega
    refine ⟨UInt8.ofNat i.toNat :: l, by simp [h1], ?_⟩
    show [Value.int .u8 i] ++ els.flatten = .int .u8 ((UInt8.ofNat i.toNat).toNat : Int) :: bytesC l
    rw [h2]
    have : ((UInt8.ofNat i.toNat).toNat : Int) = i := by
      rw [UInt8.toNat_ofNat']
      omega
    rw [this]
    rfl
theorem tells (cs : List Value) (h : HasArgs [.slice (.int .u8), opTy] cs) (W : World) (args : Array Value) (hc : Colds (fun b => W.heap[b]?) cs args.toList) : Calls Try.prog 4 args W fun e W' => e = .returned (.bool true) ∧ Below W.heap.size W W' := by
  obtain ⟨sv, _, hs, ⟨c2, _, h2, rfl, rfl⟩, rfl⟩ := h
  obtain ⟨o, n, eo, ho, hdo⟩ := op_has h2 rfl
  rw [eo] at hc
  obtain ⟨l, hl, hsv⟩ : ∃ l : List UInt8, l.length ≤ 9223372036854775807 ∧ (sv = .slice none 0 0 ∧ l = [] ∨ sv = fzs l.length (bytesC l)) := by
    rcases hs with e | ⟨els, hle, hall, e⟩
    · injection e with e
      exact ⟨[], Nat.zero_le _, Or.inl ⟨e, rfl⟩⟩
    · injection e with e
      obtain ⟨l, e1, e2⟩ := bytes_has els hall
      exact ⟨l, by rw [← e1]; exact hle, Or.inr (by rw [e, e1, e2])⟩
  obtain ⟨k1, hk1, ek1⟩ := low15 o.k
  obtain ⟨k3, hk3, ek3⟩ := low15 ((k1 : Int) + 1)
  obtain ⟨i, hi, ei⟩ := low3 o.wi
  let x : TT := ⟨o, n, l, sv, fun b => W.heap[b]?, k1, k3, i⟩
  have r : x.Right := ⟨ho, hl, ek1, hk1, ek3, hk3, ei, hsv⟩
  have rel : ∀ b b8 g1 g2 g3 g4 : Bool, VRels ⟨(globMu 0 (env5 x b b8 g1 g2 g3 g4).sy).at_, fun b => W.heap[b]?, (env5 x b b8 g1 g2 g3 g4).sy⟩ args5 args.toList := by
    intro b b8 g1 g2 g3 g4
    revert hc
    generalize args.toList = rest
    intro hc
    cases hc with
    | cons _ y _ _ hy hl' =>
      cases hl' with
      | cons _ z _ _ hz hl' =>
        cases hl'
        refine .cons _ _ _ _ (tok_rel (say := x.say) (i := 10) rfl rfl hy ?_) (.cons _ _ _ _ (op_toks (say := x.say) rfl rfl rfl rfl rfl rfl rfl rfl rfl rfl rfl hdo hz) .nil)
        rcases hsv with ⟨e, _⟩ | e
        · rw [e] at hy
          have := (hy.rel (μ := ⟨fun _ => none, fun b => W.heap[b]?, fun _ _ => False⟩)).eq rfl
          subst this
          rfl
        · rw [e] at hy; exact (sl_cold hy).2
  have go : ∀ g1 g2 g3 g4 : Bool, decide ((100 : Int) < (l.length : Nat)) = g1 → decide ((3000 : Int) < (n : Nat)) = g2 → decide ((100 : Int) < (o.nm.size : Nat)) = g3 → decide ((8 : Int) < (l.length : Nat)) = g4 →
      (∀ b b8, yes (env5 x b b8 g1 g2 g3 g4) 1000 4 args5 0 = true) → Calls Try.prog 4 args W fun e W' => e = .returned (.bool true) ∧ Below W.heap.size W W' := fun g1 g2 g3 g4 e1 e2 e3 e4 hy =>
    yes_tok (E := env5 x (nameB ⟨⟨l⟩⟩) (nameB ⟨⟨l.take 8⟩⟩) g1 g2 g3 g4) (made5 x r e1 e2 e3 e4 rfl rfl).ok (made5 x r e1 e2 e3 e4 rfl rfl).coded (fun _ h => by cases h) (hy _ _) (fun _ _ h => h) (rel _ _ g1 g2 g3 g4) (fun _ _ h => h)
  cases e1 : decide ((100 : Int) < (l.length : Nat)) with
  | true => exact go true _ _ _ e1 rfl rfl rfl fun b b8 => tells_run1 x b b8 _ _ _
  | false =>
    cases e2 : decide ((3000 : Int) < (n : Nat)) with
    | true => exact go false true _ _ e1 e2 rfl rfl fun b b8 => tells_run2 x b b8 _ _
    | false =>
      cases e3 : decide ((100 : Int) < (o.nm.size : Nat)) with
      | true => exact go false false true _ e1 e2 e3 rfl fun b b8 => tells_run3 x b b8 _
      | false =>
        refine go false false false _ e1 e2 e3 rfl fun b b8 => ?_
        have h := tells_run o n l sv (fun b => W.heap[b]?) k1 k3
        rw [List.all_eq_true] at h
        have h := h i (by simp only [List.mem_cons, List.not_mem_nil, or_false]; omega)
        rw [List.all_eq_true] at h
        have h := h b (by cases b <;> simp)
        rw [List.all_eq_true] at h
        have h := h b8 (by cases b8 <;> simp)
        rw [List.all_eq_true] at h
        exact h _ (by cases decide ((8 : Int) < (l.length : Nat)) <;> simp)
end Go.Proofs.Ytoloiegahmehkaa.Oo
