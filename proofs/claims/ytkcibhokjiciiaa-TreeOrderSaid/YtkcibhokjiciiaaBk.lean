/-
  What comes in: a slice of numbers, numbers.
-/
import Derived.Test.YtkcibhokjiciiaaBi
import Derived.Test.YtkcibhokjiciiaaMk
namespace Go.Proofs.Ytkcibhokjiciiaa.Cl
open Go Go.Cm Tp

theorem flat_ints : ∀ (els : List (List Value)), (∀ x ∈ els, Ty.Has (.int .i64) x) → ∃ xs : List Int, els.flatten = xs.map (Value.int .i64) ∧ xs.length = els.length
  | [], _ => ⟨[], rfl, rfl⟩
  | e :: els, h => by
    obtain ⟨xs, h1, h2⟩ := flat_ints els fun x hx => h x (by simp [hx])
    obtain ⟨i, hi, _⟩ := h e (by simp)
    refine ⟨i :: xs, ?_, by simp [h2]⟩
    rw [List.flatten_cons, h1, hi]; rfl
theorem ints64_plain : ∀ ns : List Int, plains (ns.map (Value.int .i64)) = true
  | [] => rfl
  | _ :: l => plains_cons.2 ⟨rfl, ints64_plain l⟩
/-- A slice of numbers. -/
theorem ints_in {W : World} {v v' : Value} (hv : Ty.Has (.slice (.int .i64)) [v]) (hv' : Cold (fun b => W.heap[b]?) v v') : ∃ xs : List Int, xs.length ≤ maxLen ∧ IntsIn W v' xs := by
  rcases hv with hv | ⟨els, hlen, hels, hv⟩
  · injection hv with hv _
    subst hv
    have : v' = .slice none 0 0 := by cases hv' with | plain => rfl
    subst this
    exact ⟨[], by simp, none, 0, rfl, fun h => absurd h (by simp)⟩
  · injection hv with hv _
    subst hv
    obtain ⟨xs, hx1, hx2⟩ := flat_ints els hels
    rw [hx1, ← hx2] at hv'
    refine ⟨xs, by omega, ?_⟩
    unfold fzs at hv'
    generalize hn : xs.length = n at hv'
    cases hv' with
    | plain _ hp => simp [plain, plainN] at hp
    | arr _ _ ad cap l' hs hcap hl hm =>
      subst hn
      refine ⟨_, _, rfl, fun h0 => ?_⟩
      have hsp : ad.spot = none := hs.resolve_left (by omega)
      obtain ⟨b, off, sp⟩ := ad
      simp only at hsp hm
      subst hsp
      have hl' : l' = xs.map (Value.int .i64) := by
        have := Colds.rel (μ := ⟨fun _ => none, fun b => W.heap[b]?, fun _ _ => False⟩) hl
        exact VRels.eq (ints64_plain xs) this
      subst hl'
      have hcell : ∀ i u, (xs.map (Value.int .i64))[i]? = some u → W.cell? ⟨b, off + i, none⟩ = some u := by
        intro i u h1
        have h2 := hm i _ h1
        unfold objAt at h2
        unfold World.cell?
        simp only at h2 ⊢
        cases hb : W.heap[b]? with
        | none => rw [hb] at h2; cases h2
        | some o => rw [hb] at h2; cases o <;> simp only at h2 ⊢ <;> first | exact h2 | cases h2
      have hlt : b < W.heap.size := by
        have h := hcell 0 _ (by rw [List.getElem?_map, List.getElem?_eq_getElem h0]; rfl)
        rcases Nat.lt_or_ge b W.heap.size with hh | hh
        · exact hh
        · unfold World.cell? at h; simp [Array.getElem?_eq_none hh] at h
      exact ⟨by simp, .inr ⟨b, off, cap, rfl, hlt, hcell⟩⟩
/-- A number. -/
theorem int_in {W : World} {k : IntKind} {v v' : Value} (hv : Ty.Has (.int k) [v]) (hv' : Cold (fun b => W.heap[b]?) v v') : ∃ a : Int, (Lit.int k a).wf = true ∧ v' = .int k a := by
  obtain ⟨a, ha, hw⟩ := hv
  injection ha with ha _
  subst ha
  refine ⟨a, hw, ?_⟩
  cases hv' with
  | plain => rfl
theorem nat_of {a : Int} (h : (Lit.int .u64 a).wf = true) : 0 ≤ a := by
  unfold Lit.wf at h
  rw [Bool.and_eq_true] at h
  exact of_decide_eq_true h.1
end Go.Proofs.Ytkcibhokjiciiaa.Cl
