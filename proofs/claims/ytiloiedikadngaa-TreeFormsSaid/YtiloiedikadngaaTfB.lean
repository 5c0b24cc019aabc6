/-
  The law's cases, by the machine.
-/
import Derived.Test.YtiloiedikadngaaClA
namespace Go.Proofs.Ytiloiedikadngaa.Cl
open Go Go.Cm

theorem part0 : (List.range 3).all (fun k => yes env1 100000 3 [symAt 0 21 (0 + k)] 0) = true := by kernel_rfl
theorem part1 : (List.range 3).all (fun k => yes env1 100000 3 [symAt 0 21 (3 + k)] 0) = true := by kernel_rfl
theorem part2 : (List.range 3).all (fun k => yes env1 100000 3 [symAt 0 21 (6 + k)] 0) = true := by kernel_rfl
theorem part3 : (List.range 3).all (fun k => yes env1 100000 3 [symAt 0 21 (9 + k)] 0) = true := by kernel_rfl
theorem part4 : (List.range 3).all (fun k => yes env1 100000 3 [symAt 0 21 (12 + k)] 0) = true := by kernel_rfl
theorem part5 : (List.range 3).all (fun k => yes env1 100000 3 [symAt 0 21 (15 + k)] 0) = true := by kernel_rfl
theorem part6 : (List.range 3).all (fun k => yes env1 100000 3 [symAt 0 21 (18 + k)] 0) = true := by kernel_rfl
theorem at_ (k : Nat) (hk : k < 21) : yes env1 100000 3 [symAt 0 21 k] 0 = true := by
  by_cases h0 : 0 ≤ k ∧ k < 3
  · have h := part0
    rw [List.all_eq_true] at h
    have := h (k - 0) (List.mem_range.2 (by omega))
    rwa [show 0 + (k - 0) = k by omega] at this
  by_cases h1 : 3 ≤ k ∧ k < 6
  · have h := part1
    rw [List.all_eq_true] at h
    have := h (k - 3) (List.mem_range.2 (by omega))
    rwa [show 3 + (k - 3) = k by omega] at this
  by_cases h2 : 6 ≤ k ∧ k < 9
  · have h := part2
    rw [List.all_eq_true] at h
    have := h (k - 6) (List.mem_range.2 (by omega))
    rwa [show 6 + (k - 6) = k by omega] at this
  by_cases h3 : 9 ≤ k ∧ k < 12
  · have h := part3
    rw [List.all_eq_true] at h
    have := h (k - 9) (List.mem_range.2 (by omega))
    rwa [show 9 + (k - 9) = k by omega] at this
  by_cases h4 : 12 ≤ k ∧ k < 15
  · have h := part4
    rw [List.all_eq_true] at h
    have := h (k - 12) (List.mem_range.2 (by omega))
    rwa [show 12 + (k - 12) = k by omega] at this
  by_cases h5 : 15 ≤ k ∧ k < 18
  · have h := part5
    rw [List.all_eq_true] at h
    have := h (k - 15) (List.mem_range.2 (by omega))
    rwa [show 15 + (k - 15) = k by omega] at this
  by_cases h6 : 18 ≤ k ∧ k < 21
  · have h := part6
    rw [List.all_eq_true] at h
    have := h (k - 18) (List.mem_range.2 (by omega))
    rwa [show 18 + (k - 18) = k by omega] at this
  omega
theorem forms (a0 : Int) (w : World) : Calls Try.prog 3 #[.int .i64 a0] w fun e w' => e = .returned (.bool true) ∧ Go.RowKit.Below w.heap.size w w' := by
  obtain ⟨k, hk, hr⟩ := sym_rest a0 21 (by decide) (by decide)
  exact closed made1.ok made1.coded (fun _ => rfl) (at_ k hk) (.cons _ _ _ _ (hr _) .nil) w
end Go.Proofs.Ytiloiedikadngaa.Cl
