/-
  The law's cases, by the machine.
-/
import Derived.Test.YtaoejkpamgoniaaDoorClA
namespace Go.Proofs.YtaoejkpamgoniaaDoor.Cl
open Go Go.Cm

theorem part0 : (List.range 4).all (fun k => yes env1 100000 3 [symAt 0 39 (0 + k)] 7) = true := by kernel_rfl
theorem part1 : (List.range 4).all (fun k => yes env1 100000 3 [symAt 0 39 (4 + k)] 7) = true := by kernel_rfl
theorem part2 : (List.range 4).all (fun k => yes env1 100000 3 [symAt 0 39 (8 + k)] 7) = true := by kernel_rfl
theorem part3 : (List.range 4).all (fun k => yes env1 100000 3 [symAt 0 39 (12 + k)] 7) = true := by kernel_rfl
theorem part4 : (List.range 4).all (fun k => yes env1 100000 3 [symAt 0 39 (16 + k)] 7) = true := by kernel_rfl
theorem part5 : (List.range 4).all (fun k => yes env1 100000 3 [symAt 0 39 (20 + k)] 7) = true := by kernel_rfl
theorem part6 : (List.range 4).all (fun k => yes env1 100000 3 [symAt 0 39 (24 + k)] 7) = true := by kernel_rfl
theorem part7 : (List.range 4).all (fun k => yes env1 100000 3 [symAt 0 39 (28 + k)] 7) = true := by kernel_rfl
theorem part8 : (List.range 4).all (fun k => yes env1 100000 3 [symAt 0 39 (32 + k)] 7) = true := by kernel_rfl
theorem part9 : (List.range 3).all (fun k => yes env1 100000 3 [symAt 0 39 (36 + k)] 7) = true := by kernel_rfl
theorem at_ (k : Nat) (hk : k < 39) : yes env1 100000 3 [symAt 0 39 k] 7 = true := by
  by_cases h0 : 0 ≤ k ∧ k < 4
  · have h := part0
    rw [List.all_eq_true] at h
    have := h (k - 0) (List.mem_range.2 (by omega))
    rwa [show 0 + (k - 0) = k by omega] at this
  by_cases h1 : 4 ≤ k ∧ k < 8
  · have h := part1
    rw [List.all_eq_true] at h
    have := h (k - 4) (List.mem_range.2 (by omega))
    rwa [show 4 + (k - 4) = k by omega] at this
  by_cases h2 : 8 ≤ k ∧ k < 12
  · have h := part2
    rw [List.all_eq_true] at h
    have := h (k - 8) (List.mem_range.2 (by omega))
    rwa [show 8 + (k - 8) = k by omega] at this
  by_cases h3 : 12 ≤ k ∧ k < 16
  · have h := part3
    rw [List.all_eq_true] at h
    have := h (k - 12) (List.mem_range.2 (by omega))
    rwa [show 12 + (k - 12) = k by omega] at this
  by_cases h4 : 16 ≤ k ∧ k < 20
  · have h := part4
    rw [List.all_eq_true] at h
    have := h (k - 16) (List.mem_range.2 (by omega))
    rwa [show 16 + (k - 16) = k by omega] at this
  by_cases h5 : 20 ≤ k ∧ k < 24
  · have h := part5
    rw [List.all_eq_true] at h
    have := h (k - 20) (List.mem_range.2 (by omega))
    rwa [show 20 + (k - 20) = k by omega] at this
  by_cases h6 : 24 ≤ k ∧ k < 28
  · have h := part6
    rw [List.all_eq_true] at h
    have := h (k - 24) (List.mem_range.2 (by omega))
    rwa [show 24 + (k - 24) = k by omega] at this
  by_cases h7 : 28 ≤ k ∧ k < 32
  · have h := part7
    rw [List.all_eq_true] at h
    have := h (k - 28) (List.mem_range.2 (by omega))
    rwa [show 28 + (k - 28) = k by omega] at this
  by_cases h8 : 32 ≤ k ∧ k < 36
  · have h := part8
    rw [List.all_eq_true] at h
    have := h (k - 32) (List.mem_range.2 (by omega))
    rwa [show 32 + (k - 32) = k by omega] at this
  by_cases h9 : 36 ≤ k ∧ k < 39
  · have h := part9
    rw [List.all_eq_true] at h
    have := h (k - 36) (List.mem_range.2 (by omega))
    rwa [show 36 + (k - 36) = k by omega] at this
  omega
theorem forms (a0 : Int) (w : World) : Calls Tryd.prog 3 #[.int .i64 a0] w fun e w' => e = .returned (.bool true) ∧ Go.RowKit.Below w.heap.size w w' := by
  obtain ⟨k, hk, hr⟩ := sym_rest a0 39 (by decide) (by decide)
  exact closedAt made1.ok made1.coded (fun _ h => blt_lt0 h) (at_ k hk) (.cons _ _ _ _ (hr _) .nil) w
end Go.Proofs.YtaoejkpamgoniaaDoor.Cl
