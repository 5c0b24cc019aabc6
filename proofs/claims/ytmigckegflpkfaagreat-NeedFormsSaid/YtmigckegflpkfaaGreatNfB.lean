/-
  The law's cases, by the machine.
-/
import Derived.Test.YtmigckegflpkfaaGreatClA
namespace Go.Proofs.YtmigckegflpkfaaGreat.Cl
open Go Go.Cm

theorem part0 : (List.range 1).all (fun k => yes env1 100000 3 [symAt 0 26 (0 + k)] 1) = true := by kernel_rfl
theorem part1 : (List.range 1).all (fun k => yes env1 100000 3 [symAt 0 26 (1 + k)] 1) = true := by kernel_rfl
theorem part2 : (List.range 1).all (fun k => yes env1 100000 3 [symAt 0 26 (2 + k)] 1) = true := by kernel_rfl
theorem part3 : (List.range 1).all (fun k => yes env1 100000 3 [symAt 0 26 (3 + k)] 1) = true := by kernel_rfl
theorem part4 : (List.range 1).all (fun k => yes env1 100000 3 [symAt 0 26 (4 + k)] 1) = true := by kernel_rfl
theorem part5 : (List.range 1).all (fun k => yes env1 100000 3 [symAt 0 26 (5 + k)] 1) = true := by kernel_rfl
theorem part6 : (List.range 1).all (fun k => yes env1 100000 3 [symAt 0 26 (6 + k)] 1) = true := by kernel_rfl
theorem part7 : (List.range 1).all (fun k => yes env1 100000 3 [symAt 0 26 (7 + k)] 1) = true := by kernel_rfl
theorem part8 : (List.range 1).all (fun k => yes env1 100000 3 [symAt 0 26 (8 + k)] 1) = true := by kernel_rfl
theorem part9 : (List.range 1).all (fun k => yes env1 100000 3 [symAt 0 26 (9 + k)] 1) = true := by kernel_rfl
theorem part10 : (List.range 1).all (fun k => yes env1 100000 3 [symAt 0 26 (10 + k)] 1) = true := by kernel_rfl
theorem part11 : (List.range 1).all (fun k => yes env1 100000 3 [symAt 0 26 (11 + k)] 1) = true := by kernel_rfl
theorem part12 : (List.range 1).all (fun k => yes env1 100000 3 [symAt 0 26 (12 + k)] 1) = true := by kernel_rfl
theorem part13 : (List.range 1).all (fun k => yes env1 100000 3 [symAt 0 26 (13 + k)] 1) = true := by kernel_rfl
theorem part14 : (List.range 1).all (fun k => yes env1 100000 3 [symAt 0 26 (14 + k)] 1) = true := by kernel_rfl
theorem part15 : (List.range 1).all (fun k => yes env1 100000 3 [symAt 0 26 (15 + k)] 1) = true := by kernel_rfl
theorem part16 : (List.range 1).all (fun k => yes env1 100000 3 [symAt 0 26 (16 + k)] 1) = true := by kernel_rfl
theorem part17 : (List.range 1).all (fun k => yes env1 100000 3 [symAt 0 26 (17 + k)] 1) = true := by kernel_rfl
theorem part18 : (List.range 1).all (fun k => yes env1 100000 3 [symAt 0 26 (18 + k)] 1) = true := by kernel_rfl
theorem part19 : (List.range 1).all (fun k => yes env1 100000 3 [symAt 0 26 (19 + k)] 1) = true := by kernel_rfl
theorem part20 : (List.range 1).all (fun k => yes env1 100000 3 [symAt 0 26 (20 + k)] 1) = true := by kernel_rfl
theorem part21 : (List.range 1).all (fun k => yes env1 100000 3 [symAt 0 26 (21 + k)] 1) = true := by kernel_rfl
theorem part22 : (List.range 1).all (fun k => yes env1 100000 3 [symAt 0 26 (22 + k)] 1) = true := by kernel_rfl
theorem part23 : (List.range 1).all (fun k => yes env1 100000 3 [symAt 0 26 (23 + k)] 1) = true := by kernel_rfl
theorem part24 : (List.range 1).all (fun k => yes env1 100000 3 [symAt 0 26 (24 + k)] 1) = true := by kernel_rfl
theorem part25 : (List.range 1).all (fun k => yes env1 100000 3 [symAt 0 26 (25 + k)] 1) = true := by kernel_rfl
theorem at_ (k : Nat) (hk : k < 26) : yes env1 100000 3 [symAt 0 26 k] 1 = true := by
  by_cases h0 : 0 ≤ k ∧ k < 1
  · have h := part0
    rw [List.all_eq_true] at h
    have := h (k - 0) (List.mem_range.2 (by omega))
    rwa [show 0 + (k - 0) = k by omega] at this
  by_cases h1 : 1 ≤ k ∧ k < 2
  · have h := part1
    rw [List.all_eq_true] at h
    have := h (k - 1) (List.mem_range.2 (by omega))
    rwa [show 1 + (k - 1) = k by omega] at this
  by_cases h2 : 2 ≤ k ∧ k < 3
  · have h := part2
    rw [List.all_eq_true] at h
    have := h (k - 2) (List.mem_range.2 (by omega))
    rwa [show 2 + (k - 2) = k by omega] at this
  by_cases h3 : 3 ≤ k ∧ k < 4
  · have h := part3
    rw [List.all_eq_true] at h
    have := h (k - 3) (List.mem_range.2 (by omega))
    rwa [show 3 + (k - 3) = k by omega] at this
  by_cases h4 : 4 ≤ k ∧ k < 5
  · have h := part4
    rw [List.all_eq_true] at h
    have := h (k - 4) (List.mem_range.2 (by omega))
    rwa [show 4 + (k - 4) = k by omega] at this
  by_cases h5 : 5 ≤ k ∧ k < 6
  · have h := part5
    rw [List.all_eq_true] at h
    have := h (k - 5) (List.mem_range.2 (by omega))
    rwa [show 5 + (k - 5) = k by omega] at this
  by_cases h6 : 6 ≤ k ∧ k < 7
  · have h := part6
    rw [List.all_eq_true] at h
    have := h (k - 6) (List.mem_range.2 (by omega))
    rwa [show 6 + (k - 6) = k by omega] at this
  by_cases h7 : 7 ≤ k ∧ k < 8
  · have h := part7
    rw [List.all_eq_true] at h
    have := h (k - 7) (List.mem_range.2 (by omega))
    rwa [show 7 + (k - 7) = k by omega] at this
  by_cases h8 : 8 ≤ k ∧ k < 9
  · have h := part8
    rw [List.all_eq_true] at h
    have := h (k - 8) (List.mem_range.2 (by omega))
    rwa [show 8 + (k - 8) = k by omega] at this
  by_cases h9 : 9 ≤ k ∧ k < 10
  · have h := part9
    rw [List.all_eq_true] at h
    have := h (k - 9) (List.mem_range.2 (by omega))
    rwa [show 9 + (k - 9) = k by omega] at this
  by_cases h10 : 10 ≤ k ∧ k < 11
  · have h := part10
    rw [List.all_eq_true] at h
    have := h (k - 10) (List.mem_range.2 (by omega))
    rwa [show 10 + (k - 10) = k by omega] at this
  by_cases h11 : 11 ≤ k ∧ k < 12
  · have h := part11
    rw [List.all_eq_true] at h
    have := h (k - 11) (List.mem_range.2 (by omega))
    rwa [show 11 + (k - 11) = k by omega] at this
  by_cases h12 : 12 ≤ k ∧ k < 13
  · have h := part12
    rw [List.all_eq_true] at h
    have := h (k - 12) (List.mem_range.2 (by omega))
    rwa [show 12 + (k - 12) = k by omega] at this
  by_cases h13 : 13 ≤ k ∧ k < 14
  · have h := part13
    rw [List.all_eq_true] at h
    have := h (k - 13) (List.mem_range.2 (by omega))
    rwa [show 13 + (k - 13) = k by omega] at this
  by_cases h14 : 14 ≤ k ∧ k < 15
  · have h := part14
    rw [List.all_eq_true] at h
    have := h (k - 14) (List.mem_range.2 (by omega))
    rwa [show 14 + (k - 14) = k by omega] at this
  by_cases h15 : 15 ≤ k ∧ k < 16
  · have h := part15
    rw [List.all_eq_true] at h
    have := h (k - 15) (List.mem_range.2 (by omega))
    rwa [show 15 + (k - 15) = k by omega] at this
  by_cases h16 : 16 ≤ k ∧ k < 17
  · have h := part16
    rw [List.all_eq_true] at h
    have := h (k - 16) (List.mem_range.2 (by omega))
    rwa [show 16 + (k - 16) = k by omega] at this
  by_cases h17 : 17 ≤ k ∧ k < 18
  · have h := part17
    rw [List.all_eq_true] at h
    have := h (k - 17) (List.mem_range.2 (by omega))
    rwa [show 17 + (k - 17) = k by omega] at this
  by_cases h18 : 18 ≤ k ∧ k < 19
  · have h := part18
    rw [List.all_eq_true] at h
    have := h (k - 18) (List.mem_range.2 (by omega))
    rwa [show 18 + (k - 18) = k by omega] at this
  by_cases h19 : 19 ≤ k ∧ k < 20
  · have h := part19
    rw [List.all_eq_true] at h
    have := h (k - 19) (List.mem_range.2 (by omega))
    rwa [show 19 + (k - 19) = k by omega] at this
  by_cases h20 : 20 ≤ k ∧ k < 21
  · have h := part20
    rw [List.all_eq_true] at h
    have := h (k - 20) (List.mem_range.2 (by omega))
    rwa [show 20 + (k - 20) = k by omega] at this
  by_cases h21 : 21 ≤ k ∧ k < 22
  · have h := part21
    rw [List.all_eq_true] at h
    have := h (k - 21) (List.mem_range.2 (by omega))
    rwa [show 21 + (k - 21) = k by omega] at this
  by_cases h22 : 22 ≤ k ∧ k < 23
  · have h := part22
    rw [List.all_eq_true] at h
    have := h (k - 22) (List.mem_range.2 (by omega))
    rwa [show 22 + (k - 22) = k by omega] at this
  by_cases h23 : 23 ≤ k ∧ k < 24
  · have h := part23
    rw [List.all_eq_true] at h
    have := h (k - 23) (List.mem_range.2 (by omega))
    rwa [show 23 + (k - 23) = k by omega] at this
  by_cases h24 : 24 ≤ k ∧ k < 25
  · have h := part24
    rw [List.all_eq_true] at h
    have := h (k - 24) (List.mem_range.2 (by omega))
    rwa [show 24 + (k - 24) = k by omega] at this
  by_cases h25 : 25 ≤ k ∧ k < 26
  · have h := part25
    rw [List.all_eq_true] at h
    have := h (k - 25) (List.mem_range.2 (by omega))
    rwa [show 25 + (k - 25) = k by omega] at this
  omega
theorem forms (a0 : Int) (w : World) : Calls Tryz.prog 3 #[.int .i64 a0] w fun e w' => e = .returned (.bool true) ∧ Go.RowKit.Below w.heap.size w w' := by
  obtain ⟨k, hk, hr⟩ := sym_rest a0 26 (by decide) (by decide)
  exact closedAt made1.ok made1.coded (fun _ h => blt_lt0 h) (at_ k hk) (.cons _ _ _ _ (hr _) .nil) w
end Go.Proofs.YtmigckegflpkfaaGreat.Cl
