/-
  The law's cases, by the machine: what is not known are tokens.
-/
import Derived.Test.YtinjjlelliedpaaGreatNlB
namespace Go.Proofs.YtinjjlelliedpaaGreat.Cl
open Go Go.Cm
noncomputable def toks (n : Nat) : List Value := (List.range n).map tok
theorem s1_0 (β : Int) (hβ : β = 0 ∨ β = 1) (c : Nat) (x : Nat → Int) : yesR (envL 0 β x) 1000 100 3 [.slice (some ⟨1, 0, none⟩) 1 c, symAt 0 1 0] (.cells true 1 (toks 1)) = true := by rcases hβ with rfl | rfl <;> kernel_rfl
theorem s2_0 (β : Int) (hβ : β = 0 ∨ β = 1) (c : Nat) (x : Nat → Int) : yesR (envL 0 β x) 1000 100 3 [.slice (some ⟨1, 0, none⟩) 2 c, symAt 0 2 0] (.cells true 1 (toks 2)) = true := by rcases hβ with rfl | rfl <;> kernel_rfl
theorem s2_1 (β : Int) (hβ : β = 0 ∨ β = 1) (c : Nat) (x : Nat → Int) : yesR (envL 1 β x) 1000 100 3 [.slice (some ⟨1, 0, none⟩) 2 c, symAt 0 2 1] (.cells true 1 (toks 2)) = true := by rcases hβ with rfl | rfl <;> kernel_rfl
theorem s3_0 (β : Int) (hβ : β = 0 ∨ β = 1) (c : Nat) (x : Nat → Int) : yesR (envL 0 β x) 1000 100 3 [.slice (some ⟨1, 0, none⟩) 3 c, symAt 0 3 0] (.cells true 1 (toks 3)) = true := by rcases hβ with rfl | rfl <;> kernel_rfl
theorem s3_1 (β : Int) (hβ : β = 0 ∨ β = 1) (c : Nat) (x : Nat → Int) : yesR (envL 1 β x) 1000 100 3 [.slice (some ⟨1, 0, none⟩) 3 c, symAt 0 3 1] (.cells true 1 (toks 3)) = true := by rcases hβ with rfl | rfl <;> kernel_rfl
theorem s3_2 (β : Int) (hβ : β = 0 ∨ β = 1) (c : Nat) (x : Nat → Int) : yesR (envL 2 β x) 1000 100 3 [.slice (some ⟨1, 0, none⟩) 3 c, symAt 0 3 2] (.cells true 1 (toks 3)) = true := by rcases hβ with rfl | rfl <;> kernel_rfl
theorem s4_0 (β : Int) (hβ : β = 0 ∨ β = 1) (c : Nat) (x : Nat → Int) : yesR (envL 0 β x) 1000 100 3 [.slice (some ⟨1, 0, none⟩) 4 c, symAt 0 4 0] (.cells true 1 (toks 4)) = true := by rcases hβ with rfl | rfl <;> kernel_rfl
theorem s4_1 (β : Int) (hβ : β = 0 ∨ β = 1) (c : Nat) (x : Nat → Int) : yesR (envL 1 β x) 1000 100 3 [.slice (some ⟨1, 0, none⟩) 4 c, symAt 0 4 1] (.cells true 1 (toks 4)) = true := by rcases hβ with rfl | rfl <;> kernel_rfl
theorem s4_2 (β : Int) (hβ : β = 0 ∨ β = 1) (c : Nat) (x : Nat → Int) : yesR (envL 2 β x) 1000 100 3 [.slice (some ⟨1, 0, none⟩) 4 c, symAt 0 4 2] (.cells true 1 (toks 4)) = true := by rcases hβ with rfl | rfl <;> kernel_rfl
theorem s4_3 (β : Int) (hβ : β = 0 ∨ β = 1) (c : Nat) (x : Nat → Int) : yesR (envL 3 β x) 1000 100 3 [.slice (some ⟨1, 0, none⟩) 4 c, symAt 0 4 3] (.cells true 1 (toks 4)) = true := by rcases hβ with rfl | rfl <;> kernel_rfl
theorem s5_0 (β : Int) (hβ : β = 0 ∨ β = 1) (c : Nat) (x : Nat → Int) : yesR (envL 0 β x) 1000 100 3 [.slice (some ⟨1, 0, none⟩) 5 c, symAt 0 5 0] (.cells true 1 (toks 5)) = true := by rcases hβ with rfl | rfl <;> kernel_rfl
theorem s5_1 (β : Int) (hβ : β = 0 ∨ β = 1) (c : Nat) (x : Nat → Int) : yesR (envL 1 β x) 1000 100 3 [.slice (some ⟨1, 0, none⟩) 5 c, symAt 0 5 1] (.cells true 1 (toks 5)) = true := by rcases hβ with rfl | rfl <;> kernel_rfl
theorem s5_2 (β : Int) (hβ : β = 0 ∨ β = 1) (c : Nat) (x : Nat → Int) : yesR (envL 2 β x) 1000 100 3 [.slice (some ⟨1, 0, none⟩) 5 c, symAt 0 5 2] (.cells true 1 (toks 5)) = true := by rcases hβ with rfl | rfl <;> kernel_rfl
theorem s5_3 (β : Int) (hβ : β = 0 ∨ β = 1) (c : Nat) (x : Nat → Int) : yesR (envL 3 β x) 1000 100 3 [.slice (some ⟨1, 0, none⟩) 5 c, symAt 0 5 3] (.cells true 1 (toks 5)) = true := by rcases hβ with rfl | rfl <;> kernel_rfl
theorem s5_4 (β : Int) (hβ : β = 0 ∨ β = 1) (c : Nat) (x : Nat → Int) : yesR (envL 4 β x) 1000 100 3 [.slice (some ⟨1, 0, none⟩) 5 c, symAt 0 5 4] (.cells true 1 (toks 5)) = true := by rcases hβ with rfl | rfl <;> kernel_rfl
theorem s6_0 (β : Int) (hβ : β = 0 ∨ β = 1) (c : Nat) (x : Nat → Int) : yesR (envL 0 β x) 1000 100 3 [.slice (some ⟨1, 0, none⟩) 6 c, symAt 0 6 0] (.cells true 1 (toks 6)) = true := by rcases hβ with rfl | rfl <;> kernel_rfl
theorem s6_1 (β : Int) (hβ : β = 0 ∨ β = 1) (c : Nat) (x : Nat → Int) : yesR (envL 1 β x) 1000 100 3 [.slice (some ⟨1, 0, none⟩) 6 c, symAt 0 6 1] (.cells true 1 (toks 6)) = true := by rcases hβ with rfl | rfl <;> kernel_rfl
theorem s6_2 (β : Int) (hβ : β = 0 ∨ β = 1) (c : Nat) (x : Nat → Int) : yesR (envL 2 β x) 1000 100 3 [.slice (some ⟨1, 0, none⟩) 6 c, symAt 0 6 2] (.cells true 1 (toks 6)) = true := by rcases hβ with rfl | rfl <;> kernel_rfl
theorem s6_3 (β : Int) (hβ : β = 0 ∨ β = 1) (c : Nat) (x : Nat → Int) : yesR (envL 3 β x) 1000 100 3 [.slice (some ⟨1, 0, none⟩) 6 c, symAt 0 6 3] (.cells true 1 (toks 6)) = true := by rcases hβ with rfl | rfl <;> kernel_rfl
theorem s6_4 (β : Int) (hβ : β = 0 ∨ β = 1) (c : Nat) (x : Nat → Int) : yesR (envL 4 β x) 1000 100 3 [.slice (some ⟨1, 0, none⟩) 6 c, symAt 0 6 4] (.cells true 1 (toks 6)) = true := by rcases hβ with rfl | rfl <;> kernel_rfl
theorem s6_5 (β : Int) (hβ : β = 0 ∨ β = 1) (c : Nat) (x : Nat → Int) : yesR (envL 5 β x) 1000 100 3 [.slice (some ⟨1, 0, none⟩) 6 c, symAt 0 6 5] (.cells true 1 (toks 6)) = true := by rcases hβ with rfl | rfl <;> kernel_rfl
theorem s7_0 (β : Int) (hβ : β = 0 ∨ β = 1) (c : Nat) (x : Nat → Int) : yesR (envL 0 β x) 1000 100 3 [.slice (some ⟨1, 0, none⟩) 7 c, symAt 0 7 0] (.cells true 1 (toks 7)) = true := by rcases hβ with rfl | rfl <;> kernel_rfl
theorem s7_1 (β : Int) (hβ : β = 0 ∨ β = 1) (c : Nat) (x : Nat → Int) : yesR (envL 1 β x) 1000 100 3 [.slice (some ⟨1, 0, none⟩) 7 c, symAt 0 7 1] (.cells true 1 (toks 7)) = true := by rcases hβ with rfl | rfl <;> kernel_rfl
theorem s7_2 (β : Int) (hβ : β = 0 ∨ β = 1) (c : Nat) (x : Nat → Int) : yesR (envL 2 β x) 1000 100 3 [.slice (some ⟨1, 0, none⟩) 7 c, symAt 0 7 2] (.cells true 1 (toks 7)) = true := by rcases hβ with rfl | rfl <;> kernel_rfl
theorem s7_3 (β : Int) (hβ : β = 0 ∨ β = 1) (c : Nat) (x : Nat → Int) : yesR (envL 3 β x) 1000 100 3 [.slice (some ⟨1, 0, none⟩) 7 c, symAt 0 7 3] (.cells true 1 (toks 7)) = true := by rcases hβ with rfl | rfl <;> kernel_rfl
theorem s7_4 (β : Int) (hβ : β = 0 ∨ β = 1) (c : Nat) (x : Nat → Int) : yesR (envL 4 β x) 1000 100 3 [.slice (some ⟨1, 0, none⟩) 7 c, symAt 0 7 4] (.cells true 1 (toks 7)) = true := by rcases hβ with rfl | rfl <;> kernel_rfl
theorem s7_5 (β : Int) (hβ : β = 0 ∨ β = 1) (c : Nat) (x : Nat → Int) : yesR (envL 5 β x) 1000 100 3 [.slice (some ⟨1, 0, none⟩) 7 c, symAt 0 7 5] (.cells true 1 (toks 7)) = true := by rcases hβ with rfl | rfl <;> kernel_rfl
theorem s7_6 (β : Int) (hβ : β = 0 ∨ β = 1) (c : Nat) (x : Nat → Int) : yesR (envL 6 β x) 1000 100 3 [.slice (some ⟨1, 0, none⟩) 7 c, symAt 0 7 6] (.cells true 1 (toks 7)) = true := by rcases hβ with rfl | rfl <;> kernel_rfl
theorem s8_0 (β : Int) (hβ : β = 0 ∨ β = 1) (c : Nat) (x : Nat → Int) : yesR (envL 0 β x) 1000 100 3 [.slice (some ⟨1, 0, none⟩) 8 c, symAt 0 8 0] (.cells true 1 (toks 8)) = true := by rcases hβ with rfl | rfl <;> kernel_rfl
theorem s8_1 (β : Int) (hβ : β = 0 ∨ β = 1) (c : Nat) (x : Nat → Int) : yesR (envL 1 β x) 1000 100 3 [.slice (some ⟨1, 0, none⟩) 8 c, symAt 0 8 1] (.cells true 1 (toks 8)) = true := by rcases hβ with rfl | rfl <;> kernel_rfl
theorem s8_2 (β : Int) (hβ : β = 0 ∨ β = 1) (c : Nat) (x : Nat → Int) : yesR (envL 2 β x) 1000 100 3 [.slice (some ⟨1, 0, none⟩) 8 c, symAt 0 8 2] (.cells true 1 (toks 8)) = true := by rcases hβ with rfl | rfl <;> kernel_rfl
theorem s8_3 (β : Int) (hβ : β = 0 ∨ β = 1) (c : Nat) (x : Nat → Int) : yesR (envL 3 β x) 1000 100 3 [.slice (some ⟨1, 0, none⟩) 8 c, symAt 0 8 3] (.cells true 1 (toks 8)) = true := by rcases hβ with rfl | rfl <;> kernel_rfl
theorem s8_4 (β : Int) (hβ : β = 0 ∨ β = 1) (c : Nat) (x : Nat → Int) : yesR (envL 4 β x) 1000 100 3 [.slice (some ⟨1, 0, none⟩) 8 c, symAt 0 8 4] (.cells true 1 (toks 8)) = true := by rcases hβ with rfl | rfl <;> kernel_rfl
theorem s8_5 (β : Int) (hβ : β = 0 ∨ β = 1) (c : Nat) (x : Nat → Int) : yesR (envL 5 β x) 1000 100 3 [.slice (some ⟨1, 0, none⟩) 8 c, symAt 0 8 5] (.cells true 1 (toks 8)) = true := by rcases hβ with rfl | rfl <;> kernel_rfl
theorem s8_6 (β : Int) (hβ : β = 0 ∨ β = 1) (c : Nat) (x : Nat → Int) : yesR (envL 6 β x) 1000 100 3 [.slice (some ⟨1, 0, none⟩) 8 c, symAt 0 8 6] (.cells true 1 (toks 8)) = true := by rcases hβ with rfl | rfl <;> kernel_rfl
theorem s8_7 (β : Int) (hβ : β = 0 ∨ β = 1) (c : Nat) (x : Nat → Int) : yesR (envL 7 β x) 1000 100 3 [.slice (some ⟨1, 0, none⟩) 8 c, symAt 0 8 7] (.cells true 1 (toks 8)) = true := by rcases hβ with rfl | rfl <;> kernel_rfl
theorem s9_0 (β : Int) (hβ : β = 0 ∨ β = 1) (c : Nat) (x : Nat → Int) : yesR (envL 0 β x) 1000 100 3 [.slice (some ⟨1, 0, none⟩) 9 c, symAt 0 9 0] (.cells true 1 (toks 9)) = true := by rcases hβ with rfl | rfl <;> kernel_rfl
theorem s9_1 (β : Int) (hβ : β = 0 ∨ β = 1) (c : Nat) (x : Nat → Int) : yesR (envL 1 β x) 1000 100 3 [.slice (some ⟨1, 0, none⟩) 9 c, symAt 0 9 1] (.cells true 1 (toks 9)) = true := by rcases hβ with rfl | rfl <;> kernel_rfl
theorem s9_2 (β : Int) (hβ : β = 0 ∨ β = 1) (c : Nat) (x : Nat → Int) : yesR (envL 2 β x) 1000 100 3 [.slice (some ⟨1, 0, none⟩) 9 c, symAt 0 9 2] (.cells true 1 (toks 9)) = true := by rcases hβ with rfl | rfl <;> kernel_rfl
theorem s9_3 (β : Int) (hβ : β = 0 ∨ β = 1) (c : Nat) (x : Nat → Int) : yesR (envL 3 β x) 1000 100 3 [.slice (some ⟨1, 0, none⟩) 9 c, symAt 0 9 3] (.cells true 1 (toks 9)) = true := by rcases hβ with rfl | rfl <;> kernel_rfl
theorem s9_4 (β : Int) (hβ : β = 0 ∨ β = 1) (c : Nat) (x : Nat → Int) : yesR (envL 4 β x) 1000 100 3 [.slice (some ⟨1, 0, none⟩) 9 c, symAt 0 9 4] (.cells true 1 (toks 9)) = true := by rcases hβ with rfl | rfl <;> kernel_rfl
theorem s9_5 (β : Int) (hβ : β = 0 ∨ β = 1) (c : Nat) (x : Nat → Int) : yesR (envL 5 β x) 1000 100 3 [.slice (some ⟨1, 0, none⟩) 9 c, symAt 0 9 5] (.cells true 1 (toks 9)) = true := by rcases hβ with rfl | rfl <;> kernel_rfl
theorem s9_6 (β : Int) (hβ : β = 0 ∨ β = 1) (c : Nat) (x : Nat → Int) : yesR (envL 6 β x) 1000 100 3 [.slice (some ⟨1, 0, none⟩) 9 c, symAt 0 9 6] (.cells true 1 (toks 9)) = true := by rcases hβ with rfl | rfl <;> kernel_rfl
theorem s9_7 (β : Int) (hβ : β = 0 ∨ β = 1) (c : Nat) (x : Nat → Int) : yesR (envL 7 β x) 1000 100 3 [.slice (some ⟨1, 0, none⟩) 9 c, symAt 0 9 7] (.cells true 1 (toks 9)) = true := by rcases hβ with rfl | rfl <;> kernel_rfl
theorem s9_8 (β : Int) (hβ : β = 0 ∨ β = 1) (c : Nat) (x : Nat → Int) : yesR (envL 8 β x) 1000 100 3 [.slice (some ⟨1, 0, none⟩) 9 c, symAt 0 9 8] (.cells true 1 (toks 9)) = true := by rcases hβ with rfl | rfl <;> kernel_rfl
theorem s10_0 (β : Int) (hβ : β = 0 ∨ β = 1) (c : Nat) (x : Nat → Int) : yesR (envL 0 β x) 1000 100 3 [.slice (some ⟨1, 0, none⟩) 10 c, symAt 0 10 0] (.cells true 1 (toks 10)) = true := by rcases hβ with rfl | rfl <;> kernel_rfl
theorem s10_1 (β : Int) (hβ : β = 0 ∨ β = 1) (c : Nat) (x : Nat → Int) : yesR (envL 1 β x) 1000 100 3 [.slice (some ⟨1, 0, none⟩) 10 c, symAt 0 10 1] (.cells true 1 (toks 10)) = true := by rcases hβ with rfl | rfl <;> kernel_rfl
theorem s10_2 (β : Int) (hβ : β = 0 ∨ β = 1) (c : Nat) (x : Nat → Int) : yesR (envL 2 β x) 1000 100 3 [.slice (some ⟨1, 0, none⟩) 10 c, symAt 0 10 2] (.cells true 1 (toks 10)) = true := by rcases hβ with rfl | rfl <;> kernel_rfl
theorem s10_3 (β : Int) (hβ : β = 0 ∨ β = 1) (c : Nat) (x : Nat → Int) : yesR (envL 3 β x) 1000 100 3 [.slice (some ⟨1, 0, none⟩) 10 c, symAt 0 10 3] (.cells true 1 (toks 10)) = true := by rcases hβ with rfl | rfl <;> kernel_rfl
theorem s10_4 (β : Int) (hβ : β = 0 ∨ β = 1) (c : Nat) (x : Nat → Int) : yesR (envL 4 β x) 1000 100 3 [.slice (some ⟨1, 0, none⟩) 10 c, symAt 0 10 4] (.cells true 1 (toks 10)) = true := by rcases hβ with rfl | rfl <;> kernel_rfl
theorem s10_5 (β : Int) (hβ : β = 0 ∨ β = 1) (c : Nat) (x : Nat → Int) : yesR (envL 5 β x) 1000 100 3 [.slice (some ⟨1, 0, none⟩) 10 c, symAt 0 10 5] (.cells true 1 (toks 10)) = true := by rcases hβ with rfl | rfl <;> kernel_rfl
theorem s10_6 (β : Int) (hβ : β = 0 ∨ β = 1) (c : Nat) (x : Nat → Int) : yesR (envL 6 β x) 1000 100 3 [.slice (some ⟨1, 0, none⟩) 10 c, symAt 0 10 6] (.cells true 1 (toks 10)) = true := by rcases hβ with rfl | rfl <;> kernel_rfl
theorem s10_7 (β : Int) (hβ : β = 0 ∨ β = 1) (c : Nat) (x : Nat → Int) : yesR (envL 7 β x) 1000 100 3 [.slice (some ⟨1, 0, none⟩) 10 c, symAt 0 10 7] (.cells true 1 (toks 10)) = true := by rcases hβ with rfl | rfl <;> kernel_rfl
theorem s10_8 (β : Int) (hβ : β = 0 ∨ β = 1) (c : Nat) (x : Nat → Int) : yesR (envL 8 β x) 1000 100 3 [.slice (some ⟨1, 0, none⟩) 10 c, symAt 0 10 8] (.cells true 1 (toks 10)) = true := by rcases hβ with rfl | rfl <;> kernel_rfl
theorem s10_9 (β : Int) (hβ : β = 0 ∨ β = 1) (c : Nat) (x : Nat → Int) : yesR (envL 9 β x) 1000 100 3 [.slice (some ⟨1, 0, none⟩) 10 c, symAt 0 10 9] (.cells true 1 (toks 10)) = true := by rcases hβ with rfl | rfl <;> kernel_rfl
theorem l_0 (β : Int) (hβ : β = 0 ∨ β = 1) (m c : Nat) (x : Nat → Int) : yesR (envL 0 β x) 1000 100 3 [.slice (some ⟨1, 0, none⟩) (m + 11) c, symAt 0 10 0] (.cells true 1 (toks 10)) = true := by rcases hβ with rfl | rfl <;> kernel_rfl
theorem l_1 (β : Int) (hβ : β = 0 ∨ β = 1) (m c : Nat) (x : Nat → Int) : yesR (envL 1 β x) 1000 100 3 [.slice (some ⟨1, 0, none⟩) (m + 11) c, symAt 0 10 1] (.cells true 1 (toks 10)) = true := by rcases hβ with rfl | rfl <;> kernel_rfl
theorem l_2 (β : Int) (hβ : β = 0 ∨ β = 1) (m c : Nat) (x : Nat → Int) : yesR (envL 2 β x) 1000 100 3 [.slice (some ⟨1, 0, none⟩) (m + 11) c, symAt 0 10 2] (.cells true 1 (toks 10)) = true := by rcases hβ with rfl | rfl <;> kernel_rfl
theorem l_3 (β : Int) (hβ : β = 0 ∨ β = 1) (m c : Nat) (x : Nat → Int) : yesR (envL 3 β x) 1000 100 3 [.slice (some ⟨1, 0, none⟩) (m + 11) c, symAt 0 10 3] (.cells true 1 (toks 10)) = true := by rcases hβ with rfl | rfl <;> kernel_rfl
theorem l_4 (β : Int) (hβ : β = 0 ∨ β = 1) (m c : Nat) (x : Nat → Int) : yesR (envL 4 β x) 1000 100 3 [.slice (some ⟨1, 0, none⟩) (m + 11) c, symAt 0 10 4] (.cells true 1 (toks 10)) = true := by rcases hβ with rfl | rfl <;> kernel_rfl
theorem l_5 (β : Int) (hβ : β = 0 ∨ β = 1) (m c : Nat) (x : Nat → Int) : yesR (envL 5 β x) 1000 100 3 [.slice (some ⟨1, 0, none⟩) (m + 11) c, symAt 0 10 5] (.cells true 1 (toks 10)) = true := by rcases hβ with rfl | rfl <;> kernel_rfl
theorem l_6 (β : Int) (hβ : β = 0 ∨ β = 1) (m c : Nat) (x : Nat → Int) : yesR (envL 6 β x) 1000 100 3 [.slice (some ⟨1, 0, none⟩) (m + 11) c, symAt 0 10 6] (.cells true 1 (toks 10)) = true := by rcases hβ with rfl | rfl <;> kernel_rfl
theorem l_7 (β : Int) (hβ : β = 0 ∨ β = 1) (m c : Nat) (x : Nat → Int) : yesR (envL 7 β x) 1000 100 3 [.slice (some ⟨1, 0, none⟩) (m + 11) c, symAt 0 10 7] (.cells true 1 (toks 10)) = true := by rcases hβ with rfl | rfl <;> kernel_rfl
theorem l_8 (β : Int) (hβ : β = 0 ∨ β = 1) (m c : Nat) (x : Nat → Int) : yesR (envL 8 β x) 1000 100 3 [.slice (some ⟨1, 0, none⟩) (m + 11) c, symAt 0 10 8] (.cells true 1 (toks 10)) = true := by rcases hβ with rfl | rfl <;> kernel_rfl
theorem l_9 (β : Int) (hβ : β = 0 ∨ β = 1) (m c : Nat) (x : Nat → Int) : yesR (envL 9 β x) 1000 100 3 [.slice (some ⟨1, 0, none⟩) (m + 11) c, symAt 0 10 9] (.cells true 1 (toks 10)) = true := by rcases hβ with rfl | rfl <;> kernel_rfl
theorem s1 : ∀ k, k < 1 → ∀ β : Int, β = 0 ∨ β = 1 → ∀ (c : Nat) (x : Nat → Int), yesR (envL k β x) 1000 100 3 [.slice (some ⟨1, 0, none⟩) 1 c, symAt 0 1 k] (.cells true 1 (toks 1)) = true
  | 0, _ => s1_0
  | k + 1, h => by omega
theorem s2 : ∀ k, k < 2 → ∀ β : Int, β = 0 ∨ β = 1 → ∀ (c : Nat) (x : Nat → Int), yesR (envL k β x) 1000 100 3 [.slice (some ⟨1, 0, none⟩) 2 c, symAt 0 2 k] (.cells true 1 (toks 2)) = true
  | 0, _ => s2_0
  | 1, _ => s2_1
  | k + 2, h => by omega
theorem s3 : ∀ k, k < 3 → ∀ β : Int, β = 0 ∨ β = 1 → ∀ (c : Nat) (x : Nat → Int), yesR (envL k β x) 1000 100 3 [.slice (some ⟨1, 0, none⟩) 3 c, symAt 0 3 k] (.cells true 1 (toks 3)) = true
  | 0, _ => s3_0
  | 1, _ => s3_1
  | 2, _ => s3_2
  | k + 3, h => by omega
theorem s4 : ∀ k, k < 4 → ∀ β : Int, β = 0 ∨ β = 1 → ∀ (c : Nat) (x : Nat → Int), yesR (envL k β x) 1000 100 3 [.slice (some ⟨1, 0, none⟩) 4 c, symAt 0 4 k] (.cells true 1 (toks 4)) = true
  | 0, _ => s4_0
  | 1, _ => s4_1
  | 2, _ => s4_2
  | 3, _ => s4_3
  | k + 4, h => by omega
theorem s5 : ∀ k, k < 5 → ∀ β : Int, β = 0 ∨ β = 1 → ∀ (c : Nat) (x : Nat → Int), yesR (envL k β x) 1000 100 3 [.slice (some ⟨1, 0, none⟩) 5 c, symAt 0 5 k] (.cells true 1 (toks 5)) = true
  | 0, _ => s5_0
  | 1, _ => s5_1
  | 2, _ => s5_2
  | 3, _ => s5_3
  | 4, _ => s5_4
  | k + 5, h => by omega
theorem s6 : ∀ k, k < 6 → ∀ β : Int, β = 0 ∨ β = 1 → ∀ (c : Nat) (x : Nat → Int), yesR (envL k β x) 1000 100 3 [.slice (some ⟨1, 0, none⟩) 6 c, symAt 0 6 k] (.cells true 1 (toks 6)) = true
  | 0, _ => s6_0
  | 1, _ => s6_1
  | 2, _ => s6_2
  | 3, _ => s6_3
  | 4, _ => s6_4
  | 5, _ => s6_5
  | k + 6, h => by omega
theorem s7 : ∀ k, k < 7 → ∀ β : Int, β = 0 ∨ β = 1 → ∀ (c : Nat) (x : Nat → Int), yesR (envL k β x) 1000 100 3 [.slice (some ⟨1, 0, none⟩) 7 c, symAt 0 7 k] (.cells true 1 (toks 7)) = true
  | 0, _ => s7_0
  | 1, _ => s7_1
  | 2, _ => s7_2
  | 3, _ => s7_3
  | 4, _ => s7_4
  | 5, _ => s7_5
  | 6, _ => s7_6
  | k + 7, h => by omega
theorem s8 : ∀ k, k < 8 → ∀ β : Int, β = 0 ∨ β = 1 → ∀ (c : Nat) (x : Nat → Int), yesR (envL k β x) 1000 100 3 [.slice (some ⟨1, 0, none⟩) 8 c, symAt 0 8 k] (.cells true 1 (toks 8)) = true
  | 0, _ => s8_0
  | 1, _ => s8_1
  | 2, _ => s8_2
  | 3, _ => s8_3
  | 4, _ => s8_4
  | 5, _ => s8_5
  | 6, _ => s8_6
  | 7, _ => s8_7
  | k + 8, h => by omega
theorem s9 : ∀ k, k < 9 → ∀ β : Int, β = 0 ∨ β = 1 → ∀ (c : Nat) (x : Nat → Int), yesR (envL k β x) 1000 100 3 [.slice (some ⟨1, 0, none⟩) 9 c, symAt 0 9 k] (.cells true 1 (toks 9)) = true
  | 0, _ => s9_0
  | 1, _ => s9_1
  | 2, _ => s9_2
  | 3, _ => s9_3
  | 4, _ => s9_4
  | 5, _ => s9_5
  | 6, _ => s9_6
  | 7, _ => s9_7
  | 8, _ => s9_8
  | k + 9, h => by omega
theorem s10 : ∀ k, k < 10 → ∀ β : Int, β = 0 ∨ β = 1 → ∀ (c : Nat) (x : Nat → Int), yesR (envL k β x) 1000 100 3 [.slice (some ⟨1, 0, none⟩) 10 c, symAt 0 10 k] (.cells true 1 (toks 10)) = true
  | 0, _ => s10_0
  | 1, _ => s10_1
  | 2, _ => s10_2
  | 3, _ => s10_3
  | 4, _ => s10_4
  | 5, _ => s10_5
  | 6, _ => s10_6
  | 7, _ => s10_7
  | 8, _ => s10_8
  | 9, _ => s10_9
  | k + 10, h => by omega
theorem l : ∀ k, k < 10 → ∀ β : Int, β = 0 ∨ β = 1 → ∀ (m c : Nat) (x : Nat → Int), yesR (envL k β x) 1000 100 3 [.slice (some ⟨1, 0, none⟩) (m + 11) c, symAt 0 10 k] (.cells true 1 (toks 10)) = true
  | 0, _ => l_0
  | 1, _ => l_1
  | 2, _ => l_2
  | 3, _ => l_3
  | 4, _ => l_4
  | 5, _ => l_5
  | 6, _ => l_6
  | 7, _ => l_7
  | 8, _ => l_8
  | 9, _ => l_9
  | k + 10, h => by omega
theorem s : ∀ n, 0 < n → n ≤ 10 → ∀ k, k < n → ∀ β : Int, β = 0 ∨ β = 1 → ∀ (c : Nat) (x : Nat → Int), yesR (envL k β x) 1000 100 3 [.slice (some ⟨1, 0, none⟩) n c, symAt 0 n k] (.cells true 1 (toks n)) = true
  | 0, h, _ => by omega
  | 1, _, _ => s1
  | 2, _, _ => s2
  | 3, _, _ => s3
  | 4, _, _ => s4
  | 5, _, _ => s5
  | 6, _, _ => s6
  | 7, _, _ => s7
  | 8, _, _ => s8
  | 9, _, _ => s9
  | 10, _, _ => s10
  | n + 11, _, h => by omega
theorem none0 : yesC env1 1000 100 3 [.slice none 0 0, symAt 0 1 0] 1 = true := by kernel_rfl
theorem some0 : yesC env1 1000 100 3 [fzs 0 [], symAt 0 1 0] 1 = true := by kernel_rfl
end Go.Proofs.YtinjjlelliedpaaGreat.Cl
