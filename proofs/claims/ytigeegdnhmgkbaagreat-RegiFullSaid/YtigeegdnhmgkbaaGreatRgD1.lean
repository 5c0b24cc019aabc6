/-
  What modl.Do and need.Changes answer at the model's states, each by a run of the machine.
-/
import Derived.Test.YtigeegdnhmgkbaaGreatRgM
namespace Go.Proofs.YtigeegdnhmgkbaaGreat.Cl
open Go Go.Cm
theorem do1 : deepRunC env0 1000 100 1 [] 94 [m1, o1] = some (.tuple ⟨[m2, r1]⟩, []) := by kernel_rfl
theorem do3 : deepRunC env0 1000 100 1 [] 94 [m3, o3] = some (.tuple ⟨[m4, r3]⟩, []) := by kernel_rfl
theorem do5 : deepRunC env0 1000 100 1 [] 94 [m5, o5] = some (.tuple ⟨[m6, r5]⟩, []) := by kernel_rfl
theorem do7 : deepRunC env0 1000 100 1 [] 94 [m7, o7] = some (.tuple ⟨[m8, r7]⟩, []) := by kernel_rfl
theorem do9 : deepRunC env0 1000 100 1 [] 94 [m9, o9] = some (.tuple ⟨[m10, r9]⟩, []) := by kernel_rfl
theorem do11 : deepRunC env0 1000 100 1 [] 94 [m11, o11] = some (.tuple ⟨[m12, r11]⟩, []) := by kernel_rfl
theorem do13 : deepRunC env0 1000 100 1 [] 94 [m13, o13] = some (.tuple ⟨[m14, r13]⟩, []) := by kernel_rfl
theorem do15 : deepRunC env0 1000 100 1 [] 94 [m15, o15] = some (.tuple ⟨[m16, r15]⟩, []) := by kernel_rfl
theorem do17 : deepRunC env0 1000 100 1 [] 94 [m17, o17] = some (.tuple ⟨[m18, r17]⟩, []) := by kernel_rfl
theorem do19 : deepRunC env0 1000 100 1 [] 94 [m19, o19] = some (.tuple ⟨[m20, r19]⟩, []) := by kernel_rfl
theorem do21 : deepRunC env0 1000 100 1 [] 94 [m21, o21] = some (.tuple ⟨[m22, r21]⟩, []) := by kernel_rfl
theorem do23 : deepRunC env0 1000 100 1 [] 94 [m23, o23] = some (.tuple ⟨[m24, r23]⟩, []) := by kernel_rfl
theorem do25 : deepRunC env0 1000 100 1 [] 94 [m25, o25] = some (.tuple ⟨[m26, r25]⟩, []) := by kernel_rfl
theorem do27 : deepRunC env0 1000 100 1 [] 94 [m27, o27] = some (.tuple ⟨[m28, r27]⟩, []) := by kernel_rfl
theorem dox21 : deepRunC env0 1000 100 1 [] 94 [m21, ox] = some (.tuple ⟨[xm21, xr21]⟩, []) := by kernel_rfl
theorem dox22 : deepRunC env0 1000 100 1 [] 94 [m22, ox] = some (.tuple ⟨[xm22, xr22]⟩, []) := by kernel_rfl
theorem dox23 : deepRunC env0 1000 100 1 [] 94 [m23, ox] = some (.tuple ⟨[xm23, xr23]⟩, []) := by kernel_rfl
theorem dox24 : deepRunC env0 1000 100 1 [] 94 [m24, ox] = some (.tuple ⟨[xm24, xr24]⟩, []) := by kernel_rfl
theorem dox25 : deepRunC env0 1000 100 1 [] 94 [m25, ox] = some (.tuple ⟨[xm25, xr25]⟩, []) := by kernel_rfl
theorem dox26 : deepRunC env0 1000 100 1 [] 94 [m26, ox] = some (.tuple ⟨[xm26, xr26]⟩, []) := by kernel_rfl
theorem dox27 : deepRunC env0 1000 100 1 [] 94 [m27, ox] = some (.tuple ⟨[xm27, xr27]⟩, []) := by kernel_rfl
theorem dox28 : deepRunC env0 1000 100 1 [] 94 [m28, ox] = some (.tuple ⟨[xm28, xr28]⟩, []) := by kernel_rfl
theorem ch1 : deepRunC env0 1000 100 1 [] 95 [m1, m2] = some ((fzs 1 [(i 1)]), []) := by kernel_rfl
theorem ch3 : deepRunC env0 1000 100 1 [] 95 [m3, m4] = some ((fzs 1 [(i 1)]), []) := by kernel_rfl
theorem ch5 : deepRunC env0 1000 100 1 [] 95 [m5, m6] = some ((fzs 1 [(i 1)]), []) := by kernel_rfl
theorem ch7 : deepRunC env0 1000 100 1 [] 95 [m7, m8] = some ((fzs 1 [(i 1)]), []) := by kernel_rfl
theorem ch9 : deepRunC env0 1000 100 1 [] 95 [m9, m10] = some ((fzs 1 [(i 1)]), []) := by kernel_rfl
theorem ch11 : deepRunC env0 1000 100 1 [] 95 [m11, m12] = some ((fzs 1 [(i 1)]), []) := by kernel_rfl
theorem ch13 : deepRunC env0 1000 100 1 [] 95 [m13, m14] = some ((fzs 1 [(i 1)]), []) := by kernel_rfl
theorem ch15 : deepRunC env0 1000 100 1 [] 95 [m15, m16] = some ((fzs 1 [(i 1)]), []) := by kernel_rfl
theorem ch17 : deepRunC env0 1000 100 1 [] 95 [m17, m18] = some ((fzs 1 [(i 1)]), []) := by kernel_rfl
theorem ch19 : deepRunC env0 1000 100 1 [] 95 [m19, m20] = some ((fzs 1 [(i 1)]), []) := by kernel_rfl
theorem ch21 : deepRunC env0 1000 100 1 [] 95 [m21, m22] = some ((fzs 1 [(i 1)]), []) := by kernel_rfl
theorem ch23 : deepRunC env0 1000 100 1 [] 95 [m23, m24] = some ((fzs 1 [(i 1)]), []) := by kernel_rfl
theorem ch25 : deepRunC env0 1000 100 1 [] 95 [m25, m26] = some ((fzs 1 [(i 1)]), []) := by kernel_rfl
theorem ch27 : deepRunC env0 1000 100 1 [] 95 [m27, m28] = some ((fzs 1 [(i 1)]), []) := by kernel_rfl
theorem chx21 : deepRunC env0 1000 100 1 [] 95 [m21, xm21] = some ((fzs 1 [(i 1)]), []) := by kernel_rfl
theorem chx22 : deepRunC env0 1000 100 1 [] 95 [m22, xm22] = some ((fzs 1 [(i 1)]), []) := by kernel_rfl
theorem chx23 : deepRunC env0 1000 100 1 [] 95 [m23, xm23] = some ((fzs 1 [(i 1)]), []) := by kernel_rfl
theorem chx24 : deepRunC env0 1000 100 1 [] 95 [m24, xm24] = some ((fzs 1 [(i 1)]), []) := by kernel_rfl
theorem chx25 : deepRunC env0 1000 100 1 [] 95 [m25, xm25] = some ((fzs 1 [(i 1)]), []) := by kernel_rfl
theorem chx26 : deepRunC env0 1000 100 1 [] 95 [m26, xm26] = some ((fzs 1 [(i 1)]), []) := by kernel_rfl
theorem chx27 : deepRunC env0 1000 100 1 [] 95 [m27, xm27] = some ((fzs 1 [(i 1)]), []) := by kernel_rfl
theorem chx28 : deepRunC env0 1000 100 1 [] 95 [m28, xm28] = some ((fzs 1 [(i 1)]), []) := by kernel_rfl
end Go.Proofs.YtigeegdnhmgkbaaGreat.Cl
