/-
  What modl.Do and need.Changes answer at the model's states, each by a run of the machine.
-/
import Derived.Test.YtigeegdnhmgkbaaGreatRgM
namespace Go.Proofs.YtigeegdnhmgkbaaGreat.Cl
open Go Go.Cm
theorem do0 : deepRunC env0 1000 100 1 [] 94 [m0, o0] = some (.tuple ⟨[m1, r0]⟩, []) := by kernel_rfl
theorem do2 : deepRunC env0 1000 100 1 [] 94 [m2, o2] = some (.tuple ⟨[m3, r2]⟩, []) := by kernel_rfl
theorem do4 : deepRunC env0 1000 100 1 [] 94 [m4, o4] = some (.tuple ⟨[m5, r4]⟩, []) := by kernel_rfl
theorem do6 : deepRunC env0 1000 100 1 [] 94 [m6, o6] = some (.tuple ⟨[m7, r6]⟩, []) := by kernel_rfl
theorem do8 : deepRunC env0 1000 100 1 [] 94 [m8, o8] = some (.tuple ⟨[m9, r8]⟩, []) := by kernel_rfl
theorem do10 : deepRunC env0 1000 100 1 [] 94 [m10, o10] = some (.tuple ⟨[m11, r10]⟩, []) := by kernel_rfl
theorem do12 : deepRunC env0 1000 100 1 [] 94 [m12, o12] = some (.tuple ⟨[m13, r12]⟩, []) := by kernel_rfl
theorem do14 : deepRunC env0 1000 100 1 [] 94 [m14, o14] = some (.tuple ⟨[m15, r14]⟩, []) := by kernel_rfl
theorem do16 : deepRunC env0 1000 100 1 [] 94 [m16, o16] = some (.tuple ⟨[m17, r16]⟩, []) := by kernel_rfl
theorem do18 : deepRunC env0 1000 100 1 [] 94 [m18, o18] = some (.tuple ⟨[m19, r18]⟩, []) := by kernel_rfl
theorem do20 : deepRunC env0 1000 100 1 [] 94 [m20, o20] = some (.tuple ⟨[m21, r20]⟩, []) := by kernel_rfl
theorem do22 : deepRunC env0 1000 100 1 [] 94 [m22, o22] = some (.tuple ⟨[m23, r22]⟩, []) := by kernel_rfl
theorem do24 : deepRunC env0 1000 100 1 [] 94 [m24, o24] = some (.tuple ⟨[m25, r24]⟩, []) := by kernel_rfl
theorem do26 : deepRunC env0 1000 100 1 [] 94 [m26, o26] = some (.tuple ⟨[m27, r26]⟩, []) := by kernel_rfl
theorem do28 : deepRunC env0 1000 100 1 [] 94 [m28, o28] = some (.tuple ⟨[m29, r28]⟩, []) := by kernel_rfl
theorem don21 : deepRunC env0 1000 100 1 [] 94 [m21, on] = some (.tuple ⟨[m21, yr21]⟩, []) := by kernel_rfl
theorem don22 : deepRunC env0 1000 100 1 [] 94 [m22, on] = some (.tuple ⟨[m22, yr22]⟩, []) := by kernel_rfl
theorem don23 : deepRunC env0 1000 100 1 [] 94 [m23, on] = some (.tuple ⟨[m23, yr23]⟩, []) := by kernel_rfl
theorem don24 : deepRunC env0 1000 100 1 [] 94 [m24, on] = some (.tuple ⟨[m24, yr24]⟩, []) := by kernel_rfl
theorem don25 : deepRunC env0 1000 100 1 [] 94 [m25, on] = some (.tuple ⟨[m25, yr25]⟩, []) := by kernel_rfl
theorem don26 : deepRunC env0 1000 100 1 [] 94 [m26, on] = some (.tuple ⟨[m26, yr26]⟩, []) := by kernel_rfl
theorem don27 : deepRunC env0 1000 100 1 [] 94 [m27, on] = some (.tuple ⟨[m27, yr27]⟩, []) := by kernel_rfl
theorem don28 : deepRunC env0 1000 100 1 [] 94 [m28, on] = some (.tuple ⟨[m28, yr28]⟩, []) := by kernel_rfl
theorem ch0 : deepRunC env0 1000 100 1 [] 95 [m0, m1] = some ((fzs 1 [(i 1)]), []) := by kernel_rfl
theorem ch2 : deepRunC env0 1000 100 1 [] 95 [m2, m3] = some ((fzs 1 [(i 1)]), []) := by kernel_rfl
theorem ch4 : deepRunC env0 1000 100 1 [] 95 [m4, m5] = some ((fzs 1 [(i 1)]), []) := by kernel_rfl
theorem ch6 : deepRunC env0 1000 100 1 [] 95 [m6, m7] = some ((fzs 1 [(i 1)]), []) := by kernel_rfl
theorem ch8 : deepRunC env0 1000 100 1 [] 95 [m8, m9] = some ((fzs 1 [(i 1)]), []) := by kernel_rfl
theorem ch10 : deepRunC env0 1000 100 1 [] 95 [m10, m11] = some ((fzs 1 [(i 1)]), []) := by kernel_rfl
theorem ch12 : deepRunC env0 1000 100 1 [] 95 [m12, m13] = some ((fzs 1 [(i 1)]), []) := by kernel_rfl
theorem ch14 : deepRunC env0 1000 100 1 [] 95 [m14, m15] = some ((fzs 1 [(i 1)]), []) := by kernel_rfl
theorem ch16 : deepRunC env0 1000 100 1 [] 95 [m16, m17] = some ((fzs 1 [(i 1)]), []) := by kernel_rfl
theorem ch18 : deepRunC env0 1000 100 1 [] 95 [m18, m19] = some ((fzs 1 [(i 1)]), []) := by kernel_rfl
theorem ch20 : deepRunC env0 1000 100 1 [] 95 [m20, m21] = some ((fzs 1 [(i 1)]), []) := by kernel_rfl
theorem ch22 : deepRunC env0 1000 100 1 [] 95 [m22, m23] = some ((fzs 1 [(i 1)]), []) := by kernel_rfl
theorem ch24 : deepRunC env0 1000 100 1 [] 95 [m24, m25] = some ((fzs 1 [(i 1)]), []) := by kernel_rfl
theorem ch26 : deepRunC env0 1000 100 1 [] 95 [m26, m27] = some ((fzs 1 [(i 1)]), []) := by kernel_rfl
theorem ch28 : deepRunC env0 1000 100 1 [] 95 [m28, m29] = some ((fzs 1 [(i 1)]), []) := by kernel_rfl
theorem chn21 : deepRunC env0 1000 100 1 [] 95 [m21, m21] = some ((.slice none 0 0), []) := by kernel_rfl
theorem chn22 : deepRunC env0 1000 100 1 [] 95 [m22, m22] = some ((.slice none 0 0), []) := by kernel_rfl
theorem chn23 : deepRunC env0 1000 100 1 [] 95 [m23, m23] = some ((.slice none 0 0), []) := by kernel_rfl
theorem chn24 : deepRunC env0 1000 100 1 [] 95 [m24, m24] = some ((.slice none 0 0), []) := by kernel_rfl
theorem chn25 : deepRunC env0 1000 100 1 [] 95 [m25, m25] = some ((.slice none 0 0), []) := by kernel_rfl
theorem chn26 : deepRunC env0 1000 100 1 [] 95 [m26, m26] = some ((.slice none 0 0), []) := by kernel_rfl
theorem chn27 : deepRunC env0 1000 100 1 [] 95 [m27, m27] = some ((.slice none 0 0), []) := by kernel_rfl
theorem chn28 : deepRunC env0 1000 100 1 [] 95 [m28, m28] = some ((.slice none 0 0), []) := by kernel_rfl
end Go.Proofs.YtigeegdnhmgkbaaGreat.Cl
