/-
  What is known of the calls of cold things, each by a run of the machine.
-/
import Derived.Test.YtnnnknojnfphlaaGreatStM
namespace Go.Proofs.YtnnnknojnfphlaaGreat.Cl
open Go Go.Cm
theorem do2 : deepRunC env0 1000 100 1 [] 19 [m2, o2] = some (.tuple ⟨[m3, r2]⟩, []) := by kernel_rfl
theorem do5 : deepRunC env0 1000 100 1 [] 19 [m5, o5] = some (.tuple ⟨[m6, r5]⟩, []) := by kernel_rfl
theorem do8 : deepRunC env0 1000 100 1 [] 19 [m8, o8] = some (.tuple ⟨[m9, r8]⟩, []) := by kernel_rfl
theorem do11 : deepRunC env0 1000 100 1 [] 19 [m11, o11] = some (.tuple ⟨[m12, r11]⟩, []) := by kernel_rfl
theorem do14 : deepRunC env0 1000 100 1 [] 19 [m14, o14] = some (.tuple ⟨[m15, r14]⟩, []) := by kernel_rfl
theorem dox2 : deepRunC env0 1000 100 1 [] 19 [m2, ox] = some (.tuple ⟨[m2, xr2]⟩, []) := by kernel_rfl
theorem dox5 : deepRunC env0 1000 100 1 [] 19 [m5, ox] = some (.tuple ⟨[m5, xr5]⟩, []) := by kernel_rfl
theorem dox8 : deepRunC env0 1000 100 1 [] 19 [m8, ox] = some (.tuple ⟨[m8, xr8]⟩, []) := by kernel_rfl
theorem dox11 : deepRunC env0 1000 100 1 [] 19 [m11, ox] = some (.tuple ⟨[m11, xr11]⟩, []) := by kernel_rfl
theorem dox14 : deepRunC env0 1000 100 1 [] 19 [m14, ox] = some (.tuple ⟨[m14, xr14]⟩, []) := by kernel_rfl
theorem dox17 : deepRunC env0 1000 100 1 [] 19 [m17, ox] = some (.tuple ⟨[m17, xr17]⟩, []) := by kernel_rfl
theorem ch2 : deepRunC env0 1000 100 1 [] 193 [m2, m3] = some (c2, []) := by kernel_rfl
theorem ch5 : deepRunC env0 1000 100 1 [] 193 [m5, m6] = some (c5, []) := by kernel_rfl
theorem ch8 : deepRunC env0 1000 100 1 [] 193 [m8, m9] = some (c8, []) := by kernel_rfl
theorem ch11 : deepRunC env0 1000 100 1 [] 193 [m11, m12] = some (c11, []) := by kernel_rfl
theorem ch14 : deepRunC env0 1000 100 1 [] 193 [m14, m15] = some (c14, []) := by kernel_rfl
theorem chx2 : deepRunC env0 1000 100 1 [] 193 [m2, m2] = some (xc2, []) := by kernel_rfl
theorem chx5 : deepRunC env0 1000 100 1 [] 193 [m5, m5] = some (xc5, []) := by kernel_rfl
theorem chx8 : deepRunC env0 1000 100 1 [] 193 [m8, m8] = some (xc8, []) := by kernel_rfl
theorem chx11 : deepRunC env0 1000 100 1 [] 193 [m11, m11] = some (xc11, []) := by kernel_rfl
theorem chx14 : deepRunC env0 1000 100 1 [] 193 [m14, m14] = some (xc14, []) := by kernel_rfl
theorem chx17 : deepRunC env0 1000 100 1 [] 193 [m17, m17] = some (xc17, []) := by kernel_rfl
theorem lk2 : deepRunC env0 1000 100 1 [] 124 [m2, o2] = some (l2, []) := by kernel_rfl
theorem lk5 : deepRunC env0 1000 100 1 [] 124 [m5, o5] = some (l5, []) := by kernel_rfl
theorem lk8 : deepRunC env0 1000 100 1 [] 124 [m8, o8] = some (l8, []) := by kernel_rfl
theorem lk11 : deepRunC env0 1000 100 1 [] 124 [m11, o11] = some (l11, []) := by kernel_rfl
theorem lk14 : deepRunC env0 1000 100 1 [] 124 [m14, o14] = some (l14, []) := by kernel_rfl
theorem lkx2 : deepRunC env0 1000 100 1 [] 124 [m2, ox] = some (xl2, []) := by kernel_rfl
theorem lkx5 : deepRunC env0 1000 100 1 [] 124 [m5, ox] = some (xl5, []) := by kernel_rfl
theorem lkx8 : deepRunC env0 1000 100 1 [] 124 [m8, ox] = some (xl8, []) := by kernel_rfl
theorem lkx11 : deepRunC env0 1000 100 1 [] 124 [m11, ox] = some (xl11, []) := by kernel_rfl
theorem lkx14 : deepRunC env0 1000 100 1 [] 124 [m14, ox] = some (xl14, []) := by kernel_rfl
theorem lkx17 : deepRunC env0 1000 100 1 [] 124 [m17, ox] = some (xl17, []) := by kernel_rfl
theorem fr3 : deepRunC env0 1000 100 1 [] 134 [w3] = some (f3, []) := by kernel_rfl
theorem fr6 : deepRunC env0 1000 100 1 [] 134 [w6] = some (f6, []) := by kernel_rfl
theorem fr9 : deepRunC env0 1000 100 1 [] 134 [w9] = some (f9, []) := by kernel_rfl
theorem fr12 : deepRunC env0 1000 100 1 [] 134 [w12] = some (f12, []) := by kernel_rfl
theorem fr15 : deepRunC env0 1000 100 1 [] 134 [w15] = some (f15, []) := by kernel_rfl
theorem rd0 : deepRunC env0 1000 100 1 [] 15 [nm0, no0] = some (.tuple ⟨[nm1, nr0]⟩, []) := by kernel_rfl
theorem rd3 : deepRunC env0 1000 100 1 [] 15 [nm3, no3] = some (.tuple ⟨[nm4, nr3]⟩, []) := by kernel_rfl
theorem rd6 : deepRunC env0 1000 100 1 [] 15 [nm6, no6] = some (.tuple ⟨[nm7, nr6]⟩, []) := by kernel_rfl
theorem rd9 : deepRunC env0 1000 100 1 [] 15 [nm9, no9] = some (.tuple ⟨[nm10, nr9]⟩, []) := by kernel_rfl
theorem rd12 : deepRunC env0 1000 100 1 [] 15 [nm12, no12] = some (.tuple ⟨[nm13, nr12]⟩, []) := by kernel_rfl
theorem rd15 : deepRunC env0 1000 100 1 [] 15 [nm15, no15] = some (.tuple ⟨[nm16, nr15]⟩, []) := by kernel_rfl
theorem rf2 : deepRunC env0 1000 100 1 [] 17 [nw2] = some (nf2, []) := by kernel_rfl
theorem rf5 : deepRunC env0 1000 100 1 [] 17 [nw5] = some (nf5, []) := by kernel_rfl
theorem rf8 : deepRunC env0 1000 100 1 [] 17 [nw8] = some (nf8, []) := by kernel_rfl
theorem rf11 : deepRunC env0 1000 100 1 [] 17 [nw11] = some (nf11, []) := by kernel_rfl
theorem rf14 : deepRunC env0 1000 100 1 [] 17 [nw14] = some (nf14, []) := by kernel_rfl
theorem rf17 : deepRunC env0 1000 100 1 [] 17 [nw17] = some (nf17, []) := by kernel_rfl
end Go.Proofs.YtnnnknojnfphlaaGreat.Cl
