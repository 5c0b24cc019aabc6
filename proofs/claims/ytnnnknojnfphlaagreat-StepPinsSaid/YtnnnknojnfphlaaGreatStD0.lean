/-
  What is known of the calls of cold things, each by a run of the machine.
-/
import Derived.Test.YtnnnknojnfphlaaGreatStM
namespace Go.Proofs.YtnnnknojnfphlaaGreat.Cl
open Go Go.Cm
theorem do0 : deepRunC env0 1000 100 1 [] 19 [m0, o0] = some (.tuple ⟨[m1, r0]⟩, []) := by kernel_rfl
theorem do3 : deepRunC env0 1000 100 1 [] 19 [m3, o3] = some (.tuple ⟨[m4, r3]⟩, []) := by kernel_rfl
theorem do6 : deepRunC env0 1000 100 1 [] 19 [m6, o6] = some (.tuple ⟨[m7, r6]⟩, []) := by kernel_rfl
theorem do9 : deepRunC env0 1000 100 1 [] 19 [m9, o9] = some (.tuple ⟨[m10, r9]⟩, []) := by kernel_rfl
theorem do12 : deepRunC env0 1000 100 1 [] 19 [m12, o12] = some (.tuple ⟨[m13, r12]⟩, []) := by kernel_rfl
theorem do15 : deepRunC env0 1000 100 1 [] 19 [m15, o15] = some (.tuple ⟨[m16, r15]⟩, []) := by kernel_rfl
theorem dox3 : deepRunC env0 1000 100 1 [] 19 [m3, ox] = some (.tuple ⟨[m3, xr3]⟩, []) := by kernel_rfl
theorem dox6 : deepRunC env0 1000 100 1 [] 19 [m6, ox] = some (.tuple ⟨[m6, xr6]⟩, []) := by kernel_rfl
theorem dox9 : deepRunC env0 1000 100 1 [] 19 [m9, ox] = some (.tuple ⟨[m9, xr9]⟩, []) := by kernel_rfl
theorem dox12 : deepRunC env0 1000 100 1 [] 19 [m12, ox] = some (.tuple ⟨[m12, xr12]⟩, []) := by kernel_rfl
theorem dox15 : deepRunC env0 1000 100 1 [] 19 [m15, ox] = some (.tuple ⟨[m15, xr15]⟩, []) := by kernel_rfl
theorem ch0 : deepRunC env0 1000 100 1 [] 193 [m0, m1] = some (c0, []) := by kernel_rfl
theorem ch3 : deepRunC env0 1000 100 1 [] 193 [m3, m4] = some (c3, []) := by kernel_rfl
theorem ch6 : deepRunC env0 1000 100 1 [] 193 [m6, m7] = some (c6, []) := by kernel_rfl
theorem ch9 : deepRunC env0 1000 100 1 [] 193 [m9, m10] = some (c9, []) := by kernel_rfl
theorem ch12 : deepRunC env0 1000 100 1 [] 193 [m12, m13] = some (c12, []) := by kernel_rfl
theorem ch15 : deepRunC env0 1000 100 1 [] 193 [m15, m16] = some (c15, []) := by kernel_rfl
theorem chx3 : deepRunC env0 1000 100 1 [] 193 [m3, m3] = some (xc3, []) := by kernel_rfl
theorem chx6 : deepRunC env0 1000 100 1 [] 193 [m6, m6] = some (xc6, []) := by kernel_rfl
theorem chx9 : deepRunC env0 1000 100 1 [] 193 [m9, m9] = some (xc9, []) := by kernel_rfl
theorem chx12 : deepRunC env0 1000 100 1 [] 193 [m12, m12] = some (xc12, []) := by kernel_rfl
theorem chx15 : deepRunC env0 1000 100 1 [] 193 [m15, m15] = some (xc15, []) := by kernel_rfl
theorem lk0 : deepRunC env0 1000 100 1 [] 124 [m0, o0] = some (l0, []) := by kernel_rfl
theorem lk3 : deepRunC env0 1000 100 1 [] 124 [m3, o3] = some (l3, []) := by kernel_rfl
theorem lk6 : deepRunC env0 1000 100 1 [] 124 [m6, o6] = some (l6, []) := by kernel_rfl
theorem lk9 : deepRunC env0 1000 100 1 [] 124 [m9, o9] = some (l9, []) := by kernel_rfl
theorem lk12 : deepRunC env0 1000 100 1 [] 124 [m12, o12] = some (l12, []) := by kernel_rfl
theorem lk15 : deepRunC env0 1000 100 1 [] 124 [m15, o15] = some (l15, []) := by kernel_rfl
theorem lkx3 : deepRunC env0 1000 100 1 [] 124 [m3, ox] = some (xl3, []) := by kernel_rfl
theorem lkx6 : deepRunC env0 1000 100 1 [] 124 [m6, ox] = some (xl6, []) := by kernel_rfl
theorem lkx9 : deepRunC env0 1000 100 1 [] 124 [m9, ox] = some (xl9, []) := by kernel_rfl
theorem lkx12 : deepRunC env0 1000 100 1 [] 124 [m12, ox] = some (xl12, []) := by kernel_rfl
theorem lkx15 : deepRunC env0 1000 100 1 [] 124 [m15, ox] = some (xl15, []) := by kernel_rfl
theorem fr1 : deepRunC env0 1000 100 1 [] 134 [w1] = some (f1, []) := by kernel_rfl
theorem fr4 : deepRunC env0 1000 100 1 [] 134 [w4] = some (f4, []) := by kernel_rfl
theorem fr7 : deepRunC env0 1000 100 1 [] 134 [w7] = some (f7, []) := by kernel_rfl
theorem fr10 : deepRunC env0 1000 100 1 [] 134 [w10] = some (f10, []) := by kernel_rfl
theorem fr13 : deepRunC env0 1000 100 1 [] 134 [w13] = some (f13, []) := by kernel_rfl
theorem fr16 : deepRunC env0 1000 100 1 [] 134 [w16] = some (f16, []) := by kernel_rfl
theorem rd1 : deepRunC env0 1000 100 1 [] 15 [nm1, no1] = some (.tuple ⟨[nm2, nr1]⟩, []) := by kernel_rfl
theorem rd4 : deepRunC env0 1000 100 1 [] 15 [nm4, no4] = some (.tuple ⟨[nm5, nr4]⟩, []) := by kernel_rfl
theorem rd7 : deepRunC env0 1000 100 1 [] 15 [nm7, no7] = some (.tuple ⟨[nm8, nr7]⟩, []) := by kernel_rfl
theorem rd10 : deepRunC env0 1000 100 1 [] 15 [nm10, no10] = some (.tuple ⟨[nm11, nr10]⟩, []) := by kernel_rfl
theorem rd13 : deepRunC env0 1000 100 1 [] 15 [nm13, no13] = some (.tuple ⟨[nm14, nr13]⟩, []) := by kernel_rfl
theorem rd16 : deepRunC env0 1000 100 1 [] 15 [nm16, no16] = some (.tuple ⟨[nm17, nr16]⟩, []) := by kernel_rfl
theorem rf3 : deepRunC env0 1000 100 1 [] 17 [nw3] = some (nf3, []) := by kernel_rfl
theorem rf6 : deepRunC env0 1000 100 1 [] 17 [nw6] = some (nf6, []) := by kernel_rfl
theorem rf9 : deepRunC env0 1000 100 1 [] 17 [nw9] = some (nf9, []) := by kernel_rfl
theorem rf12 : deepRunC env0 1000 100 1 [] 17 [nw12] = some (nf12, []) := by kernel_rfl
theorem rf15 : deepRunC env0 1000 100 1 [] 17 [nw15] = some (nf15, []) := by kernel_rfl
end Go.Proofs.YtnnnknojnfphlaaGreat.Cl
