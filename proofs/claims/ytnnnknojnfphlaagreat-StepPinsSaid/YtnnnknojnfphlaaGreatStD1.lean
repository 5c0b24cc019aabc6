/-
  What is known of the calls of cold things, each by a run of the machine.
-/
import Derived.Test.YtnnnknojnfphlaaGreatStM
namespace Go.Proofs.YtnnnknojnfphlaaGreat.Cl
open Go Go.Cm
theorem do1 : deepRunC env0 1000 100 1 [] 19 [m1, o1] = some (.tuple ⟨[m2, r1]⟩, []) := by kernel_rfl
theorem do4 : deepRunC env0 1000 100 1 [] 19 [m4, o4] = some (.tuple ⟨[m5, r4]⟩, []) := by kernel_rfl
theorem do7 : deepRunC env0 1000 100 1 [] 19 [m7, o7] = some (.tuple ⟨[m8, r7]⟩, []) := by kernel_rfl
theorem do10 : deepRunC env0 1000 100 1 [] 19 [m10, o10] = some (.tuple ⟨[m11, r10]⟩, []) := by kernel_rfl
theorem do13 : deepRunC env0 1000 100 1 [] 19 [m13, o13] = some (.tuple ⟨[m14, r13]⟩, []) := by kernel_rfl
theorem do16 : deepRunC env0 1000 100 1 [] 19 [m16, o16] = some (.tuple ⟨[m17, r16]⟩, []) := by kernel_rfl
theorem dox4 : deepRunC env0 1000 100 1 [] 19 [m4, ox] = some (.tuple ⟨[m4, xr4]⟩, []) := by kernel_rfl
theorem dox7 : deepRunC env0 1000 100 1 [] 19 [m7, ox] = some (.tuple ⟨[m7, xr7]⟩, []) := by kernel_rfl
theorem dox10 : deepRunC env0 1000 100 1 [] 19 [m10, ox] = some (.tuple ⟨[m10, xr10]⟩, []) := by kernel_rfl
theorem dox13 : deepRunC env0 1000 100 1 [] 19 [m13, ox] = some (.tuple ⟨[m13, xr13]⟩, []) := by kernel_rfl
theorem dox16 : deepRunC env0 1000 100 1 [] 19 [m16, ox] = some (.tuple ⟨[m16, xr16]⟩, []) := by kernel_rfl
theorem ch1 : deepRunC env0 1000 100 1 [] 193 [m1, m2] = some (c1, []) := by kernel_rfl
theorem ch4 : deepRunC env0 1000 100 1 [] 193 [m4, m5] = some (c4, []) := by kernel_rfl
theorem ch7 : deepRunC env0 1000 100 1 [] 193 [m7, m8] = some (c7, []) := by kernel_rfl
theorem ch10 : deepRunC env0 1000 100 1 [] 193 [m10, m11] = some (c10, []) := by kernel_rfl
theorem ch13 : deepRunC env0 1000 100 1 [] 193 [m13, m14] = some (c13, []) := by kernel_rfl
theorem ch16 : deepRunC env0 1000 100 1 [] 193 [m16, m17] = some (c16, []) := by kernel_rfl
theorem chx4 : deepRunC env0 1000 100 1 [] 193 [m4, m4] = some (xc4, []) := by kernel_rfl
theorem chx7 : deepRunC env0 1000 100 1 [] 193 [m7, m7] = some (xc7, []) := by kernel_rfl
theorem chx10 : deepRunC env0 1000 100 1 [] 193 [m10, m10] = some (xc10, []) := by kernel_rfl
theorem chx13 : deepRunC env0 1000 100 1 [] 193 [m13, m13] = some (xc13, []) := by kernel_rfl
theorem chx16 : deepRunC env0 1000 100 1 [] 193 [m16, m16] = some (xc16, []) := by kernel_rfl
theorem lk1 : deepRunC env0 1000 100 1 [] 124 [m1, o1] = some (l1, []) := by kernel_rfl
theorem lk4 : deepRunC env0 1000 100 1 [] 124 [m4, o4] = some (l4, []) := by kernel_rfl
theorem lk7 : deepRunC env0 1000 100 1 [] 124 [m7, o7] = some (l7, []) := by kernel_rfl
theorem lk10 : deepRunC env0 1000 100 1 [] 124 [m10, o10] = some (l10, []) := by kernel_rfl
theorem lk13 : deepRunC env0 1000 100 1 [] 124 [m13, o13] = some (l13, []) := by kernel_rfl
theorem lk16 : deepRunC env0 1000 100 1 [] 124 [m16, o16] = some (l16, []) := by kernel_rfl
theorem lkx4 : deepRunC env0 1000 100 1 [] 124 [m4, ox] = some (xl4, []) := by kernel_rfl
theorem lkx7 : deepRunC env0 1000 100 1 [] 124 [m7, ox] = some (xl7, []) := by kernel_rfl
theorem lkx10 : deepRunC env0 1000 100 1 [] 124 [m10, ox] = some (xl10, []) := by kernel_rfl
theorem lkx13 : deepRunC env0 1000 100 1 [] 124 [m13, ox] = some (xl13, []) := by kernel_rfl
theorem lkx16 : deepRunC env0 1000 100 1 [] 124 [m16, ox] = some (xl16, []) := by kernel_rfl
theorem fr2 : deepRunC env0 1000 100 1 [] 134 [w2] = some (f2, []) := by kernel_rfl
theorem fr5 : deepRunC env0 1000 100 1 [] 134 [w5] = some (f5, []) := by kernel_rfl
theorem fr8 : deepRunC env0 1000 100 1 [] 134 [w8] = some (f8, []) := by kernel_rfl
theorem fr11 : deepRunC env0 1000 100 1 [] 134 [w11] = some (f11, []) := by kernel_rfl
theorem fr14 : deepRunC env0 1000 100 1 [] 134 [w14] = some (f14, []) := by kernel_rfl
theorem fr17 : deepRunC env0 1000 100 1 [] 134 [w17] = some (f17, []) := by kernel_rfl
theorem rd2 : deepRunC env0 1000 100 1 [] 15 [nm2, no2] = some (.tuple ⟨[nm3, nr2]⟩, []) := by kernel_rfl
theorem rd5 : deepRunC env0 1000 100 1 [] 15 [nm5, no5] = some (.tuple ⟨[nm6, nr5]⟩, []) := by kernel_rfl
theorem rd8 : deepRunC env0 1000 100 1 [] 15 [nm8, no8] = some (.tuple ⟨[nm9, nr8]⟩, []) := by kernel_rfl
theorem rd11 : deepRunC env0 1000 100 1 [] 15 [nm11, no11] = some (.tuple ⟨[nm12, nr11]⟩, []) := by kernel_rfl
theorem rd14 : deepRunC env0 1000 100 1 [] 15 [nm14, no14] = some (.tuple ⟨[nm15, nr14]⟩, []) := by kernel_rfl
theorem rf1 : deepRunC env0 1000 100 1 [] 17 [nw1] = some (nf1, []) := by kernel_rfl
theorem rf4 : deepRunC env0 1000 100 1 [] 17 [nw4] = some (nf4, []) := by kernel_rfl
theorem rf7 : deepRunC env0 1000 100 1 [] 17 [nw7] = some (nf7, []) := by kernel_rfl
theorem rf10 : deepRunC env0 1000 100 1 [] 17 [nw10] = some (nf10, []) := by kernel_rfl
theorem rf13 : deepRunC env0 1000 100 1 [] 17 [nw13] = some (nf13, []) := by kernel_rfl
theorem rf16 : deepRunC env0 1000 100 1 [] 17 [nw16] = some (nf16, []) := by kernel_rfl
end Go.Proofs.YtnnnknojnfphlaaGreat.Cl
