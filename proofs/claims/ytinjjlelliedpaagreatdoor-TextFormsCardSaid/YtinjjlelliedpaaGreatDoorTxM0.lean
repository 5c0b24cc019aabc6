/-
  What text.Main answers, by the machine.
-/
import Derived.Test.YtinjjlelliedpaaGreatDoorTxI
import Derived.Test.YtinjjlelliedpaaGreatDoorFmG
namespace Go.Proofs.YtinjjlelliedpaaGreatDoor.Cl
open Go Go.Cm
theorem m0a : deepRunC env0 1000 100 1 [] 4 [a0] = some (r0, []) := by kernel_rfl
theorem m0b : deepRunC env0 1000 100 1 [] 4 [b0] = some (r0, []) := by kernel_rfl
theorem m1a : deepRunC env0 1000 100 1 [] 4 [a1] = some (r1, []) := by kernel_rfl
theorem m1b : deepRunC env0 1000 100 1 [] 4 [b1] = some (r1, []) := by kernel_rfl
theorem m2a : deepRunC env0 1000 100 1 [] 4 [a2] = some (r2, []) := by kernel_rfl
theorem m2b : deepRunC env0 1000 100 1 [] 4 [b2] = some (r2, []) := by kernel_rfl
theorem m3a : deepRunC env0 1000 100 1 [] 4 [a3] = some (r3, []) := by kernel_rfl
theorem m3b : deepRunC env0 1000 100 1 [] 4 [b3] = some (r3, []) := by kernel_rfl
theorem m4a : deepRunC env0 1000 100 1 [] 4 [a4] = some (r4, []) := by kernel_rfl
theorem m4b : deepRunC env0 1000 100 1 [] 4 [b4] = some (r4, []) := by kernel_rfl
theorem m5a : deepRunC env0 1000 100 1 [] 4 [a5] = some (r5, []) := by kernel_rfl
theorem m5b : deepRunC env0 1000 100 1 [] 4 [b5] = some (r5, []) := by kernel_rfl
theorem m6a : deepRunC env0 1000 100 1 [] 4 [a6] = some (r6, []) := by kernel_rfl
theorem m6b : deepRunC env0 1000 100 1 [] 4 [b6] = some (r6, []) := by kernel_rfl
theorem m7a : deepRunC env0 1000 100 1 [] 4 [a7] = some (r7, []) := by kernel_rfl
theorem m7b : deepRunC env0 1000 100 1 [] 4 [b7] = some (r7, []) := by kernel_rfl
end Go.Proofs.YtinjjlelliedpaaGreatDoor.Cl
