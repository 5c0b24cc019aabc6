/-
  What text.Main answers, by the machine.
-/
import Derived.Test.YtinjjlelliedpaaGreatDoorTxI
import Derived.Test.YtinjjlelliedpaaGreatDoorFmG
namespace Go.Proofs.YtinjjlelliedpaaGreatDoor.Cl
open Go Go.Cm
theorem m12a : deepRunC env0 1000 100 1 [] 4 [a12] = some (r12, []) := by kernel_rfl
theorem m12b : deepRunC env0 1000 100 1 [] 4 [b12] = some (r12, []) := by kernel_rfl
end Go.Proofs.YtinjjlelliedpaaGreatDoor.Cl
