/-
  What text.Main answers, by the machine.
-/
import Derived.Test.YtinjjlelliedpaaGreatDoorTxI
import Derived.Test.YtinjjlelliedpaaGreatDoorFmG
namespace Go.Proofs.YtinjjlelliedpaaGreatDoor.Cl
open Go Go.Cm
theorem m10a : deepRunC env0 1000 100 1 [] 4 [a10] = some (r10, []) := by kernel_rfl
theorem m10b : deepRunC env0 1000 100 1 [] 4 [b10] = some (r10, []) := by kernel_rfl
end Go.Proofs.YtinjjlelliedpaaGreatDoor.Cl
