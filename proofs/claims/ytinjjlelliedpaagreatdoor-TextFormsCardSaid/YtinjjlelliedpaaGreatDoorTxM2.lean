/-
  What text.Main answers, by the machine.
-/
import Derived.Test.YtinjjlelliedpaaGreatDoorTxI
import Derived.Test.YtinjjlelliedpaaGreatDoorFmG
namespace Go.Proofs.YtinjjlelliedpaaGreatDoor.Cl
open Go Go.Cm
theorem m8b : deepRunC env0 1000 100 1 [] 4 [b8] = some (r8, []) := by kernel_rfl
end Go.Proofs.YtinjjlelliedpaaGreatDoor.Cl
