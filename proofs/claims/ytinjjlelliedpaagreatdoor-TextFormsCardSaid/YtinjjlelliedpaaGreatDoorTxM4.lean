/-
  What text.Main answers, by the machine.
-/
import Derived.Test.YtinjjlelliedpaaGreatDoorTxI
import Derived.Test.YtinjjlelliedpaaGreatDoorFmG
namespace Go.Proofs.YtinjjlelliedpaaGreatDoor.Cl
open Go Go.Cm
theorem m13b : deepRunC env0 1000 100 1 [] 4 [b13] = some (r13, []) := by kernel_rfl
end Go.Proofs.YtinjjlelliedpaaGreatDoor.Cl
