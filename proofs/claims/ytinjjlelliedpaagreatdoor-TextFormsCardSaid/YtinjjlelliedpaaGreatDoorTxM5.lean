/-
  What text.Main answers, by the machine.
-/
import Derived.Test.YtinjjlelliedpaaGreatDoorTxI
import Derived.Test.YtinjjlelliedpaaGreatDoorFmG
namespace Go.Proofs.YtinjjlelliedpaaGreatDoor.Cl
open Go Go.Cm
theorem m9a : deepRunC env0 1000 100 1 [] 4 [a9] = some (r9, []) := by kernel_rfl
theorem m9b : deepRunC env0 1000 100 1 [] 4 [b9] = some (r9, []) := by kernel_rfl
end Go.Proofs.YtinjjlelliedpaaGreatDoor.Cl
