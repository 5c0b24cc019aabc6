/-
  What text.Main answers, by the machine.
-/
import Derived.Test.YtinjjlelliedpaaGreatDoorTxI
import Derived.Test.YtinjjlelliedpaaGreatDoorFmG
namespace Go.Proofs.YtinjjlelliedpaaGreatDoor.Cl
open Go Go.Cm
theorem m11a : deepRunC env0 1000 100 1 [] 4 [a11] = some (r11, []) := by kernel_rfl
theorem m11b : deepRunC env0 1000 100 1 [] 4 [b11] = some (r11, []) := by kernel_rfl
end Go.Proofs.YtinjjlelliedpaaGreatDoor.Cl
