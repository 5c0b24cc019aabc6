/-
  Some of the law's cases, by the machine.
-/
import Derived.Test.YtigeegdnhmgkbaaGreatRgE
namespace Go.Proofs.YtigeegdnhmgkbaaGreat.Cl
open Go Go.Cm
theorem full7_0 : yesC envR 1000 100 3 [symAt 2 7 7, symAt 0 8 0] 1 = true := by kernel_rfl
theorem full6_0 : yesC envR 1000 100 3 [symAt 2 7 6, symAt 0 7 0] 1 = true := by kernel_rfl
theorem full5_2 : yesC envR 1000 100 3 [symAt 2 7 5, symAt 0 6 2] 1 = true := by kernel_rfl
theorem full3_2 : yesC envR 1000 100 3 [symAt 2 7 3, symAt 0 4 2] 1 = true := by kernel_rfl
end Go.Proofs.YtigeegdnhmgkbaaGreat.Cl
