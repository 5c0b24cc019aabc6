/-
  Some of the law's cases, by the machine.
-/
import Derived.Test.YtigeegdnhmgkbaaGreatRgE
namespace Go.Proofs.YtigeegdnhmgkbaaGreat.Cl
open Go Go.Cm
theorem full7_1 : yesC envR 1000 100 3 [symAt 2 7 7, symAt 0 8 1] 1 = true := by kernel_rfl
theorem full6_1 : yesC envR 1000 100 3 [symAt 2 7 6, symAt 0 7 1] 1 = true := by kernel_rfl
theorem full5_3 : yesC envR 1000 100 3 [symAt 2 7 5, symAt 0 6 3] 1 = true := by kernel_rfl
theorem full3_3 : yesC envR 1000 100 3 [symAt 2 7 3, symAt 0 4 3] 1 = true := by kernel_rfl
end Go.Proofs.YtigeegdnhmgkbaaGreat.Cl
