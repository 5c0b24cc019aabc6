/-
  Some of the law's cases, by the machine.
-/
import Derived.Test.YtigeegdnhmgkbaaGreatRgE
namespace Go.Proofs.YtigeegdnhmgkbaaGreat.Cl
open Go Go.Cm
theorem full7_7 : yesC envR 1000 100 3 [symAt 2 7 7, symAt 0 8 7] 1 = true := by kernel_rfl
theorem full5_0 : yesC envR 1000 100 3 [symAt 2 7 5, symAt 0 6 0] 1 = true := by kernel_rfl
theorem full5_1 : yesC envR 1000 100 3 [symAt 2 7 5, symAt 0 6 1] 1 = true := by kernel_rfl
theorem full3_1 : yesC envR 1000 100 3 [symAt 2 7 3, symAt 0 4 1] 1 = true := by kernel_rfl
theorem full1_0 : yesC envR 1000 100 3 [symAt 2 7 1, symAt 0 2 0] 1 = true := by kernel_rfl
end Go.Proofs.YtigeegdnhmgkbaaGreat.Cl
