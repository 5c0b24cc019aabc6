/-
  Some of the law's cases, by the machine.
-/
import Derived.Test.YtigeegdnhmgkbaaGreatRgE
namespace Go.Proofs.YtigeegdnhmgkbaaGreat.Cl
open Go Go.Cm
theorem full7_2 : yesC envR 1000 100 3 [symAt 2 7 7, symAt 0 8 2] 1 = true := by kernel_rfl
theorem full6_2 : yesC envR 1000 100 3 [symAt 2 7 6, symAt 0 7 2] 1 = true := by kernel_rfl
theorem full5_4 : yesC envR 1000 100 3 [symAt 2 7 5, symAt 0 6 4] 1 = true := by kernel_rfl
theorem full2_0 : yesC envR 1000 100 3 [symAt 2 7 2, symAt 0 3 0] 1 = true := by kernel_rfl
theorem full1_1 : yesC envR 1000 100 3 [symAt 2 7 1, symAt 0 2 1] 1 = true := by kernel_rfl
end Go.Proofs.YtigeegdnhmgkbaaGreat.Cl
