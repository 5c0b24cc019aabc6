/-
  Some of the law's cases, by the machine.
-/
import Derived.Test.YtigeegdnhmgkbaaGreatRgE
namespace Go.Proofs.YtigeegdnhmgkbaaGreat.Cl
open Go Go.Cm
theorem full7_3 : yesC envR 1000 100 3 [symAt 2 7 7, symAt 0 8 3] 1 = true := by kernel_rfl
theorem full6_3 : yesC envR 1000 100 3 [symAt 2 7 6, symAt 0 7 3] 1 = true := by kernel_rfl
theorem full5_5 : yesC envR 1000 100 3 [symAt 2 7 5, symAt 0 6 5] 1 = true := by kernel_rfl
theorem full2_1 : yesC envR 1000 100 3 [symAt 2 7 2, symAt 0 3 1] 1 = true := by kernel_rfl
theorem full0_0 : yesC envR 1000 100 3 [symAt 2 7 0, symAt 0 1 0] 1 = true := by kernel_rfl
end Go.Proofs.YtigeegdnhmgkbaaGreat.Cl
