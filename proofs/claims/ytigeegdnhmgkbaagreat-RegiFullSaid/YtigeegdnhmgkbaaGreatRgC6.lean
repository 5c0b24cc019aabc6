/-
  Some of the law's cases, by the machine.
-/
import Derived.Test.YtigeegdnhmgkbaaGreatRgE
namespace Go.Proofs.YtigeegdnhmgkbaaGreat.Cl
open Go Go.Cm
theorem full7_6 : yesC envR 1000 100 3 [symAt 2 7 7, symAt 0 8 6] 1 = true := by kernel_rfl
theorem full6_6 : yesC envR 1000 100 3 [symAt 2 7 6, symAt 0 7 6] 1 = true := by kernel_rfl
theorem full4_2 : yesC envR 1000 100 3 [symAt 2 7 4, symAt 0 5 2] 1 = true := by kernel_rfl
theorem full3_0 : yesC envR 1000 100 3 [symAt 2 7 3, symAt 0 4 0] 1 = true := by kernel_rfl
theorem full2_2 : yesC envR 1000 100 3 [symAt 2 7 2, symAt 0 3 2] 1 = true := by kernel_rfl
end Go.Proofs.YtigeegdnhmgkbaaGreat.Cl
