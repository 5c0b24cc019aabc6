/-
  Some of the law's cases, by the machine.
-/
import Derived.Test.YtigeegdnhmgkbaaGreatRgE
namespace Go.Proofs.YtigeegdnhmgkbaaGreat.Cl
open Go Go.Cm
theorem full7_5 : yesC envR 1000 100 3 [symAt 2 7 7, symAt 0 8 5] 1 = true := by kernel_rfl
theorem full6_5 : yesC envR 1000 100 3 [symAt 2 7 6, symAt 0 7 5] 1 = true := by kernel_rfl
theorem full4_1 : yesC envR 1000 100 3 [symAt 2 7 4, symAt 0 5 1] 1 = true := by kernel_rfl
theorem full4_4 : yesC envR 1000 100 3 [symAt 2 7 4, symAt 0 5 4] 1 = true := by kernel_rfl
end Go.Proofs.YtigeegdnhmgkbaaGreat.Cl
