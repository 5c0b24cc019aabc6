/-
  Some of the law's cases, by the machine.
-/
import Derived.Test.YtigeegdnhmgkbaaGreatRgE
namespace Go.Proofs.YtigeegdnhmgkbaaGreat.Cl
open Go Go.Cm
theorem full7_4 : yesC envR 1000 100 3 [symAt 2 7 7, symAt 0 8 4] 1 = true := by kernel_rfl
theorem full6_4 : yesC envR 1000 100 3 [symAt 2 7 6, symAt 0 7 4] 1 = true := by kernel_rfl
theorem full4_0 : yesC envR 1000 100 3 [symAt 2 7 4, symAt 0 5 0] 1 = true := by kernel_rfl
theorem full4_3 : yesC envR 1000 100 3 [symAt 2 7 4, symAt 0 5 3] 1 = true := by kernel_rfl
end Go.Proofs.YtigeegdnhmgkbaaGreat.Cl
