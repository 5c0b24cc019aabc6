/-
  The law's cases, by the machine: a part of them.
-/
import Derived.Test.YtbdceglmldfnhaaGreatMfB
namespace Go.Proofs.YtbdceglmldfnhaaGreat.Cl
open Go Go.Cm

theorem case18 : yes env1 100000 3 [symAt 0 34 18] 1 = true := by kernel_rfl
theorem case19 : yes env1 100000 3 [symAt 0 34 19] 1 = true := by kernel_rfl
theorem case20 : yes env1 100000 3 [symAt 0 34 20] 1 = true := by kernel_rfl
theorem case21 : yes env1 100000 3 [symAt 0 34 21] 1 = true := by kernel_rfl
theorem case22 : yes env1 100000 3 [symAt 0 34 22] 1 = true := by kernel_rfl
theorem case23 : yes env1 100000 3 [symAt 0 34 23] 1 = true := by kernel_rfl
theorem case24 : yes env1 100000 3 [symAt 0 34 24] 1 = true := by kernel_rfl
theorem case25 : yes env1 100000 3 [symAt 0 34 25] 1 = true := by kernel_rfl
theorem case26 : yes env1 100000 3 [symAt 0 34 26] 1 = true := by kernel_rfl
end Go.Proofs.YtbdceglmldfnhaaGreat.Cl
