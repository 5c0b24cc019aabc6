/-
  The law's cases, by the machine: a part of them.
-/
import Derived.Test.YtbdceglmldfnhaaGreatMfB
namespace Go.Proofs.YtbdceglmldfnhaaGreat.Cl
open Go Go.Cm

theorem case0 : yes env1 100000 3 [symAt 0 34 0] 1 = true := by kernel_rfl
theorem case1 : yes env1 100000 3 [symAt 0 34 1] 1 = true := by kernel_rfl
theorem case2 : yes env1 100000 3 [symAt 0 34 2] 1 = true := by kernel_rfl
theorem case3 : yes env1 100000 3 [symAt 0 34 3] 1 = true := by kernel_rfl
theorem case4 : yes env1 100000 3 [symAt 0 34 4] 1 = true := by kernel_rfl
theorem case5 : yes env1 100000 3 [symAt 0 34 5] 1 = true := by kernel_rfl
theorem case6 : yes env1 100000 3 [symAt 0 34 6] 1 = true := by kernel_rfl
theorem case7 : yes env1 100000 3 [symAt 0 34 7] 1 = true := by kernel_rfl
theorem case8 : yes env1 100000 3 [symAt 0 34 8] 1 = true := by kernel_rfl
end Go.Proofs.YtbdceglmldfnhaaGreat.Cl
