/-
  The law's cases, by the machine: a part of them.
-/
import Derived.Test.YtbdceglmldfnhaaGreatMfB
namespace Go.Proofs.YtbdceglmldfnhaaGreat.Cl
open Go Go.Cm

theorem case9 : yes env1 100000 3 [symAt 0 34 9] 1 = true := by kernel_rfl
theorem case10 : yes env1 100000 3 [symAt 0 34 10] 1 = true := by kernel_rfl
theorem case11 : yes env1 100000 3 [symAt 0 34 11] 1 = true := by kernel_rfl
theorem case12 : yes env1 100000 3 [symAt 0 34 12] 1 = true := by kernel_rfl
theorem case13 : yes env1 100000 3 [symAt 0 34 13] 1 = true := by kernel_rfl
theorem case14 : yes env1 100000 3 [symAt 0 34 14] 1 = true := by kernel_rfl
theorem case15 : yes env1 100000 3 [symAt 0 34 15] 1 = true := by kernel_rfl
theorem case16 : yes env1 100000 3 [symAt 0 34 16] 1 = true := by kernel_rfl
theorem case17 : yes env1 100000 3 [symAt 0 34 17] 1 = true := by kernel_rfl
end Go.Proofs.YtbdceglmldfnhaaGreat.Cl
