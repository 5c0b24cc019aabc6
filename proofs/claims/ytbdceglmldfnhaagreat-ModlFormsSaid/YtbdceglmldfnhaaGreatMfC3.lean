/-
  The law's cases, by the machine: a part of them.
-/
import Derived.Test.YtbdceglmldfnhaaGreatMfB
namespace Go.Proofs.YtbdceglmldfnhaaGreat.Cl
open Go Go.Cm

theorem case27 : yes env1 100000 3 [symAt 0 34 27] 1 = true := by kernel_rfl
theorem case28 : yes env1 100000 3 [symAt 0 34 28] 1 = true := by kernel_rfl
theorem case29 : yes env1 100000 3 [symAt 0 34 29] 1 = true := by kernel_rfl
theorem case30 : yes env1 100000 3 [symAt 0 34 30] 1 = true := by kernel_rfl
theorem case31 : yes env1 100000 3 [symAt 0 34 31] 1 = true := by kernel_rfl
theorem case32 : yes env1 100000 3 [symAt 0 34 32] 1 = true := by kernel_rfl
theorem case33 : yes env1 100000 3 [symAt 0 34 33] 1 = true := by kernel_rfl
end Go.Proofs.YtbdceglmldfnhaaGreat.Cl
