/-
  The law's cases where the first is true, by the machine.
-/
import Derived.Test.YtffgmholjgfniaaGreatLzA
namespace Go.Proofs.YtffgmholjgfniaaGreat.Cl
open Go Go.Cm
theorem true0 : yes env1 100000 3 [.bool true, symAt 0 3 0] 1 = true := by kernel_rfl
theorem true1 : yes env1 100000 3 [.bool true, symAt 0 3 1] 1 = true := by kernel_rfl
theorem true2 : yes env1 100000 3 [.bool true, symAt 0 3 2] 1 = true := by kernel_rfl
end Go.Proofs.YtffgmholjgfniaaGreat.Cl
