/-
  The law, of whatever arguments.
-/
import Derived.Test.YtigeegdnhmgkbaaGreatRgF
import Derived.Test.YtigeegdnhmgkbaaGreatRgC0
import Derived.Test.YtigeegdnhmgkbaaGreatRgC1
import Derived.Test.YtigeegdnhmgkbaaGreatRgC2
import Derived.Test.YtigeegdnhmgkbaaGreatRgC3
import Derived.Test.YtigeegdnhmgkbaaGreatRgC4
import Derived.Test.YtigeegdnhmgkbaaGreatRgC5
import Derived.Test.YtigeegdnhmgkbaaGreatRgC6
import Derived.Test.YtigeegdnhmgkbaaGreatRgC7
namespace Go.Proofs.YtigeegdnhmgkbaaGreat.Cl
open Go Go.Cm
theorem full0 : ∀ j, j < 1 → yesC envR 1000 100 3 [symAt 2 7 0, symAt 0 1 j] 1 = true
  | 0, _ => full0_0
  | j + 1, h => by omega
theorem full1 : ∀ j, j < 2 → yesC envR 1000 100 3 [symAt 2 7 1, symAt 0 2 j] 1 = true
  | 0, _ => full1_0
  | 1, _ => full1_1
  | j + 2, h => by omega
theorem full2 : ∀ j, j < 3 → yesC envR 1000 100 3 [symAt 2 7 2, symAt 0 3 j] 1 = true
  | 0, _ => full2_0
  | 1, _ => full2_1
  | 2, _ => full2_2
  | j + 3, h => by omega
theorem full3 : ∀ j, j < 4 → yesC envR 1000 100 3 [symAt 2 7 3, symAt 0 4 j] 1 = true
  | 0, _ => full3_0
  | 1, _ => full3_1
  | 2, _ => full3_2
  | 3, _ => full3_3
  | j + 4, h => by omega
theorem full4 : ∀ j, j < 5 → yesC envR 1000 100 3 [symAt 2 7 4, symAt 0 5 j] 1 = true
  | 0, _ => full4_0
  | 1, _ => full4_1
  | 2, _ => full4_2
  | 3, _ => full4_3
  | 4, _ => full4_4
  | j + 5, h => by omega
theorem full5 : ∀ j, j < 6 → yesC envR 1000 100 3 [symAt 2 7 5, symAt 0 6 j] 1 = true
  | 0, _ => full5_0
  | 1, _ => full5_1
  | 2, _ => full5_2
  | 3, _ => full5_3
  | 4, _ => full5_4
  | 5, _ => full5_5
  | j + 6, h => by omega
theorem full6 : ∀ j, j < 7 → yesC envR 1000 100 3 [symAt 2 7 6, symAt 0 7 j] 1 = true
  | 0, _ => full6_0
  | 1, _ => full6_1
  | 2, _ => full6_2
  | 3, _ => full6_3
  | 4, _ => full6_4
  | 5, _ => full6_5
  | 6, _ => full6_6
  | j + 7, h => by omega
theorem full7 : ∀ j, j < 8 → yesC envR 1000 100 3 [symAt 2 7 7, symAt 0 8 j] 1 = true
  | 0, _ => full7_0
  | 1, _ => full7_1
  | 2, _ => full7_2
  | 3, _ => full7_3
  | 4, _ => full7_4
  | 5, _ => full7_5
  | 6, _ => full7_6
  | 7, _ => full7_7
  | j + 8, h => by omega
theorem at_ (a1 : Int) : ∀ k, k ≤ 7 → ∃ j, yesC envR 1000 100 3 [symAt 2 7 k, symAt 0 (k + 1) j] 1 = true ∧ ∀ μ, VRel μ (symAt 0 (k + 1) j) (.int .i64 a1)
  | 0, _ => let ⟨j, hj, hr⟩ := sym_rest a1 1 (by decide) (by decide); ⟨j, full0 j hj, hr⟩
  | 1, _ => let ⟨j, hj, hr⟩ := sym_rest a1 2 (by decide) (by decide); ⟨j, full1 j hj, hr⟩
  | 2, _ => let ⟨j, hj, hr⟩ := sym_rest a1 3 (by decide) (by decide); ⟨j, full2 j hj, hr⟩
  | 3, _ => let ⟨j, hj, hr⟩ := sym_rest a1 4 (by decide) (by decide); ⟨j, full3 j hj, hr⟩
  | 4, _ => let ⟨j, hj, hr⟩ := sym_rest a1 5 (by decide) (by decide); ⟨j, full4 j hj, hr⟩
  | 5, _ => let ⟨j, hj, hr⟩ := sym_rest a1 6 (by decide) (by decide); ⟨j, full5 j hj, hr⟩
  | 6, _ => let ⟨j, hj, hr⟩ := sym_rest a1 7 (by decide) (by decide); ⟨j, full6 j hj, hr⟩
  | 7, _ => let ⟨j, hj, hr⟩ := sym_rest a1 8 (by decide) (by decide); ⟨j, full7 j hj, hr⟩
  | k + 8, h => by omega
theorem full (a0 a1 : Int) (w : World) : Calls Tryz.prog 3 #[.int .i64 a0, .int .i64 a1] w fun e w' => e = .returned (.bool true) ∧ Go.RowKit.Below w.heap.size w w' := by
  obtain ⟨k, hk, hr⟩ := sym_bits a0 7 (by decide)
  obtain ⟨j, hy, hr1⟩ := at_ a1 k hk
  obtain ⟨n, h⟩ := yes_of_fast hy
  exact closedAt madeR.ok madeR.coded (fun _ h => blt_lt0 h) h (.cons _ _ _ _ (hr _) (.cons _ _ _ _ (hr1 _) .nil)) w
end Go.Proofs.YtigeegdnhmgkbaaGreat.Cl
