/-
  The law, of whatever arguments.
-/
import Derived.Test.YtigeegdnhmgkbaaGreatScC0
import Derived.Test.YtigeegdnhmgkbaaGreatScC1
import Derived.Test.YtigeegdnhmgkbaaGreatScC2
import Derived.Test.YtigeegdnhmgkbaaGreatScC3
import Derived.Test.YtigeegdnhmgkbaaGreatScC4
import Derived.Test.YtigeegdnhmgkbaaGreatScC5
import Derived.Test.YtigeegdnhmgkbaaGreatScC6
import Derived.Test.YtigeegdnhmgkbaaGreatScC7
import Derived.Test.YtigeegdnhmgkbaaGreatScCN
import Derived.Test.YtigeegdnhmgkbaaGreatScCP
namespace Go.Proofs.YtigeegdnhmgkbaaGreat.Cl
open Go Go.Cm
theorem none_ (a0 a1 : Int) (w : World) : Calls Tryz.prog 6 #[.int .i64 a0, .int .i64 a1] w fun e w' => e = .returned (.bool true) ∧ Go.RowKit.Below w.heap.size w w' := by
  obtain ⟨k, hk, hr⟩ := sym_bits a1 15 (by decide)
  have run : ∀ (E : Env) (x : Value), E.Ok → E.Coded → E.P = Tryz.prog → (∀ g, E.glob g = true → g < 1) → (∀ b, E.fz b = none) → yesC E 1000 100 6 [x, symAt 2 15 k] 1 = true → VRel (globMu 1 E.sy) x (.int .i64 a0) →
      Calls Tryz.prog 6 #[.int .i64 a0, .int .i64 a1] w fun e w' => e = .returned (.bool true) ∧ Go.RowKit.Below w.heap.size w w' := by
    intro E x ok cok hP hg hz hy hv
    obtain ⟨n, h⟩ := yes_of_fast hy
    have := closedAt ok cok hg h (args' := #[.int .i64 a0, .int .i64 a1]) (.cons _ _ _ _ hv (.cons _ _ _ _ (hr _) .nil)) w hz
    rw [hP] at this
    exact this
  rcases Int.lt_or_le a0 0 with h0 | h0
  · exact run envN (tok 0) madeN.ok madeN.coded rfl (fun _ h => blt_lt0 h) (fun _ => rfl) (sN k hk) (tok_rel rfl rfl ⟨a0, rfl, h0⟩ rfl)
  · rcases Int.lt_or_le a0 8 with h1 | h1
    · have hc : a0 = 0 ∨ a0 = 1 ∨ a0 = 2 ∨ a0 = 3 ∨ a0 = 4 ∨ a0 = 5 ∨ a0 = 6 ∨ a0 = 7 := by omega
      rcases hc with rfl | rfl | rfl | rfl | rfl | rfl | rfl | rfl
      · exact run env2 _ made2.ok made2.coded rfl (fun _ h => blt_lt0 h) (fun _ => rfl) (s0 k hk) (.plain _ rfl)
      · exact run env2 _ made2.ok made2.coded rfl (fun _ h => blt_lt0 h) (fun _ => rfl) (s1 k hk) (.plain _ rfl)
      · exact run env2 _ made2.ok made2.coded rfl (fun _ h => blt_lt0 h) (fun _ => rfl) (s2 k hk) (.plain _ rfl)
      · exact run env2 _ made2.ok made2.coded rfl (fun _ h => blt_lt0 h) (fun _ => rfl) (s3 k hk) (.plain _ rfl)
      · exact run env2 _ made2.ok made2.coded rfl (fun _ h => blt_lt0 h) (fun _ => rfl) (s4 k hk) (.plain _ rfl)
      · exact run env2 _ made2.ok made2.coded rfl (fun _ h => blt_lt0 h) (fun _ => rfl) (s5 k hk) (.plain _ rfl)
      · exact run env2 _ made2.ok made2.coded rfl (fun _ h => blt_lt0 h) (fun _ => rfl) (s6 k hk) (.plain _ rfl)
      · exact run env2 _ made2.ok made2.coded rfl (fun _ h => blt_lt0 h) (fun _ => rfl) (s7 k hk) (.plain _ rfl)
    · exact run envP (tok 0) madeP.ok madeP.coded rfl (fun _ h => blt_lt0 h) (fun _ => rfl) (sP k hk) (tok_rel rfl rfl ⟨a0, rfl, h1⟩ rfl)
end Go.Proofs.YtigeegdnhmgkbaaGreat.Cl
