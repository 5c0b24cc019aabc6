/-
  A number of numbers.
-/
import Derived.Test.YtkcibhokjiciiaaBv
import Derived.Laws.BitsLemmas
namespace Go.Proofs
open Go.RowKit Go.Lib Go.Sort Tp
attribute [local go_sem ↓] Go.wp_at_zero Go.wp_at_succ

theorem u64_and15 (n : Int) : bits .and .u64 n 15 = n % 16 := by
  have h0 : (BitVec.ofInt 64 15).toNat = 2 ^ 4 - 1 := by decide
  have key : (BitVec.ofInt 64 n &&& BitVec.ofInt 64 15).toNat = (n % ((2 ^ 64 : Nat) : Int)).toNat % 2 ^ 4 := by
    rw [BitVec.toNat_and, BitVec.toNat_ofInt, h0, Nat.and_two_pow_sub_one_eq_mod]
  show IntKind.u64.wrap ((BitVec.ofInt 64 n &&& BitVec.ofInt 64 15).toNat : Nat) = n % 16
  rw [key, IntKind.wrap_u64]
  omega
theorem i64_and255 (n : Int) : bits .and .i64 n 255 = n % 256 := by
  have h0 : (BitVec.ofInt 64 255).toNat = 2 ^ 8 - 1 := by decide
  have key : (BitVec.ofInt 64 n &&& BitVec.ofInt 64 255).toNat = (n % ((2 ^ 64 : Nat) : Int)).toNat % 2 ^ 8 := by
    rw [BitVec.toNat_and, BitVec.toNat_ofInt, h0, Nat.and_two_pow_sub_one_eq_mod]
  show IntKind.i64.wrap ((BitVec.ofInt 64 n &&& BitVec.ofInt 64 255).toNat : Nat) = n % 256
  rw [key, IntKind.wrap_i64]
  omega
theorem i64_and1 (n : Int) : bits .and .i64 n 1 = n % 2 := by
  have h0 : (BitVec.ofInt 64 1).toNat = 2 ^ 1 - 1 := by decide
  have key : (BitVec.ofInt 64 n &&& BitVec.ofInt 64 1).toNat = (n % ((2 ^ 64 : Nat) : Int)).toNat % 2 ^ 1 := by
    rw [BitVec.toNat_and, BitVec.toNat_ofInt, h0, Nat.and_two_pow_sub_one_eq_mod]
  show IntKind.i64.wrap ((BitVec.ofInt 64 n &&& BitVec.ofInt 64 1).toNat : Nat) = n % 2
  rw [key, IntKind.wrap_i64]
  omega
/-- All quotients of floats at once. -/
theorem quo_all (P : Program) (t : TypeId) : ∃ (R : Nat → Nat → World → Nat) (F : Nat → Nat → World → World), (∀ x y w, (binOp .quo t (.float .f64 x) (.float .f64 y)).run P w = .ok (.float .f64 (R x y w)) (F x y w)) ∧ ∀ x y w, Below w.heap.size w (F x y w) :=
  ⟨fun x y w => Classical.choose (arith_any (P := P) .quo (.inr rfl) t x y w), fun x y w => Classical.choose (Classical.choose_spec (arith_any (P := P) .quo (.inr rfl) t x y w)),
    fun x y w => (Classical.choose_spec (Classical.choose_spec (arith_any (P := P) .quo (.inr rfl) t x y w))).1, fun x y w => (Classical.choose_spec (Classical.choose_spec (arith_any (P := P) .quo (.inr rfl) t x y w))).2⟩

theorem Try.frombits (n : Int) (w : World) : (callFunc 50 #[.int .u64 n]).run Try.prog w = .ok (.value (.float .f64 n.toNat)) w := by kernel_rfl
theorem Try.tobits (b : Nat) (w : World) : (callFunc 62 #[.float .f64 b]).run Try.prog w = .ok (.value (.int .u64 (b : Int))) w := by kernel_rfl

def FloatPost (w : World) (e : Ending) (w' : World) : Prop := ∃ b : Nat, e = .returned (.float .f64 b) ∧ Below w.heap.size w w'
theorem Try.copysign_ok (w : World) : Calls Try.prog 47 #[.float .f64 0, .float .f64 13830554455654793216] w (FloatPost w) := by
  have h1 := fun n w => Try.frombits n w
  have h2 := fun n w => Try.tobits n w
  go_enter Try.func47, Try.ntmps47
  go_wp2
  go_ret
  exact ⟨_, rfl, Below.refl _ _⟩
theorem Try.nan_ok (w : World) : Calls Try.prog 48 #[] w (FloatPost w) := by
  have h1 := fun n w => Try.frombits n w
  go_enter Try.func48, Try.ntmps48
  go_wp2
  go_ret
  exact ⟨_, rfl, Below.refl _ _⟩
theorem Try.inf_ok (n : Int) (hn : n = 1 ∨ n = -1) (w : World) : Calls Try.prog 49 #[.int .i64 n] w (FloatPost w) := by
  have h1 := fun n w => Try.frombits n w
  rcases hn with rfl | rfl
  all_goals
    go_enter Try.func49, Try.ntmps49
    go_wp2
    go_ret
    exact ⟨_, rfl, Below.refl _ _⟩

theorem lit16 (w : World) (t : TypeId) (b1 b2 b3 b4 i : Nat) (hi : i < 16) : ∃ b5, (w.alloc (.cells #[.float .f64 0, .float .f64 b1, .float .f64 b2, .float .f64 b3, .float .f64 b4, .float .f64 4607182418800017408, .float .f64 13830554455654793216, .float .f64 4602678819172646912, .float .f64 4598175219545276416, .float .f64 4611686018427387904, .float .f64 118622047889322841, .float .f64 9094988921128908188, .float .f64 4607182409792818153, .float .f64 4607182419250377371, .float .f64 4599676419421066581, .float .f64 9218868437227405311] t)).cell? ⟨w.heap.size, i, none⟩ = some (.float .f64 b5) := by
  rw [cell_block (heap_alloc_new w _) i]
  match i, hi with
  | 0, _ => exact ⟨_, rfl⟩
  | 1, _ => exact ⟨_, rfl⟩
  | 2, _ => exact ⟨_, rfl⟩
  | 3, _ => exact ⟨_, rfl⟩
  | 4, _ => exact ⟨_, rfl⟩
  | 5, _ => exact ⟨_, rfl⟩
  | 6, _ => exact ⟨_, rfl⟩
  | 7, _ => exact ⟨_, rfl⟩
  | 8, _ => exact ⟨_, rfl⟩
  | 9, _ => exact ⟨_, rfl⟩
  | 10, _ => exact ⟨_, rfl⟩
  | 11, _ => exact ⟨_, rfl⟩
  | 12, _ => exact ⟨_, rfl⟩
  | 13, _ => exact ⟨_, rfl⟩
  | 14, _ => exact ⟨_, rfl⟩
  | 15, _ => exact ⟨_, rfl⟩
  | i + 16, h => omega
set_option maxRecDepth 100000 in
set_option maxHeartbeats 1000000 in
theorem Try.number_ok (n : Int) (w : World) : Calls Try.prog 26 #[.int .u64 n] w (FloatPost w) := by
  have h1 := fun n w => Try.frombits n w
  have h2 := u64_and15
  obtain ⟨R, F, hq, hF⟩ := quo_all Try.prog 31
  have HF := Lib.hid hF
  clear hF
  go_enter Try.func26, Try.ntmps26
  go_wp2_with (first
    | (go_at_call 47; refine (Try.copysign_ok _).mono ?_; rintro e w1 ⟨b1, rfl, hb1⟩)
    | (go_at_call 48; refine (Try.nan_ok _).mono ?_; rintro e w2 ⟨b2, rfl, hb2⟩)
    | (go_at_call_of 49 (Value.int .i64 1); refine (Try.inf_ok 1 (.inl rfl) _).mono ?_; rintro e w3 ⟨b3, rfl, hb3⟩)
    | (go_at_call 49; refine (Try.inf_ok (-1) (.inr rfl) _).mono ?_; rintro e w4 ⟨b4, rfl, hb4⟩
       have HB := Lib.hid (hb1.trans ((hb2.mono hb1.size).trans ((hb3.mono (Nat.le_trans hb1.size hb2.size)).trans (hb4.mono (Nat.le_trans hb1.size (Nat.le_trans hb2.size hb3.size))))))
       obtain ⟨b5, h5⟩ := lit16 w4 31 b1 b2 b3 b4 (n / 4 % 16).toNat (by omega)))
  all_goals go_ret
  · exact ⟨_, rfl, HB.out.alloc (Nat.le_trans hb1.size (Nat.le_trans hb2.size (Nat.le_trans hb3.size hb4.size))) _⟩
  · exact ⟨_, rfl, (HB.out.alloc (Nat.le_trans hb1.size (Nat.le_trans hb2.size (Nat.le_trans hb3.size hb4.size))) _).trans ((HF.out _ _ _).mono (HB.out.alloc (Nat.le_trans hb1.size (Nat.le_trans hb2.size (Nat.le_trans hb3.size hb4.size))) _).size)⟩
  · exact ⟨_, rfl, (HB.out.alloc (Nat.le_trans hb1.size (Nat.le_trans hb2.size (Nat.le_trans hb3.size hb4.size))) _).trans ((HF.out _ _ _).mono (HB.out.alloc (Nat.le_trans hb1.size (Nat.le_trans hb2.size (Nat.le_trans hb3.size hb4.size))) _).size)⟩
  · exact ⟨_, rfl, HB.out.alloc (Nat.le_trans hb1.size (Nat.le_trans hb2.size (Nat.le_trans hb3.size hb4.size))) _⟩
end Go.Proofs
