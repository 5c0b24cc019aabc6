/-
  Rectangles that are cut.
-/
import Derived.Test.YtkcibhokjiciiaaBq
import Derived.Test.YtkcibhokjiciiaaBn
import Derived.RegionTactic
import Derived.IntWalk
namespace Go.Proofs
open Go.RowKit Go.Lib Tp
attribute [local go_sem ↓] Go.wp_at_zero Go.wp_at_succ

/-- A rectangle's numbers are in range. -/
def RcIn (r : Rc) : Prop := 0 ≤ r.x ∧ 0 ≤ r.y ∧ 0 ≤ r.w ∧ 0 ≤ r.h ∧ r.x ≤ 1000 ∧ r.y ≤ 1000 ∧ r.w ≤ 1000 ∧ r.h ≤ 1000

theorem Try.one_ok (n : Int) (h0 : 0 ≤ n) (h1 : n ≤ 1000) (w : World) :
    Calls Try.prog 59 #[.int .i64 n] w fun e w' => e = .returned (.bool true) ∧ w = w' := by
  go_enter Try.func59, Try.ntmps59
  go_wp2
  go_ret
  exact ⟨by simp, rfl⟩

theorem Try.rok_ok (x y rw rh : Int) (h0 : 0 ≤ x) (h1 : 0 ≤ y) (h2 : 0 ≤ rw) (h3 : 0 ≤ rh) (h4 : x ≤ 1000) (h5 : y ≤ 1000) (h6 : rw ≤ 1000) (h7 : rh ≤ 1000) (w : World) :
    Calls Try.prog 40 #[.agg #[.int .i64 x, .int .i64 y, .int .i64 rw, .int .i64 rh]] w fun e w' => e = .returned (.bool true) ∧ w.alloc (.cells #[.int .i64 x, .int .i64 y, .int .i64 rw, .int .i64 rh] 37) = w' := by
  go_enter Try.func40, Try.ntmps40
  go_wp2_with (go_at_call 59; refine (Try.one_ok _ ?_ ?_ _).mono ?_; assumption; assumption; rintro e w' ⟨rfl, rfl⟩)
  go_ret
  exact ⟨by simp, rfl⟩

set_option maxRecDepth 100000 in
set_option maxHeartbeats 2000000 in
theorem Try.cut1 (x y rw rh f : Int) (h0 : 0 ≤ x) (h1 : 0 ≤ y) (h2 : 0 ≤ rw) (h3 : 0 ≤ rh) (h4 : x ≤ 1000) (h5 : y ≤ 1000) (h6 : rw ≤ 1000) (h7 : rh ≤ 1000) (hf : 1 ≤ f) (hf2 : f ≤ rw - 2) (w : World) :
    Calls Try.prog 60 #[.agg #[.int .i64 x, .int .i64 y, .int .i64 rw, .int .i64 rh], .int .i64 1, .int .i64 f] w fun e w' =>
      e = .returned (.tuple #[.agg #[.int .i64 x, .int .i64 y, .int .i64 f, .int .i64 rh], .agg #[.int .i64 (x + f), .int .i64 y, .int .i64 1, .int .i64 rh], .agg #[.int .i64 (x + f + 1), .int .i64 y, .int .i64 (rw - f - 1), .int .i64 rh], .bool true]) ∧ Below w.heap.size w w' := by
  have e1 : decide (f < 1) = false := by simp; omega
  have e2 : decide (f < rw - 1) = true := by simp; omega
  have hw1 : IntKind.i64.wrap (x + f) = x + f := IntWalk.i64_in _ (by omega)
  have hw2 : IntKind.i64.wrap (x + f + 1) = x + f + 1 := IntWalk.i64_in _ (by omega)
  have hw3 : IntKind.i64.wrap (rw - f) = rw - f := IntWalk.i64_in _ (by omega)
  have hw4 : IntKind.i64.wrap (rw - f - 1) = rw - f - 1 := IntWalk.i64_in _ (by omega)
  go_enter Try.func60, Try.ntmps60
  go_wp2_with (go_at_call 40; refine (Try.rok_ok _ _ _ _ ?_ ?_ ?_ ?_ ?_ ?_ ?_ ?_ _).mono ?_; assumption; assumption; assumption; assumption; assumption; assumption; assumption; assumption; rintro e w1 ⟨rfl, rfl⟩)
  go_region_held3 (fun w' => w'.cell? ⟨w.heap.size, 0, none⟩ = some (.int .i64 x) ∧ w'.cell? ⟨w.heap.size, 1, none⟩ = some (.int .i64 y) ∧ w'.cell? ⟨w.heap.size, 2, none⟩ = some (.int .i64 rw) ∧ w'.cell? ⟨w.heap.size, 3, none⟩ = some (.int .i64 rh)) (simp [go_sem, World.cell?_alloc_past]) (fail)
  go_wp2
  go_region_held3 (fun w' => w'.cell? ⟨w.heap.size, 0, none⟩ = some (.int .i64 x) ∧ w'.cell? ⟨w.heap.size, 1, none⟩ = some (.int .i64 y) ∧ w'.cell? ⟨w.heap.size, 2, none⟩ = some (.int .i64 rw) ∧ w'.cell? ⟨w.heap.size, 3, none⟩ = some (.int .i64 rh)) (simp [go_sem, World.cell?_alloc_past]) (fail)
  go_wp2
  go_region_held3 (fun w' => w'.cell? ⟨w.heap.size, 0, none⟩ = some (.int .i64 x) ∧ w'.cell? ⟨w.heap.size, 1, none⟩ = some (.int .i64 y) ∧ w'.cell? ⟨w.heap.size, 2, none⟩ = some (.int .i64 rw) ∧ w'.cell? ⟨w.heap.size, 3, none⟩ = some (.int .i64 rh)) (simp [go_sem, World.cell?_alloc_past]) (fail)
  go_wp2
  go_region_held3 (fun w' => w'.cell? ⟨w.heap.size + 1, 0, none⟩ = some (.int .i64 (x)) ∧ w'.cell? ⟨w.heap.size + 1, 1, none⟩ = some (.int .i64 (y)) ∧ w'.cell? ⟨w.heap.size + 1, 2, none⟩ = some (.int .i64 (f)) ∧ w'.cell? ⟨w.heap.size + 1, 3, none⟩ = some (.int .i64 (rh)) ∧ w'.cell? ⟨w.heap.size + 1 + 1, 0, none⟩ = some (.int .i64 (x + f)) ∧ w'.cell? ⟨w.heap.size + 1 + 1, 1, none⟩ = some (.int .i64 (y)) ∧ w'.cell? ⟨w.heap.size + 1 + 1, 2, none⟩ = some (.int .i64 (1)) ∧ w'.cell? ⟨w.heap.size + 1 + 1, 3, none⟩ = some (.int .i64 (rh)) ∧ w'.cell? ⟨w.heap.size + 1 + 1 + 1, 0, none⟩ = some (.int .i64 (x + f + 1)) ∧ w'.cell? ⟨w.heap.size + 1 + 1 + 1, 1, none⟩ = some (.int .i64 (y)) ∧ w'.cell? ⟨w.heap.size + 1 + 1 + 1, 2, none⟩ = some (.int .i64 (rw - f - 1)) ∧ w'.cell? ⟨w.heap.size + 1 + 1 + 1, 3, none⟩ = some (.int .i64 (rh))) (simp [go_sem, World.cell?_alloc_past]) (fail)
  go_wp2
  refine bodyPost_ret (v := .tuple #[.agg #[.int .i64 x, .int .i64 y, .int .i64 f, .int .i64 rh], .agg #[.int .i64 (x + f), .int .i64 y, .int .i64 1, .int .i64 rh], .agg #[.int .i64 (x + f + 1), .int .i64 y, .int .i64 (rw - f - 1), .int .i64 rh], .bool true]) (by simp [results, Try.results60, go_sem]) rfl ⟨rfl, ?_⟩
  repeat (first | exact Below.refl _ _ | refine Below.drew ?_ | (refine Below.alloc ?_ (by simp <;> omega) _))

set_option maxRecDepth 100000 in
set_option maxHeartbeats 2000000 in
theorem Try.cut2 (x y rw rh f : Int) (h0 : 0 ≤ x) (h1 : 0 ≤ y) (h2 : 0 ≤ rw) (h3 : 0 ≤ rh) (h4 : x ≤ 1000) (h5 : y ≤ 1000) (h6 : rw ≤ 1000) (h7 : rh ≤ 1000) (hf : 1 ≤ f) (hf2 : f ≤ rh - 2) (w : World) :
    Calls Try.prog 60 #[.agg #[.int .i64 x, .int .i64 y, .int .i64 rw, .int .i64 rh], .int .i64 2, .int .i64 f] w fun e w' =>
      e = .returned (.tuple #[.agg #[.int .i64 x, .int .i64 y, .int .i64 rw, .int .i64 f], .agg #[.int .i64 x, .int .i64 (y + f), .int .i64 rw, .int .i64 1], .agg #[.int .i64 x, .int .i64 (y + f + 1), .int .i64 rw, .int .i64 (rh - f - 1)], .bool true]) ∧ Below w.heap.size w w' := by
  have e1 : decide (f < 1) = false := by simp; omega
  have e2 : decide (f < rh - 1) = true := by simp; omega
  have hw1 : IntKind.i64.wrap (y + f) = y + f := IntWalk.i64_in _ (by omega)
  have hw2 : IntKind.i64.wrap (y + f + 1) = y + f + 1 := IntWalk.i64_in _ (by omega)
  have hw3 : IntKind.i64.wrap (rh - f) = rh - f := IntWalk.i64_in _ (by omega)
  have hw4 : IntKind.i64.wrap (rh - f - 1) = rh - f - 1 := IntWalk.i64_in _ (by omega)
  go_enter Try.func60, Try.ntmps60
  go_wp2_with (go_at_call 40; refine (Try.rok_ok _ _ _ _ ?_ ?_ ?_ ?_ ?_ ?_ ?_ ?_ _).mono ?_; assumption; assumption; assumption; assumption; assumption; assumption; assumption; assumption; rintro e w1 ⟨rfl, rfl⟩)
  go_region_held3 (fun w' => w'.cell? ⟨w.heap.size, 0, none⟩ = some (.int .i64 x) ∧ w'.cell? ⟨w.heap.size, 1, none⟩ = some (.int .i64 y) ∧ w'.cell? ⟨w.heap.size, 2, none⟩ = some (.int .i64 rw) ∧ w'.cell? ⟨w.heap.size, 3, none⟩ = some (.int .i64 rh)) (simp [go_sem, World.cell?_alloc_past]) (fail)
  go_wp2
  go_region_held3 (fun w' => w'.cell? ⟨w.heap.size, 0, none⟩ = some (.int .i64 x) ∧ w'.cell? ⟨w.heap.size, 1, none⟩ = some (.int .i64 y) ∧ w'.cell? ⟨w.heap.size, 2, none⟩ = some (.int .i64 rw) ∧ w'.cell? ⟨w.heap.size, 3, none⟩ = some (.int .i64 rh)) (simp [go_sem, World.cell?_alloc_past]) (fail)
  go_wp2
  go_region_held3 (fun w' => w'.cell? ⟨w.heap.size, 0, none⟩ = some (.int .i64 x) ∧ w'.cell? ⟨w.heap.size, 1, none⟩ = some (.int .i64 y) ∧ w'.cell? ⟨w.heap.size, 2, none⟩ = some (.int .i64 rw) ∧ w'.cell? ⟨w.heap.size, 3, none⟩ = some (.int .i64 rh)) (simp [go_sem, World.cell?_alloc_past]) (fail)
  go_wp2
  go_region_held3 (fun w' => w'.cell? ⟨w.heap.size + 1, 0, none⟩ = some (.int .i64 (x)) ∧ w'.cell? ⟨w.heap.size + 1, 1, none⟩ = some (.int .i64 (y)) ∧ w'.cell? ⟨w.heap.size + 1, 2, none⟩ = some (.int .i64 (rw)) ∧ w'.cell? ⟨w.heap.size + 1, 3, none⟩ = some (.int .i64 (f)) ∧ w'.cell? ⟨w.heap.size + 1 + 1, 0, none⟩ = some (.int .i64 (x)) ∧ w'.cell? ⟨w.heap.size + 1 + 1, 1, none⟩ = some (.int .i64 (y + f)) ∧ w'.cell? ⟨w.heap.size + 1 + 1, 2, none⟩ = some (.int .i64 (rw)) ∧ w'.cell? ⟨w.heap.size + 1 + 1, 3, none⟩ = some (.int .i64 (1)) ∧ w'.cell? ⟨w.heap.size + 1 + 1 + 1, 0, none⟩ = some (.int .i64 (x)) ∧ w'.cell? ⟨w.heap.size + 1 + 1 + 1, 1, none⟩ = some (.int .i64 (y + f + 1)) ∧ w'.cell? ⟨w.heap.size + 1 + 1 + 1, 2, none⟩ = some (.int .i64 (rw)) ∧ w'.cell? ⟨w.heap.size + 1 + 1 + 1, 3, none⟩ = some (.int .i64 (rh - f - 1))) (simp [go_sem, World.cell?_alloc_past]) (fail)
  go_wp2
  refine bodyPost_ret (v := .tuple #[.agg #[.int .i64 x, .int .i64 y, .int .i64 rw, .int .i64 f], .agg #[.int .i64 x, .int .i64 (y + f), .int .i64 rw, .int .i64 1], .agg #[.int .i64 x, .int .i64 (y + f + 1), .int .i64 rw, .int .i64 (rh - f - 1)], .bool true]) (by simp [results, Try.results60, go_sem]) rfl ⟨rfl, ?_⟩
  repeat (first | exact Below.refl _ _ | refine Below.drew ?_ | (refine Below.alloc ?_ (by simp <;> omega) _))

end Go.Proofs
