/-
  How long a pane's place is; shares of numbers. Shares of numbers: some number within the whole.
-/
import Derived.Test.YtkcibhokjiciiaaBb
import Derived.Deep.LoopGhost
import Derived.WalkLawsBesides
import Derived.Laws.FloatArith
namespace Tp
/-- How many columns (1), or rows, the first place of a pane has. -/
def lng (l : List Sp) (p d : Int) : Int := match l.find? fun s => decide (s.pane = p) with
  | some s => if d = 1 then s.r.w else s.r.h
  | none => 0
theorem lng_at {l : List Sp} {p d : Int} {k : Nat} (hk : k < l.length) (h : ∀ j (hj : j < l.length), j < k → l[j].pane ≠ p) (hp : l[k].pane = p) : lng l p d = if d = 1 then l[k].r.w else l[k].r.h := by
  have : l.find? (fun s => decide (s.pane = p)) = some l[k] := by
    rw [List.find?_eq_some_iff_getElem]
    refine ⟨by simpa using hp, k, hk, rfl, fun j hj => by simpa using h j (by omega) hj⟩
  unfold lng; rw [this]
theorem lng_none {l : List Sp} {p d : Int} (h : ∀ j (hj : j < l.length), l[j].pane ≠ p) : lng l p d = 0 := by
  have : l.find? (fun s => decide (s.pane = p)) = none := by
    rw [List.find?_eq_none]
    intro x hx
    obtain ⟨j, hj, rfl⟩ := List.mem_iff_getElem.1 hx
    simpa using h j hj
  unfold lng; rw [this]
end Tp
namespace Go.Proofs
open Go.RowKit Go.Lib Go.Sort Tp
attribute [local go_sem ↓] Go.wp_at_zero Go.wp_at_succ

set_option maxRecDepth 100000 in
theorem Try.long_ok (l : List Sp) (v : Value) (p d : Int) (w : World) (hd : d = 1 ∨ d = 2) (h0 : 0 < l.length) (hl : l.length ≤ 1000) (hv : SpotsAt w v l) :
    Calls Try.prog 29 #[v, .int .i64 p, .int .i64 d] w fun e w' => e = .returned (.int .i64 (lng l p d)) ∧ Below w.heap.size w w' := by
  obtain ⟨b, off, c, rfl, hb, hc⟩ := hv.at h0
  have HC := Lib.hid hc
  clear hv hc
  rcases hd with rfl | rfl
  all_goals
    go_enter Try.func29, Try.ntmps29
    go_wp2_with fail
    go_loopg [6, 8, 11] l.length (fun gg s6 s8 s11 wr => ∃ kk : Nat, kk ≤ l.length ∧ l.length - kk ≤ gg ∧ s6 = .int .i64 0 ∧ s11 = .int .i64 kk ∧ Aside (Below w.heap.size w wr) ∧ Aside (∀ j (hj : j < l.length), j < kk → l[j].pane ≠ p))
    case atStart => exact ⟨0, Nat.zero_le _, by omega, rfl, rfl, Below.refl _ w, fun j _ hj => absurd hj (Nat.not_lt_zero _)⟩
    case round =>
      obtain ⟨kk, hkk, hg, rfl, rfl, BW, HA⟩ := hrel
      by_cases hlt : kk < l.length
      · have hltz : (kk : Int) < (l.length : Int) := by omega
        obtain ⟨e0, e1, e2, e3, e4⟩ := HC.out kk hlt
        have t0 : wr.cell? ⟨b, off + kk * 5, none⟩ = _ := (BW.out.cell (p := ⟨b, off + kk * 5, none⟩) hb).trans e0
        have t1 : wr.cell? ⟨b, off + kk * 5 + 1, none⟩ = _ := (BW.out.cell (p := ⟨b, off + kk * 5 + 1, none⟩) hb).trans e1
        have t2 : wr.cell? ⟨b, off + kk * 5 + 2, none⟩ = _ := (BW.out.cell (p := ⟨b, off + kk * 5 + 2, none⟩) hb).trans e2
        have t3 : wr.cell? ⟨b, off + kk * 5 + 3, none⟩ = _ := (BW.out.cell (p := ⟨b, off + kk * 5 + 3, none⟩) hb).trans e3
        have t4 : wr.cell? ⟨b, off + kk * 5 + 4, none⟩ = _ := (BW.out.cell (p := ⟨b, off + kk * 5 + 4, none⟩) hb).trans e4
        have Y := Lib.hid (rfl : l[kk] = l[kk])
        clear e0 e1 e2 e3 e4
        by_cases hp : l[kk].pane = p
        · have L := Lib.hid (lng_at (d := 1) hlt HA.out hp)
          have L2 := Lib.hid (lng_at (d := 2) hlt HA.out hp)
          generalize l[kk] = s at t0 t1 t2 t3 t4 hp L L2
          subst hp
          go_wp2
          go_ret
          refine ⟨?_, BW.out.alloc BW.out.size _⟩
          first | (rw [L.out]; rfl) | (rw [L2.out]; rfl)
        · have HP := Lib.hid hp
          have hq : (l[kk].pane == p) = false := by simpa using hp
          have hq2 : decide (l[kk].pane = p) = false := by simpa using hp
          generalize l[kk] = s at t0 t1 t2 t3 t4 hp hq hq2
          go_wp2
          go_roundg (l.length - (kk + 1))
          case measure => omega
          case rel =>
            refine ⟨kk + 1, by omega, by omega, rfl, by go_num, BW.out.alloc BW.out.size _, fun j hj hjk => ?_⟩
            by_cases e : j = kk
            · subst e; exact HP.out
            · exact HA.out j hj (by omega)
      · have hltz : ¬ (kk : Int) < (l.length : Int) := by omega
        have L := Lib.hid (lng_none (d := 1) (fun j hj => HA.out j hj (by omega)))
        have L2 := Lib.hid (lng_none (d := 2) (fun j hj => HA.out j hj (by omega)))
        go_wp2
        go_ret
        refine ⟨?_, BW.out⟩
        first | (rw [L.out]; rfl) | (rw [L2.out]; rfl)
end Go.Proofs
namespace Go.Proofs
open Go.RowKit Go.Lib Go.Sort Tp
attribute [local go_sem ↓] Go.wp_at_zero Go.wp_at_succ

def BoolPost (w : World) (e : Ending) (w' : World) : Prop := ∃ c : Bool, e = .returned (.bool c) ∧ w = w'
theorem Try.isnan_ok (b : Nat) (w : World) : Calls Try.prog 54 #[.float .f64 b] w (BoolPost w) := by
  go_enter Try.func54, Try.ntmps54
  go_wp2
  go_ret
  exact ⟨_, rfl, rfl⟩

/-- A float's operation, or a conversion: some value; the world is as it was, but for a draw. -/
theorem arith_any {P : Program} (op : BinOp) (hop : op = .mul ∨ op = .quo) (t : TypeId) (x y : Nat) (w : World) : ∃ r w', (binOp op t (.float .f64 x) (.float .f64 y)).run P w = .ok (.float .f64 r) w' ∧ Below w.heap.size w w' := by
  rcases hop with rfl | rfl
  · cases h : FloatKind.f64.format.mul x y with
    | some r => exact ⟨r, w, run_float_arith w .mul t .f64 x y r (by unfold floatBits; exact h), Below.refl _ _⟩
    | none =>
      by_cases hf : (Question.nanBits .f64 x y).forced = true
      · exact ⟨0, w, by simp [binOp, Op.floatArith, h, hf], Below.refl _ _⟩
      · exact ⟨_, w.drew, by simp [binOp, Op.floatArith, h, hf]; rfl, (Below.refl _ _).drew⟩
  · cases h : FloatKind.f64.format.div x y with
    | some r => exact ⟨r, w, run_float_arith w .quo t .f64 x y r (by unfold floatBits; exact h), Below.refl _ _⟩
    | none =>
      by_cases hf : (Question.nanBits .f64 x y).forced = true
      · exact ⟨0, w, by simp [binOp, Op.floatArith, h, hf], Below.refl _ _⟩
      · exact ⟨_, w.drew, by simp [binOp, Op.floatArith, h, hf]; rfl, (Below.refl _ _).drew⟩
theorem wild_any {P : Program} (q : Question) (w : World) : ∃ z w', (do pure (Value.int .i64 (IntKind.i64.wrap (← choose q))) : Sem Value).run P w = .ok (.int .i64 z) w' ∧ Below w.heap.size w w' := by
  by_cases hf : q.forced = true
  · exact ⟨IntKind.i64.wrap 0, w, by simp [hf], Below.refl _ _⟩
  · exact ⟨_, w.drew, by simp [hf]; rfl, (Below.refl _ _).drew⟩
theorem conv_any {P : Program} (src dst : TypeId) (hs : P.underlying src = some (.float .f64)) (hd : P.underlying dst = some (.int .i64)) (b : Nat) (w : World) : ∃ z w', (convert src dst (.float .f64 b)).run P w = .ok (.int .i64 z) w' ∧ Below w.heap.size w w' := by
  have key : (convert src dst (.float .f64 b)).run P w = (Conv.floatToInt .f64 b .i64).run P w := by simp [convert, run_underlying hs, run_underlying hd]
  rw [key]
  unfold Conv.floatToInt
  simp only
  split
  · split
    · exact ⟨_, w, by simp; rfl, Below.refl _ _⟩
    · exact wild_any _ w
  · exact wild_any _ w

def PartPost (n : Int) (w : World) (e : Ending) (w' : World) : Prop := ∃ m : Int, 0 ≤ m ∧ m ≤ n ∧ e = .returned (.int .i64 m) ∧ Below w.heap.size w w'
set_option maxRecDepth 100000 in
theorem Try.part_ok (n : Int) (b : Nat) (w : World) (h0 : 0 ≤ n) (h1 : n ≤ 10000) : Calls Try.prog 32 #[.int .i64 n, .float .f64 b] w (PartPost n w) := by
  have H0 : ∀ w', Calls Try.prog 31 #[.int .i64 n, .int .i64 0, .int .i64 10000] w' fun e w'' => e = .returned (.int .i64 n) ∧ w' = w'' := fun w' => by
    have := Try.held_ok n 0 10000 w'
    rwa [held_eq h0 h1] at this
  have H := Lib.hid H0
  clear H0
  obtain ⟨r, w1, hr, hw1⟩ := arith_any (P := Try.prog) .mul (.inl rfl) 31 b (floatOfInt FloatKind.f64 n) w
  obtain ⟨z, w2, hz, hw2⟩ := conv_any (P := Try.prog) 31 3 Try.underlying31 Try.underlying3 r w1
  have HH := Lib.hid (fun w' => Try.held_ok z 0 n w')
  have hh := held_in (n := z) (lo := 0) (hi := n) h0
  have W1 := Lib.hid hw1; have W2 := Lib.hid hw2
  clear hw1 hw2
  go_enter Try.func32, Try.ntmps32
  go_wp2_with (first
    | (go_at_call_of 31 (Value.int .i64 10000); refine (H.out _).mono ?_; rintro e w2 ⟨rfl, rfl⟩)
    | (go_at_call_of 31 (Value.int .i64 z); refine (HH.out _).mono ?_; rintro e w2 ⟨rfl, rfl⟩)
    | (go_at_call 54; refine (Try.isnan_ok _ _).mono ?_; rintro e w2 ⟨c, rfl, rfl⟩))
  all_goals go_ret
  · exact ⟨n / 2, by omega, by omega, rfl, Below.refl _ _⟩
  · exact ⟨0, by omega, by omega, rfl, Below.refl _ _⟩
  · exact ⟨n, by omega, by omega, rfl, Below.refl _ _⟩
  · exact ⟨_, hh.1, hh.2, rfl, W1.out.trans (W2.out.mono W1.out.size)⟩
end Go.Proofs
