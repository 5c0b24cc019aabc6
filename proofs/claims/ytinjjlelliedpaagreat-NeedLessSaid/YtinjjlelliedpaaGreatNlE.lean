/-
  What need.Enough answers, whatever needs are held and wanted.
-/
import Derived.Test.YtinjjlelliedpaaGreatNlP
import Derived.Test.YtinjjlelliedpaaGreatNlT
import Derived.Lib.SliceRun
import Derived.WalkKit
import Derived.ProofKit
namespace Go.Proofs
open Go.Shelf Go.RowKit Go.Lib

/-- A need's two cells. -/
def Tryz.encN (x : Int × Bool) : List Value := [.int .i64 x.1, .bool x.2]
def Tryz.fitsN (r : Int) (wb : Bool) (h : Int × Bool) : Bool := h.1 == r && (h.2 || !wb)

/-- The closure of Enough. -/
theorem Tryz.pred7 (r : Int) (wb : Bool) (B : Nat) (w : World) (hB : B < w.heap.size) (h0 : w.cell? ⟨B, 0, none⟩ = some (.int .i64 r)) (h1 : w.cell? ⟨B, 1, none⟩ = some (.bool wb)) :
    PredBelow Tryz.prog 7 #[.pointer (some ⟨B, 0, none⟩)] (fun x => .agg (Tryz.encN x).toArray) (Tryz.fitsN r wb) w := fun W x hb => by
  have c0 : W.cell? ⟨B, 0, none⟩ = some (.int .i64 r) := (hb.cell (p := ⟨B, 0, none⟩) hB).trans h0
  have c1 : W.cell? ⟨B, 1, none⟩ = some (.bool wb) := (hb.cell (p := ⟨B, 1, none⟩) hB).trans h1
  have hBW : B < W.heap.size := Nat.lt_of_lt_of_le hB hb.size
  have hne : B ≠ W.heap.size := by omega
  obtain ⟨a, b⟩ := x
  show Calls Tryz.prog 7 #[.agg #[.int .i64 a, .bool b], .pointer (some ⟨B, 0, none⟩)] W fun e w' => e = .returned (.bool (a == r && (b || !wb))) ∧ Below w.heap.size w w'
  clear h0 h1
  cases b <;> cases wb
  all_goals
    go_enter Tryz.func7, Tryz.ntmps7
    go_wp2
    all_goals (go_ret; exact ⟨by simp_all, hb.alloc hb.size _⟩)

set_option maxHeartbeats 1000000 in
theorem AnyQ.slices_IndexFunc_empty {P : Program} {ρ : Ren} (L : SlLaysH0.n6 P ρ) (a : Option Addr) (c : Nat) (fv : Value) (w : World) :
    Calls P (ρ.f 6) #[.slice a 0 c, fv] w fun e w' => e = .returned (.int .i64 (-1)) ∧ w' = w := by
  have mixed := L.mixed; have t0 := L.t0; have a0 := L.a0; have z0 := L.z0; have v0 := L.v0; have t3 := L.t3; have a3 := L.a3; have z3 := L.z3; have v3 := L.v3; have t4 := L.t4; have a4 := L.a4; have z4 := L.z4; have v4 := L.v4; have t22 := L.t22; have a22 := L.a22; have z22 := L.z22; have v22 := L.v22; have t25 := L.t25; have a25 := L.a25; have z25 := L.z25; have v25 := L.v25
  obtain ⟨_, _, FG⟩ := L.f6
  go_enter FG, SlBodyH.n6_ntmps ρ
  go_wp2
  go_loopg [5, 8] 0 (fun _ _ s8 wr => s8 = .int .i64 0 ∧ wr = w)
  case atStart => exact ⟨rfl, rfl⟩
  case round =>
    obtain ⟨rfl, rfl⟩ := hrel
    go_wp2
    go_ret
    exact ⟨rfl, rfl⟩
theorem AnyQ.slices_ContainsFunc_empty {P : Program} {ρ : Ren} (L : SlLaysH0.n8 P ρ) (a : Option Addr) (c : Nat) (fv : Value) (w : World) :
    Calls P (ρ.f 8) #[.slice a 0 c, fv] w fun e w' => e = .returned (.bool false) ∧ w' = w := by
  have mixed := L.mixed; have t0 := L.t0; have a0 := L.a0; have z0 := L.z0; have v0 := L.v0; have t3 := L.t3; have a3 := L.a3; have z3 := L.z3; have v3 := L.v3; have t4 := L.t4; have a4 := L.a4; have z4 := L.z4; have v4 := L.v4; have t22 := L.t22; have a22 := L.a22; have z22 := L.z22; have v22 := L.v22; have t25 := L.t25; have a25 := L.a25; have z25 := L.z25; have v25 := L.v25
  have e6 : ∀ args w, (callFunc (ρ.f 6) args).run P w = .ok (.enter (ρ.f 6) args) w := L.f6.enters rfl
  obtain ⟨_, _, FG⟩ := L.f8
  go_enter FG, SlBodyH.n8_ntmps ρ
  go_wp2_with (go_at_fn (ρ.f 6); refine (AnyQ.slices_IndexFunc_empty { L with } a c fv _).mono ?_; rintro e w' ⟨rfl, rfl⟩)
  go_ret
  exact ⟨rfl, rfl⟩

/-- A slice of needs. -/
def Tryz.NeedsAt (w : World) (hs : List (Int × Bool)) (v : Value) : Prop :=
  ∃ (a : Option Addr) (n c : Nat), v = .slice a n c ∧ n = hs.length ∧ n ≤ 9223372036854775807 ∧ (n ≠ 0 → ∃ b off, a = some ⟨b, off, none⟩ ∧ b < w.heap.size ∧
    ∀ j, j < hs.length → w.cell? ⟨b, off + j * 2, none⟩ = some (.int .i64 hs[j]!.1) ∧ w.cell? ⟨b, off + j * 2 + 1, none⟩ = some (.bool hs[j]!.2))
theorem Tryz.NeedsAt.grow {w W : World} {hs : List (Int × Bool)} {v : Value} (h : Tryz.NeedsAt w hs v) (hW : Below w.heap.size w W) : Tryz.NeedsAt W hs v := by
  obtain ⟨a, n, c, rfl, hn, hb, h⟩ := h
  refine ⟨a, n, c, rfl, hn, hb, fun h0 => ?_⟩
  obtain ⟨b, off, rfl, hlt, hc⟩ := h h0
  exact ⟨b, off, rfl, Nat.lt_of_lt_of_le hlt hW.size, fun j hj => ⟨(hW.cell (p := ⟨b, off + j * 2, none⟩) hlt).trans (hc j hj).1, (hW.cell (p := ⟨b, off + j * 2 + 1, none⟩) hlt).trans (hc j hj).2⟩⟩

/-- What is held, asked for a need that lies in a variable. -/
theorem Tryz.contains6 {hs : List (Int × Bool)} {v : Value} {W : World} (h : Tryz.NeedsAt W hs v) (r : Int) (wb : Bool) (B : Nat) (hB : B < W.heap.size) (h0 : W.cell? ⟨B, 0, none⟩ = some (.int .i64 r)) (h1 : W.cell? ⟨B, 1, none⟩ = some (.bool wb)) :
    Calls Tryz.prog 6 #[v, .func (.func 7) #[] #[.pointer (some ⟨B, 0, none⟩)]] W fun e w' => e = .returned (.bool (hs.any (Tryz.fitsN r wb))) ∧ Below W.heap.size W w' := by
  obtain ⟨a, n, c, rfl, hn, hb, h⟩ := h
  by_cases hz : n = 0
  · subst hz
    have : hs = [] := List.length_eq_zero_iff.1 hn.symm
    subst this
    exact (AnyQ.slices_ContainsFunc_empty Tryz.containsA a c _ W).mono fun e w' ⟨he, hw⟩ => ⟨he, by rw [hw]; exact Below.refl _ _⟩
  · obtain ⟨b, off, rfl, hlt, hc⟩ := h hz
    have eg : ∀ args w, (callFunc 7 args).run Tryz.prog w = .ok (.enter 7 args) w := enters_of Tryz.func7 (by kernel_rfl) rfl
    have hcon := AnyQ.slices_ContainsFunc Tryz.containsA 2 Tryz.isAgg25 Tryz.sizeOf25 Tryz.encN (fun _ => rfl) (Tryz.fitsN r wb) 7 #[.pointer (some ⟨B, 0, none⟩)] eg b off n c hs W
      (Tryz.pred7 r wb B W hB h0 h1) (by omega) hb hlt (fun j hj i u hi => by
        have h1 := hc j hj
        generalize hs[j]! = y at hi h1
        match i, hi with
        | 0, hi => simp [Tryz.encN] at hi; rw [← hi]; exact h1.1
        | 1, hi => simp [Tryz.encN] at hi; rw [← hi]; exact h1.2
        | i + 2, hi => simp [Tryz.encN] at hi)
    rw [hn, List.take_length] at hcon
    rw [hn]
    exact hcon

theorem Tryz.enough_true {hs ws : List (Int × Bool)} (h : ∀ j, j < ws.length → hs.any (Tryz.fitsN ws[j]!.1 ws[j]!.2) = true) : Cm.enoughP hs ws = true := by
  unfold Cm.enoughP
  rw [List.all_eq_true]
  intro x hx
  obtain ⟨j, hj, rfl⟩ := List.mem_iff_getElem.1 hx
  have := h j hj
  rw [getElem!_pos ws j hj] at this
  exact this
theorem Tryz.enough_false {hs ws : List (Int × Bool)} {j : Nat} (hj : j < ws.length) (h : hs.any (Tryz.fitsN ws[j]!.1 ws[j]!.2) = false) : Cm.enoughP hs ws = false := by
  unfold Cm.enoughP
  rw [List.all_eq_false]
  refine ⟨ws[j], List.getElem_mem hj, ?_⟩
  rw [getElem!_pos ws j hj] at h
  rw [Bool.not_eq_true]
  exact h

set_option maxHeartbeats 2000000 in
/-- need.Enough. -/
theorem Tryz.enough4 (hs ws : List (Int × Bool)) (u v : Value) (w : World) (hh : Tryz.NeedsAt w hs u) (hv : Tryz.NeedsAt w ws v) :
    Calls Tryz.prog 4 #[u, v] w fun e w' => e = .returned (.bool (Cm.enoughP hs ws)) ∧ Below w.heap.size w w' := by
  obtain ⟨a, m, c, rfl, rfl, hbig, hW⟩ := hv
  have hcon : ∀ (W : World), Below w.heap.size w W → ∀ (r : Int) (wb : Bool) (B : Nat), B < W.heap.size → W.cell? ⟨B, 0, none⟩ = some (.int .i64 r) → W.cell? ⟨B, 1, none⟩ = some (.bool wb) →
      Calls Tryz.prog 6 #[u, .func (.func 7) #[] #[.pointer (some ⟨B, 0, none⟩)]] W fun e w' => e = .returned (.bool (hs.any (Tryz.fitsN r wb))) ∧ Below W.heap.size W w' :=
    fun W hb r wb B hB h0 h1 => Tryz.contains6 (hh.grow hb) r wb B hB h0 h1
  clear hh
  go_enter Tryz.func4, Tryz.ntmps4
  go_wp2
  go_loopg [9] ws.length (fun gg s9 wr => ∃ kk : Nat, kk ≤ ws.length ∧ ws.length - kk ≤ gg ∧ s9 = .int .i64 kk ∧ Aside (Below w.heap.size w wr) ∧ Aside (∀ j, j < kk → hs.any (Tryz.fitsN ws[j]!.1 ws[j]!.2) = true))
  case atStart => exact ⟨0, Nat.zero_le _, by omega, rfl, Below.refl _ w, fun j hj => absurd hj (Nat.not_lt_zero _)⟩
  case round =>
    obtain ⟨kk, hkk, hg, rfl, BW, A⟩ := hrel
    by_cases hlt : kk < ws.length
    · have hltz : (kk : Int) < (ws.length : Int) := by omega
      obtain ⟨b, off, rfl, hbl, hc⟩ := hW (by omega)
      have hc := hc kk (by omega)
      have c0 : wr.cell? ⟨b, off + kk * 2, none⟩ = some (.int .i64 ws[kk]!.1) := (BW.out.cell (p := ⟨b, off + kk * 2, none⟩) hbl).trans hc.1
      have c1 : wr.cell? ⟨b, off + kk * 2 + 1, none⟩ = some (.bool ws[kk]!.2) := (BW.out.cell (p := ⟨b, off + kk * 2 + 1, none⟩) hbl).trans hc.2
      clear hc hW
      generalize hy : ws[kk]! = y at c0 c1
      obtain ⟨r, wb⟩ := y
      have Y : Aside (ws[kk]! = (r, wb)) := hy
      clear hy
      have hcall := hcon (wr.alloc (.cells #[.int .i64 r, .bool wb] 25)) (BW.out.alloc BW.out.size _) r wb wr.heap.size (by simp) (by simp) (by simp)
      clear hcon
      cases hq : hs.any (Tryz.fitsN r wb) with
      | false =>
        rw [hq] at hcall
        have Q : Aside (hs.any (Tryz.fitsN r wb) = false) := hq
        clear hq
        go_wp2_with (go_at_call 6; refine hcall.mono ?_; rintro e w' ⟨rfl, hb'⟩)
        go_ret
        refine ⟨?_, (BW.out.alloc BW.out.size _).trans (hb'.mono (by have := BW.out.size; simp; omega))⟩
        have h1 := Q.out
        rw [← show (ws[kk]!).1 = r by rw [Y.out], ← show (ws[kk]!).2 = wb by rw [Y.out]] at h1
        rw [Tryz.enough_false hlt h1]; rfl
      | true =>
        rw [hq] at hcall
        have Q : Aside (hs.any (Tryz.fitsN r wb) = true) := hq
        clear hq
        go_wp2_with (go_at_call 6; refine hcall.mono ?_; rintro e w' ⟨rfl, hb'⟩)
        go_roundg (ws.length - (kk + 1))
        case measure => omega
        case rel =>
          refine ⟨kk + 1, by omega, by omega, by go_num, (show Aside _ from (BW.out.alloc BW.out.size _).trans (hb'.mono (by have := BW.out.size; simp; omega))), (show Aside _ from fun j hj => ?_)⟩
          by_cases e : j = kk
          · subst e
            rw [Y.out]; exact Q.out
          · exact A.out j (by omega)
    · have hltz : ¬ (kk : Int) < (ws.length : Int) := by omega
      have : kk = ws.length := by omega
      subst this
      have T : Aside (Cm.enoughP hs ws = true) := Tryz.enough_true A.out
      clear A hcon hW
      go_wp2
      go_ret
      exact ⟨by rw [T.out]; rfl, BW.out⟩
end Go.Proofs
