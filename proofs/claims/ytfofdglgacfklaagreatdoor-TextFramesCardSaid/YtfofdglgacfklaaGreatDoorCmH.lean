/-
  Makes, appends, copies, conversions, lengths.
-/
import Derived.Test.YtfofdglgacfklaaGreatDoorCmG
import Derived.Laws.BytesString
import Derived.IntWalk
namespace Go.Cm
open Go Go.RowKit

theorem reach_some {n b : Nat} (h : inReach n b = true) : n ≤ 1000000000 ∧ n * b ≤ 1000000000000 := by
  unfold inReach at h
  rw [Bool.and_eq_true] at h
  exact ⟨Nat.le_of_ble_eq_true h.1, Nat.le_of_ble_eq_true h.2⟩

theorem wrap_small (n : Nat) (h : n ≤ 1000000000) : IntKind.i64.wrap (n : Int) = n := by
  exact IntWalk.i64_in _ (by omega)

section
variable {E : Env} (ok : E.Ok) {base : Nat} {μ : Mu} {w : World} {s s' : St}
include ok

theorem does_makeSlice {t : TypeId} {l c v : Value} (h : makeSliceA E t l c s = some (v, s')) (hs : SRel base μ s.rows.get w) (hf : ∀ r, s.next ≤ r → r < s'.next → μ r = none) :
    Does E base μ w s s' (Instr.makeSlice t l c) fun μ' b => VRel μ' v b := by
  unfold makeSliceA at h
  simp only [lift_bind, guard_bind, fresh_bind, pure_some, Option.bind_eq_some_iff, sliceT_some, Bool.and_eq_true, idx_some] at h
  obtain ⟨e, ⟨d, hd, rfl⟩, i, hi, m, ⟨k1, rfl⟩, n, ⟨k2, rfl⟩, ⟨hle, hreach⟩, hb, e1, e2⟩ := h
  subst e1
  obtain ⟨inf, z, he⟩ := elem_some hi
  obtain ⟨hn, hbytes⟩ := reach_some hreach
  have hmn := Nat.le_of_ble_eq_true hle
  rw [he.es] at e2
  obtain ⟨hs', hg⟩ := does_new (t := e) (c' := ⟨repeats i.zero n⟩) he.small (Or.inr rfl) hb e2 (VRels.plain (repeats_plain he.plain n)) hs hf
  refine ⟨.slice (some ⟨w.heap.size, 0, none⟩) m n, _, _, ?_, ?_, hs', hg⟩
  · unfold Instr.makeSlice
    have hz : z.cells = ⟨i.zero⟩ := by apply Array.ext'; exact he.cells.symm
    have hzl := he.len
    have hpos := he.pos
    have hc1 : IntKind.i64.wrap (Int.ofNat n) = (n : Int) := wrap_small n hn
    have hc2 : IntKind.i64.wrap (Int.ofNat m) = (m : Int) := wrap_small m (by omega)
    have hb2 : ¬ ((inf.bytes : Int) * (n : Int) > 2 ^ 48) := by
      rw [he.bytes]
      have : ((i.bytes * n : Nat) : Int) ≤ ((1000000000000 : Nat) : Int) := Int.ofNat_le.2 (by rw [Nat.mul_comm]; exact hbytes)
      rw [Int.natCast_mul] at this
      omega
    have htl : (decide ((n : Int) < 0) || decide ((inf.bytes : Int) * (n : Int) > 2 ^ 48)) = false := by
      rw [Bool.or_eq_false_iff]; exact ⟨decide_eq_false (by omega), decide_eq_false hb2⟩
    simp only [Sem.run_bind, ok.run_und w hd, Result.andThen_ok, asInt, asIntOf, Sem.run_pure, ok.run_info w he.info, hc1, hc2, htl]
    have hcond : (false || decide ((m : Int) < 0) || decide ((m : Int) > (n : Int))) = false := by
      simp only [Bool.false_or, Bool.or_eq_false_iff, decide_eq_false_iff_not]; omega
    rw [hcond]
    simp only [Bool.false_eq_true, if_false, Sem.run_bind, run_askRoom, Result.andThen_ok, ok.run_size w he.info, Int.toNat_natCast, he.size]
    have hcells : ∀ (zero : Array Value), (n = 0 → zero = #[]) → (n ≠ 0 → zero = ⟨i.zero⟩) →
        (Array.range (n * i.size)).map (fun k => zero[k % zero.size]!) = ⟨repeats i.zero n⟩ := by
      intro zero h0 h1
      by_cases hl : n = 0
      · subst hl; simp [repeats]
      · rw [h1 hl]
        have := range_map_zero i.zero (by omega) n
        rw [hzl] at this
        simpa [hzl] using this
    by_cases hl : n = 0
    · rw [if_pos (by rw [hl]; simp)]
      simp only [Sem.run_bind, Sem.run_pure, Result.andThen_ok, hcells #[] (fun _ => rfl) (fun h => absurd hl h)]
      unfold newRow
      simp only [Sem.run_bind, run_newObj, Result.andThen_ok, Sem.run_pure, World.alloc_eq]
    · rw [if_neg (Nat.mul_ne_zero hl (by omega))]
      simp only [Sem.run_bind, Sem.run_pure, Result.andThen_ok, (ok.run_zero w he.zero).1, hz, hcells ⟨i.zero⟩ (fun h => absurd h hl) (fun _ => rfl)]
      unfold newRow
      simp only [Sem.run_bind, run_newObj, Result.andThen_ok, Sem.run_pure, World.alloc_eq]
  · have := VRel.slice (μ := μ.with s.next ⟨w.heap.size, 0, (repeats i.zero n).length, i.size, e + 1⟩) s.next 0 m n _ (Mu.with_at _ _ _)
    simpa using this

omit ok
/-- The first cells of a slice. -/
theorem read_ok {P : Program} {size : Nat} {a : Option Addr} {n len cap : Nat} {l : List Value} {v' : Value} (h : readA size a n s = some (l, s')) (hv : VRel μ (.slice a len cap) v') (hn : n ≤ len) (hs : SRel base μ s.rows.get w) :
    ∃ l', VRels μ l l' ∧ l'.length = n * size ∧ (∀ w2 : World, (∀ b : Nat, w2.heap[b]? = w.heap[b]?) → (Builtin.firstCells size n v').run P w2 = .ok ⟨l'⟩ w2) ∧ s'.rows = s.rows ∧ s'.next = s.next := by
  cases n with
  | zero =>
    unfold readA at h
    rw [pure_some] at h
    obtain ⟨rfl, rfl⟩ := h
    refine ⟨[], .nil, by simp, fun w2 _ => ?_, rfl, rfl⟩
    cases a with
    | none => rw [hv.ofNilSlice]; rfl
    | some a =>
      have hload : ∀ a' : Addr, (loadCells a' (0 * size)).run P w2 = .ok #[] w2 := fun a' => by
        have := run_loadCells_list (P := P) w2 a' [] (by simp)
        simpa using this
      rcases hv.ofSlice with ⟨L, _, _, rfl⟩ | ⟨L, c, _, _, _, _, rfl⟩ | ⟨a', _, _, rfl⟩ <;> exact hload _
  | succ n =>
    unfold readA at h
    simp only [lift_bind, row_bind, lift_some, cellsR_some] at h
    obtain ⟨ad, rfl, _, x, hx, cs, ⟨ro, es, rfl⟩, hp, e⟩ := h
    obtain ⟨L', hL', hrow⟩ := hs.row ad.block _ hx
    obtain ⟨l', hr, hl, hc⟩ := row_read hrow hp
    have fin : ∀ c2, (∀ w2 : World, (∀ b : Nat, w2.heap[b]? = w.heap[b]?) → (Builtin.firstCells size (n + 1) (.slice (some ⟨L'.b, L'.o + ad.off, none⟩) len c2)).run P w2 = .ok ⟨l'⟩ w2) := by
      intro c2 w2 hw2
      show (loadCells ⟨L'.b, L'.o + ad.off, none⟩ ((n + 1) * size)).run P w2 = _
      have := run_loadCells_list (P := P) w2 ⟨L'.b, L'.o + ad.off, none⟩ l' (fun j v hv => by
        have := hc j v hv
        rw [addr_add] at this ⊢
        rw [cell?_block (hw2 _)]; exact this)
      rw [hl] at this
      exact this
    refine ⟨l', hr, hl, ?_, by rw [e], by rw [e]⟩
    rcases hv.ofSlice with ⟨L, _, hL, rfl⟩ | ⟨L, c, _, hL, _, _, rfl⟩ | ⟨a', h0, _, _⟩
    · rw [hL] at hL'; injection hL' with hL'; subst hL'; exact fin _
    · rw [hL] at hL'; injection hL' with hL'; subst hL'; exact fin _
    · omega

theorem piece_zero {cs l : List Value} {n : Nat} (h : piece cs 0 n = some l) : l = cs.take n ∧ l.length = n := by
  have := piece_some h
  rwa [List.drop_zero] at this
/-- The first cells of what is cold. -/
theorem readF_ok {P : Program} {size : Nat} {x v' : Value} {f : Nat → Nat} {m : Nat} {l : List Value} (h : readF size x f s = some ((m, l), s')) (hv : VRel μ x v') (hs : SRel base μ s.rows.get w) :
    s' = s ∧ ∃ (n : Nat) (cs : List Value) (a : Addr) (cap : Nat), x = .func (.yield 0) ⟨cs⟩ #[.int .i64 (.ofNat n)] ∧ v' = .slice (some a) n cap ∧ m = f n ∧ m ≤ n ∧
      ∃ l', VRels μ l l' ∧ l'.length = m * size ∧ (∀ w2 : World, (∀ b : Nat, w2.heap[b]? = w.heap[b]?) → (Builtin.firstCells size m v').run P w2 = .ok ⟨l'⟩ w2) := by
  unfold readF at h
  simp only [lift_bind, guard_bind, pure_some, Prod.mk.injEq] at h
  obtain ⟨⟨k, n, cs⟩, hx, hk, hle, l1, hp, ⟨rfl, rfl⟩, rfl⟩ := h
  rw [asFz_some] at hx
  subst hx
  have hk' := Nat.eq_of_beq_eq_true hk
  simp only at hk' hle hp hv
  subst hk'
  obtain ⟨a, cap, l', rfl, hsp, hc, hl, hm⟩ := hv.ofArr
  obtain ⟨rfl, hlen⟩ := piece_zero hp
  have hle' := Nat.le_of_ble_eq_true hle
  refine ⟨rfl, n, cs, a, cap, rfl, rfl, rfl, hle', l'.take (f n * size), (hl.take _).rel, by rw [← hlen]; simp [hl.length], fun w2 hw2 => ?_⟩
  have hlen' : (l'.take (f n * size)).length = f n * size := by rw [← hlen]; simp [hl.length]
  show (loadCells a (f n * size)).run P w2 = _
  by_cases h0 : f n = 0
  · rw [h0]
    have := run_loadCells_list (P := P) w2 a [] (by simp)
    simpa using this
  · have hspot : a.spot = none := hsp.elim (fun e => absurd (by omega) h0) id
    obtain ⟨b, o, sp⟩ := a
    simp only at hspot hm
    subst hspot
    have := run_loadCells_list (P := P) w2 ⟨b, o, none⟩ (l'.take (f n * size)) (fun j v hv => by
      rw [addr_add, cell?_block (hw2 _)]
      refine objAt_cell hs (hm j v ?_)
      rw [List.getElem?_take] at hv
      split at hv
      · exact hv
      · cases hv)
    rw [hlen'] at this
    exact this
end

theorem bytesOf_plain : ∀ l : List UInt8, plains (l.map fun b => .int .u8 b.toNat) = true
  | [] => rfl
  | _ :: l => plains_cons.2 ⟨rfl, bytesOf_plain l⟩

theorem SRel.same {base : Nat} {μ : Mu} {R : Nat → Option Row} {w w' : World} (h : SRel base μ R w) (hw : ∀ b : Nat, w'.heap[b]? = w.heap[b]?) (hz : w'.heap.size = w.heap.size) : SRel base μ R w' where
  ge := by rw [hz]; exact h.ge
  dom := fun r x L hx e => by rw [hz]; exact h.dom r x L hx e
  row := fun r x e => by obtain ⟨L, hL, hr⟩ := h.row r x e; exact ⟨L, hL, hr.move (Mu.le_refl μ) (hw _)⟩
  apart := h.apart
  cold := fun b o e => by rw [hw]; exact h.cold b o e
  hot := h.hot
  old := h.old

/-- A row that lies in a block of one that goes. -/
theorem SRel.moved {base : Nat} {μ : Mu} {R R' : Nat → Option Row} {w w' : World} (h : SRel base μ R w) (r : Nat) (x : Row) (L : Place) (hr : R r = some x) (hf : x.free = true) (hL : μ r = some L)
    (hs : w'.heap.size = w.heap.size) (hb : ∀ b, b ≠ L.b → w'.heap[b]? = w.heap[b]?) (n : Nat) (hn : μ n = none) (y : Row) (K : Place) (hK : K.b = L.b) (hy : RowOk base (μ.with n K) w' K y)
    (hR : ∀ q, R' q = if q = n then some y else if q = r then none else R q) : SRel base (μ.with n K) R' w' where
  ge := by rw [hs]; exact h.ge
  dom := fun q z J hz e => by
    rw [hs]
    rw [hR] at hz
    rw [Mu.with_eq] at e
    by_cases hq : q = n
    · rw [if_pos hq] at e; injection e with e; subst e; rw [hK]; exact h.dom r x L hr hL
    · rw [if_neg hq] at e hz
      by_cases hqr : q = r
      · rw [if_pos hqr] at hz; cases hz
      · rw [if_neg hqr] at hz; exact h.dom q z J hz e
  row := fun q z e => by
    rw [hR] at e
    by_cases hq : q = n
    · subst hq; rw [if_pos rfl] at e; injection e with e; subst e; exact ⟨K, Mu.with_at _ _ _, hy⟩
    · rw [if_neg hq] at e
      by_cases hqr : q = r
      · rw [if_pos hqr] at e; cases e
      · rw [if_neg hqr] at e
        obtain ⟨J, hJ, hk⟩ := h.row q z e
        exact ⟨J, by rw [Mu.with_eq]; rw [if_neg hq]; exact hJ, hk.move (Mu.le_with hn K) (hb _ fun e' => h.apart r q x z L J (fun e => hqr e.symm) hr e hL hJ hf e'.symm)⟩
  apart := fun p q a b K1 K2 hne ha hb' e1 e2 hfa => by
    rw [hR] at ha hb'
    rw [Mu.with_eq] at e1 e2
    by_cases hp : p = n
    · have hq : q ≠ n := fun e => hne (hp.trans e.symm)
      rw [if_pos hp] at e1; injection e1 with e1; subst e1
      rw [if_neg hq] at e2 hb'
      by_cases hqr : q = r
      · rw [if_pos hqr] at hb'; cases hb'
      · rw [if_neg hqr] at hb'
        rw [hK]
        exact h.apart r q x b L K2 (fun e => hqr e.symm) hr hb' hL e2 hf
    · rw [if_neg hp] at ha e1
      by_cases hpr : p = r
      · rw [if_pos hpr] at ha; cases ha
      · rw [if_neg hpr] at ha
        by_cases hq : q = n
        · rw [if_pos hq] at e2; injection e2 with e2; subst e2
          rw [hK]
          exact fun e => h.apart r p x a L K1 (fun e => hpr e.symm) hr ha hL e1 hf e.symm
        · rw [if_neg hq] at hb' e2
          by_cases hqr : q = r
          · rw [if_pos hqr] at hb'; cases hb'
          · rw [if_neg hqr] at hb'
            exact h.apart p q a b K1 K2 hne ha hb' e1 e2 hfa
  cold := fun b o e => by
    rw [hb b (fun e' => by subst e'; have e2 : μ.fz L.b = some o := e; rw [h.hot r x L hr hf hL] at e2; cases e2)]
    exact h.cold b o e
  hot := fun q a J ha hfa e => by
    rw [hR] at ha
    rw [Mu.with_eq] at e
    show μ.fz J.b = none
    by_cases hq : q = n
    · rw [if_pos hq] at e; injection e with e; subst e; rw [hK]; exact h.hot r x L hr hf hL
    · rw [if_neg hq] at e ha
      by_cases hqr : q = r
      · rw [if_pos hqr] at ha; cases ha
      · rw [if_neg hqr] at ha; exact h.hot q a J ha hfa e
  old := fun q a J ha e => by
    rw [hR] at ha
    rw [Mu.with_eq] at e
    by_cases hq : q = n
    · rw [if_pos hq] at e; injection e with e; subst e; rw [hK]; exact h.old r x L hr hL
    · rw [if_neg hq] at e ha
      by_cases hqr : q = r
      · rw [if_pos hqr] at ha; cases ha
      · rw [if_neg hqr] at ha; exact h.old q a J ha e

theorem zeroCells_eq {z : List Value} (hz : 0 < z.length) (n : Nat) : Builtin.zeroCells ⟨z⟩ n = ⟨repeats z n⟩ := by
  unfold Builtin.zeroCells
  simpa using range_map_zero z hz n

theorem growBy_le (need : Nat) : ∀ (k c : Nat), c ≤ 2 * need + 192 → Builtin.growBy need k c ≤ 2 * need + 192
  | 0, c, h => h
  | k + 1, c, h => by
    unfold Builtin.growBy
    split
    · exact h
    · exact growBy_le need k _ (by omega)
theorem nextcap_le (need cap : Nat) (h : cap < need) : Builtin.nextslicecap need cap ≤ 2 * need + 192 := by
  unfold Builtin.nextslicecap
  split
  · omega
  · split
    · omega
    · exact growBy_le _ _ _ (by omega)

end Go.Cm
