/-
  Copy; conversions; lengths; clear; readers of texts.
-/
import Derived.Test.YtfofdglgacfklaaGreatDoorCmJ
namespace Go.Cm
open Go Go.RowKit

theorem run_getObj_some {P : Program} {w : World} {r : Nat} {o : Obj} (h : w.heap[r]? = some o) (hn : ∀ c t f, o ≠ .cells c t f) : (getObj r).run P w = .ok o w := by
  unfold getObj Sem.run
  rw [h]
  cases o <;> first
    | rfl
    | exact absurd rfl (hn _ _ _)

theorem ERels.length {μ : Mu} {l l' : List MapEntry} (h : ERels μ l l') : l'.length = l.length := by
  induction h with
  | nil => rfl
  | cons _ _ _ _ _ _ _ _ _ ih => simp [ih]

section
variable {E : Env} (ok : E.Ok) {base : Nat} {μ : Mu} {w : World} {s s' : St}
include ok

theorem does_copy {dT : TypeId} {dv xv dv' xv' v : Value} {argTypes : Array TypeId} {args : Array Value} {ty : TypeId} (h : copyA E dT dv xv s = some (v, s')) (ht0 : argTypes[0]? = some dT)
    (ha0 : args[0]? = some dv') (ha1 : args[1]? = some xv') (hdv : VRel μ dv dv') (hxv : VRel μ xv xv') (hs : SRel base μ s.rows.get w) :
    Does E base μ w s s' (Builtin.copy_ argTypes ty args) fun μ' b => VRel μ' v b := by
  unfold copyA at h
  simp only [lift_bind, Option.bind_eq_some_iff, sliceT_some, asSlice_some] at h
  obtain ⟨e, ⟨_, hd, rfl⟩, i, hi, ⟨b, n, c⟩, rfl, h⟩ := h
  rw [bind_some] at h
  obtain ⟨⟨m, l⟩, s1, hc, h⟩ := h
  simp only at h hdv
  obtain ⟨inf, z, he⟩ := elem_some hi
  have hpos := he.pos
  -- what is copied
  have hsrc : s1.rows = s.rows ∧ s1.next = s.next ∧ l.length = m * i.size ∧ m ≤ n ∧ ∃ l' k, VRels μ l l' ∧ (Builtin.lenOf xv').run E.P w = .ok k w ∧ Nat.min k n = m ∧ (Builtin.firstCells inf.size m xv').run E.P w = .ok ⟨l'⟩ w := by
    unfold copied at hc
    cases xv with
    | slice a k c2 =>
      simp only at hc
      rw [bind_some] at hc
      obtain ⟨l1, s2, h1, h2⟩ := hc
      rw [pure_some] at h2
      simp only [Prod.mk.injEq] at h2
      obtain ⟨⟨rfl, rfl⟩, rfl⟩ := h2
      obtain ⟨l', hr, hl, hrun, e1, e2⟩ := read_ok (P := E.P) h1 hxv (Nat.min_le_left _ _) hs
      refine ⟨e1, e2, by rw [← hr.length]; exact hl, Nat.min_le_right _ _, l', k, hr, ?_, rfl, by rw [he.size]; exact hrun w fun _ => rfl⟩
      cases a with
      | none => rw [hxv.ofNilSlice]; rfl
      | some a => rcases hxv.ofSlice with ⟨L, _, _, rfl⟩ | ⟨L, c, _, _, _, _, rfl⟩ | ⟨a', rfl, _, rfl⟩ <;> rfl
    | string t =>
      simp only [guard_bind, pure_some, Prod.mk.injEq] at hc
      obtain ⟨hb, ⟨rfl, rfl⟩, rfl⟩ := hc
      have h1 := Nat.eq_of_beq_eq_true hb
      have hx' := hxv.ofString
      subst hx'
      have hlen : (bytesOf t).length = t.size := by simp [bytesOf]
      have htake : ∀ (l : List Value) (k : Nat), plains l = true → plains (l.take k) = true := by
        intro l
        induction l with
        | nil => intro k _; simp [plains]
        | cons x l ih =>
          intro k h
          cases k with
          | zero => simp [plains]
          | succ k => have := plains_cons.1 h; exact plains_cons.2 ⟨this.1, ih k this.2⟩
      refine ⟨rfl, rfl, ?_, Nat.min_le_right _ _, (bytesOf t).take (min t.size n), t.size, VRels.plain (htake _ _ (bytesOf_plain _)), rfl, rfl, ?_⟩
      · rw [List.length_take, hlen, h1]; omega
      · unfold Builtin.firstCells
        rw [Sem.run_pure]
        congr 1
        apply Array.ext'
        simp [bytesOf, ByteArray.data_extract]
    | _ =>
      have h' : readF i.size _ (fun k => min k n) s = some ((m, l), s1) := hc
      obtain ⟨rfl, k, cs, a, cap, hx1, rfl, rfl, _, l', hr, hl, hrun⟩ := readF_ok (P := E.P) h' hxv hs
      exact ⟨rfl, rfl, by rw [← hr.length]; exact hl, Nat.min_le_right _ _, l', k, hr, rfl, rfl, by rw [he.size]; exact hrun w fun _ => rfl⟩
  obtain ⟨hrows, hnext, hll, hmn, l', k, hl, hlen, hmin, hcells⟩ := hsrc
  have hs1 : SRel base μ s1.rows.get w := by rw [hrows]; exact hs
  have hll' := hl.length
  have hrun : ∀ (a' : Option Addr) (c' : Nat) (w' : World), dv' = .slice a' n c' → (match a' with | some a => (storeCells a l').run E.P w = .ok () w' | none => w' = w) →
      (Builtin.copy_ argTypes ty args).run E.P w = .ok (.int .i64 m) w' := by
    intro a' c' w' hdv' hst
    subst hdv'
    unfold Builtin.copy_
    simp only [ht0, ha0, ha1, Sem.run_bind, ok.run_und w hd, Result.andThen_ok, hlen, hmin, ok.run_size w he.info, hcells]
    cases a' with
    | none => simp only at hst; rw [hst]; rfl
    | some a => simp only at hst ⊢; rw [Sem.run_bind, hst]; rfl
  cases l with
  | nil =>
    simp only [pure_some] at h
    obtain ⟨rfl, rfl⟩ := h
    cases hl
    refine ⟨.int .i64 m, w, μ, ?_, .plain _ rfl, hs1, by rw [hnext]; exact Grew.refl _ _ _ _ _⟩
    cases b with
    | none => exact hrun none c w hdv.ofNilSlice rfl
    | some a => rcases hdv.ofSlice with ⟨L, _, _, e⟩ | ⟨L, c2, _, _, _, _, e⟩ | ⟨a2, rfl, rfl, e⟩ <;> exact hrun _ _ w e rfl
  | cons x l =>
    simp only [lift_bind] at h
    obtain ⟨a, rfl, h⟩ := h
    rw [bind_some] at h
    obtain ⟨⟨⟩, s2, hw, h⟩ := h
    rw [pure_some] at h
    obtain ⟨rfl, rfl⟩ := h
    have hm : 0 < m := by
      rcases Nat.eq_zero_or_pos m with h | h
      · subst h; simp at hll
      · exact h
    obtain ⟨r, off, sp⟩ := a
    have fin : ∀ (L : Place) (c' : Nat), μ r = some L → dv' = .slice (some ⟨L.b, L.o + off, none⟩) n c' →
        Does E base μ w s s' (Builtin.copy_ argTypes ty args) fun μ' b => VRel μ' (.int .i64 m) b := by
      intro L c' hL hdv'
      obtain ⟨g1, g2, g3, g4⟩ := write_ok (P := E.P) hw hl hs1 hL
      exact ⟨_, _, μ, hrun _ _ _ hdv' g1, .plain _ rfl, g2, ⟨Mu.le_refl _, fun _ a b => absurd a b, fun _ a b => absurd a b, g3⟩⟩
    rcases hdv.ofSlice with ⟨L, hsp, hL, e1⟩ | ⟨L, c2, hsp, hL, hc2, hx2, e1⟩ | ⟨a2, e0, e2, e1⟩
    · exact fin L _ hL e1
    · exact fin L _ hL e1
    · omega

theorem does_clear {t : TypeId} {x x' v : Value} {argTypes : Array TypeId} {args : Array Value} {ty : TypeId} (h : clearA E t x s = some (v, s')) (ht0 : argTypes[0]? = some t) (ha0 : args[0]? = some x') (hx : VRel μ x x') (hs : SRel base μ s.rows.get w) :
    Does E base μ w s s' (Builtin.clear_ argTypes ty args) fun μ' b => VRel μ' v b := by
  unfold clearA at h
  simp only [lift_bind, Option.bind_eq_some_iff, sliceT_some, asSlice_some] at h
  obtain ⟨e, ⟨_, hd, rfl⟩, i, hi, ⟨b, n, c⟩, rfl, h⟩ := h
  obtain ⟨inf, z, he⟩ := elem_some hi
  have hpos := he.pos
  simp only at h hx
  cases n with
  | zero =>
    simp only [pure_some] at h
    obtain ⟨rfl, rfl⟩ := h
    refine ⟨.tuple #[], w, μ, ?_, .plain _ rfl, hs, Grew.refl _ _ _ _ _⟩
    unfold Builtin.clear_
    cases b with
    | none => rw [hx.ofNilSlice] at ha0; simp only [ht0, ha0, Sem.run_bind, ok.run_und w hd, Result.andThen_ok, Sem.run_pure]
    | some a => rcases hx.ofSlice with ⟨L, _, _, rfl⟩ | ⟨L, c2, _, _, _, _, rfl⟩ | ⟨a2, _, rfl, rfl⟩ <;>
        simp only [ht0, ha0, Sem.run_bind, ok.run_und w hd, Result.andThen_ok, Sem.run_pure]
  | succ n =>
    simp only [lift_bind] at h
    obtain ⟨a, rfl, h⟩ := h
    rw [bind_some] at h
    obtain ⟨⟨⟩, s2, hw, h⟩ := h
    rw [pure_some] at h
    obtain ⟨rfl, rfl⟩ := h
    obtain ⟨r, off, sp⟩ := a
    have fin : ∀ (L : Place) (c' : Nat), μ r = some L → x' = .slice (some ⟨L.b, L.o + off, none⟩) (n + 1) c' →
        Does E base μ w s s' (Builtin.clear_ argTypes ty args) fun μ' b => VRel μ' (.tuple #[]) b := by
      intro L c' hL hx'
      subst hx'
      obtain ⟨g1, g2, g3, g4⟩ := write_ok (P := E.P) hw (VRels.plain (repeats_plain he.plain (n + 1))) hs hL
      refine ⟨.tuple #[], _, μ, ?_, .plain _ rfl, g2, ⟨Mu.le_refl _, fun _ a b => absurd a b, fun _ a b => absurd a b, g3⟩⟩
      unfold Builtin.clear_
      have hz : z.cells = ⟨i.zero⟩ := by apply Array.ext'; exact he.cells.symm
      simp only [ht0, ha0, Sem.run_bind, ok.run_und w hd, Result.andThen_ok, (ok.run_zero w he.zero).1, hz, zeroCells_eq (show 0 < i.zero.length by have := he.len; omega), g1, Sem.run_pure]
    rcases hx.ofSlice with ⟨L, hsp, hL, e1⟩ | ⟨L, c2, hsp, hL, hc2, hx2, e1⟩ | ⟨a2, e0, e2, e1⟩
    · exact fin L _ hL e1
    · exact fin L _ hL e1
    · omega

theorem does_len {t : TypeId} {x x' v : Value} {argTypes : Array TypeId} {args : Array Value} {ty : TypeId} (h : lenA E t x s = some (v, s')) (ht0 : argTypes[0]? = some t) (ha0 : args[0]? = some x') (hx : VRel μ x x') (hs : SRel base μ s.rows.get w) (hsy : μ.sy = E.sy) :
    Does E base μ w s s' (Builtin.len_ argTypes ty args) fun μ' b => VRel μ' v b := by
  unfold lenA at h
  cases htk : isTok x with
  | true =>
    rw [htk, cond_true] at h
    obtain ⟨hv, rfl⟩ := lift_some.1 h
    obtain ⟨v', hr, hv'⟩ := ok.askLen t ty x v x' w argTypes args hv (hsy ▸ TokV.of hx (by unfold tokish; rw [htk]; rfl)) ht0 ha0
    exact ⟨v', w, μ, hr, (hsy ▸ hv' : TokV μ.sy v v').rel, hs, Grew.refl _ _ _ _ _⟩
  | false =>
  rw [htk, cond_false] at h
  rw [lift_bind] at h
  obtain ⟨d, hd, h⟩ := h
  have fin : ∀ n : Nat, s'.rows = s.rows → s'.next = s.next → v = .int .i64 n → (Builtin.len_ argTypes ty args).run E.P w = .ok (.int .i64 n) w →
      Does E base μ w s s' (Builtin.len_ argTypes ty args) fun μ' b => VRel μ' v b := by
    intro n e1 e2 e3 hr
    subst e3
    exact ⟨_, w, μ, hr, .plain _ rfl, by rw [e1]; exact hs, by rw [e2]; exact Grew.refl _ _ _ _ _⟩
  cases d with
  | string =>
    simp only [lift_bind, pure_some, asStr_some] at h
    obtain ⟨t, rfl, rfl, rfl⟩ := h
    have := hx.ofString; subst this
    refine fin t.size rfl rfl rfl ?_
    unfold Builtin.len_
    simp only [ht0, ha0, Sem.run_bind, ok.run_und w hd, Result.andThen_ok, Sem.run_pure]; rfl
  | slice e =>
    simp only at h
    cases hfz : asFz x with
    | some p =>
      obtain ⟨k, n, cs⟩ := p
      simp only [hfz, guard_bind, pure_some] at h
      obtain ⟨hk, rfl, rfl⟩ := h
      have hk' := Nat.eq_of_beq_eq_true hk
      subst hk'
      rw [asFz_some] at hfz
      simp only at hfz
      subst hfz
      obtain ⟨a, cap, l', rfl, _⟩ := hx.ofArr
      refine fin n rfl rfl rfl ?_
      unfold Builtin.len_
      simp only [ht0, ha0, Sem.run_bind, ok.run_und w hd, Result.andThen_ok, Sem.run_pure]; rfl
    | none =>
    simp only [hfz, lift_bind, pure_some, asSlice_some] at h
    obtain ⟨⟨b, n, c⟩, rfl, rfl, rfl⟩ := h
    simp only at hx
    refine fin n rfl rfl rfl ?_
    unfold Builtin.len_
    cases b with
    | none => rw [hx.ofNilSlice] at ha0; simp only [ht0, ha0, Sem.run_bind, ok.run_und w hd, Result.andThen_ok, Sem.run_pure]; rfl
    | some a => rcases hx.ofSlice with ⟨L, _, _, rfl⟩ | ⟨L, c2, _, _, _, _, rfl⟩ | ⟨a2, rfl, rfl, rfl⟩ <;>
        (simp only [ht0, ha0, Sem.run_bind, ok.run_und w hd, Result.andThen_ok, Sem.run_pure]; rfl)
  | array n e =>
    simp only [pure_some] at h
    obtain ⟨rfl, rfl⟩ := h
    refine fin n rfl rfl rfl ?_
    unfold Builtin.len_
    simp only [ht0, ha0, Sem.run_bind, ok.run_und w hd, Result.andThen_ok, Sem.run_pure]; rfl
  | map k e =>
    simp only at h
    split at h
    · rw [pure_some] at h
      obtain ⟨rfl, rfl⟩ := h
      have : x' = .map none := hx.eq rfl
      subst this
      refine fin 0 rfl rfl rfl ?_
      unfold Builtin.len_
      simp only [ht0, ha0, Sem.run_bind, ok.run_und w hd, Result.andThen_ok, Sem.run_pure]; rfl
    · rename_i r
      obtain ⟨L, hL, rfl⟩ := hx.ofMap
      rw [row_bind] at h
      obtain ⟨_, y, hy, h⟩ := h
      obtain ⟨L2, hL2, hrow⟩ := hs.row r y hy
      rw [hL] at hL2; injection hL2 with hL2; subst hL2
      cases y with
      | map es clock =>
        simp only [pure_some] at h
        obtain ⟨rfl, rfl⟩ := h
        obtain ⟨_, es', hh, hr⟩ := hrow
        have hlen : es'.length = es.length := hr.length
        refine fin es.length rfl rfl rfl ?_
        unfold Builtin.len_
        simp only [ht0, ha0, Sem.run_bind, ok.run_und w hd, Result.andThen_ok, run_getObj_some hh (by intro _ _ _ h; cases h), Sem.run_pure]
        rw [← hlen]; rfl
      | cells => rw [fail_some] at h; exact h.elim
      | iter => rw [fail_some] at h; exact h.elim
    · rw [fail_some] at h; exact h.elim
  | _ => rw [fail_some] at h; exact h.elim

theorem does_cap {t : TypeId} {x x' v : Value} {argTypes : Array TypeId} {args : Array Value} {ty : TypeId} (h : capA E t x = some v) (ht0 : argTypes[0]? = some t) (ha0 : args[0]? = some x') (hx : VRel μ x x') :
    ∃ v', (Builtin.cap_ argTypes ty args).run E.P w = .ok v' w ∧ VRel μ v v' := by
  unfold capA at h
  simp only [Option.bind_eq_some_iff, Option.map_eq_some_iff, sliceT_some, asSlice_some, guardO_some] at h
  obtain ⟨e, ⟨_, hd, rfl⟩, ⟨b, n, c⟩, rfl, _, hex, rfl⟩ := h
  refine ⟨_, ?_, .plain _ rfl⟩
  simp only at hx hex ⊢
  unfold Builtin.cap_
  cases b with
  | none => rw [hx.ofNilSlice] at ha0; simp only [ht0, ha0, Sem.run_bind, ok.run_und w hd, Result.andThen_ok, Sem.run_pure]; rfl
  | some a =>
    obtain ⟨r, off, sp⟩ := a
    rcases hx.ofSlice with ⟨L, _, _, rfl⟩ | ⟨L, c2, hsp, _, _, _, rfl⟩ | ⟨a2, rfl, rfl, rfl⟩
    · simp only [ht0, ha0, Sem.run_bind, ok.run_und w hd, Result.andThen_ok, Sem.run_pure]; rfl
    · simp only at hsp; subst hsp; cases hex
    · simp only [ht0, ha0, Sem.run_bind, ok.run_und w hd, Result.andThen_ok, Sem.run_pure]; rfl

theorem u8_some {e : TypeId} {u : Unit} (h : u8T E e = some u) : (underlying e).run E.P w = .ok (.int .u8) w := by
  unfold u8T at h
  rw [Option.bind_eq_some_iff] at h
  obtain ⟨d, hd, h⟩ := h
  cases d with
  | int k => cases k <;> first | exact ok.run_und w hd | cases h
  | _ => cases h

omit ok in
theorem bytesBack_spec : ∀ (l : List Value) (bs : List UInt8), bytesBack l = some bs → ∃ ns : List Int, l = ns.map (Value.int .u8) ∧ bs = ns.map fun n => UInt8.ofNat n.toNat
  | [], bs, h => by injection h with h; subst h; exact ⟨[], rfl, rfl⟩
  | v :: l, bs, h => by
    unfold bytesBack at h
    split at h
    · cases ‹_ :: _ = []›
    · rename_i n l2 e
      injection e with e1 e2; subst e1; subst e2
      rw [Option.map_eq_some_iff] at h
      obtain ⟨bs2, h2, rfl⟩ := h
      obtain ⟨ns, rfl, rfl⟩ := bytesBack_spec l bs2 h2
      exact ⟨n :: ns, rfl, rfl⟩
    · cases h

omit ok in
theorem ints_plain : ∀ ns : List Int, plains (ns.map (Value.int .u8)) = true
  | [] => rfl
  | _ :: l => plains_cons.2 ⟨rfl, ints_plain l⟩

omit ok in
/-- A row in a block of its own, of which one mark behind the end is frozen. -/
theorem does_bytes {s : St} {s' : St} {e : TypeId} {t : ByteArray} (hb : Nat.ble s.next 1000000000 = true) (e2 : s' = { s with rows := D.put (some (.cells false (codeE 1 (e + 1)) (bytesOf t))) deep s.rows s.next, next := Nat.succ s.next })
    (hs : SRel base μ s.rows.get w) (hf : ∀ r, s.next ≤ r → r < s'.next → μ r = none) :
    Does E base μ w s s' (Conv.stringToBytes e t) fun μ' b => VRel μ' (.slice (some ⟨s.next, 0, some 1⟩) t.size t.size) b := by
  let cap := (Question.appendCap t.size 0 e).cut (w.tape w.drawn (.appendCap t.size 0 e))
  have hcap : t.size ≤ cap := by show t.size ≤ t.size + _; omega
  let C : Array Value := (t.data.map fun b => Value.int .u8 b.toNat) ++ Array.replicate (cap - t.size) (.int .u8 0)
  have hC : C.size = cap := by simp only [C, Array.size_append, Array.size_map, Array.size_replicate]; have : t.data.size = t.size := rfl; omega
  let w1 : World := w.drew.alloc (.cells C e)
  let w2 : World := w1.freeze ⟨w.heap.size, cap, none⟩ 1
  have hheap : w2.heap = w.heap.push (.cells C e (cap, cap + 1)) := by
    show (World.freeze w1 ⟨w.heap.size, cap, none⟩ 1).heap = _
    unfold World.freeze
    rw [if_neg (by decide)]
    have hw1 : w1.heap = w.heap.push (.cells C e) := rfl
    simp only [hw1]
    apply Array.ext
    · simp
    · intro i h1 h2
      simp only [Array.size_modify, Array.size_push] at h1
      rw [Array.getElem_modify]
      by_cases hi : w.heap.size = i
      · subst hi; simp
      · rw [if_neg hi]
        simp only [Array.getElem_push]
        split
        · rfl
        · omega
  have hsz : w2.heap.size = w.heap.size + 1 := by rw [hheap]; simp
  have hat : w2.heap[w.heap.size]? = some (.cells C e (cap, cap + 1)) := by rw [hheap]; simp
  have hbel : Below w.heap.size w w2 := ⟨rfl, rfl, rfl, by omega, fun k hk => by rw [hheap, Array.getElem?_push, if_neg (by omega)]⟩
  have hn : μ s.next = none := hf s.next (Nat.le_refl _) (by rw [e2]; exact Nat.lt_succ_self _)
  let K : Place := ⟨w.heap.size, 0, cap, 1, e + 1⟩
  have hcell : ∀ j, w2.cell? ⟨w.heap.size, 0 + j, none⟩ = C[j]? := by
    intro j; unfold World.cell?; simp only [hat, Nat.zero_add]; rfl
  refine ⟨.slice (some ⟨w.heap.size, 0, none⟩) t.size cap, w2, μ.with s.next K, ?_, ?_, ?_, Mu.le_with hn _, fun r p q => ?_, fun _ a b => absurd a b, hbel.mono hs.ge⟩
  · unfold Conv.stringToBytes
    have hq : (Question.appendCap t.size 0 e).forced = false := rfl
    have hshape : w1.shape? w.heap.size = some (e, cap) := by
      have h0 : w1.heap[w.heap.size]? = some (.cells C e) := by show (w.heap.push _)[w.heap.size]? = _; simp
      unfold World.shape?
      rw [h0]
      simp only [hC]
    simp only [Sem.run_bind, run_choose, hq, Bool.false_eq_true, if_false, World.drew_eq, Result.andThen_ok]
    unfold newRow markStringish
    simp only [Sem.run_bind, run_newObj, Result.andThen_ok, Sem.run_pure, World.alloc_eq, run_shape]
    have e1 : (w.drew.alloc (.cells C e)).shape? w.drew.heap.size = some (e, cap) := hshape
    have e3 : ((w.drew.alloc (.cells ((t.data.map fun b => Value.int .u8 b.toNat) ++ Array.replicate ((Question.appendCap t.size 0 e).cut (w.tape w.drawn (.appendCap t.size 0 e)) - t.size) (.int .u8 0)) e))).shape? w.drew.heap.size = some (e, cap) := e1
    rw [e3]
    rfl
  · have := VRel.grown (μ := μ.with s.next K) s.next 0 t.size t.size cap K (Mu.with_at _ _ _) hcap (by show 0 + cap * 1 ≤ cap; omega)
    simpa using this
  · refine hs.extend s.next hn (.cells false (codeE 1 (e + 1)) (bytesOf t)) K hbel (Nat.le_refl _) (by rw [hsz]; exact Nat.lt_succ_self _) ⟨fun j x hx => ?_, ?_, fun _ => ⟨⟨hs.ge, ⟨fun _ => rfl, (by show 1 < tagT; unfold tagT; omega)⟩, C, e, (cap, cap + 1), hat, (by show 0 + cap ≤ C.size; omega), Or.inr ⟨by show 0 + cap ≤ cap; omega, Nat.lt_succ_self _⟩, Or.inr rfl⟩, rfl, fun j hj => ?_⟩⟩ (fun r => ?_)
    · have hj : j < t.size := by
        rcases Nat.lt_or_ge j (bytesOf t).length with h | h
        · simpa [bytesOf] using h
        · rw [List.getElem?_eq_none h] at hx; cases hx
      have hxp : Cm.plain x = true := by
        simp only [bytesOf, List.getElem?_map, Option.map_eq_some_iff] at hx
        obtain ⟨b, _, rfl⟩ := hx; rfl
      refine ⟨x, ?_, .plain x hxp⟩
      show w2.cell? ⟨w.heap.size, 0 + j, none⟩ = some x
      rw [hcell]
      have hj' : j < (t.data.map fun b => Value.int .u8 b.toNat).size := by simpa using hj
      simp only [C]
      rw [Array.getElem?_append_left hj']
      rw [← hx]
      simp [bytesOf]
    · show (bytesOf t).length ≤ cap
      have : (bytesOf t).length = t.size := by simp [bytesOf]
      omega
    · show (w2.cell? ⟨w.heap.size, 0 + j, none⟩).isSome = true ∧ w2.frozen? ⟨w.heap.size, 0 + j, none⟩ = false
      have hj' : j < cap := hj
      rw [hcell]
      refine ⟨by simp [hC, hj'], ?_⟩
      unfold World.frozen?
      simp only [hat, Nat.zero_add]
      simp; omega
    · rw [e2]; exact D.got _ _ _ _ hb
  · have : r = s.next := by
      rw [Mu.with_eq] at q
      by_cases h : r = s.next
      · exact h
      · rw [if_neg h] at q; exact absurd p q
    rw [e2]; show s.next ≤ r ∧ r < s.next + 1; omega
end

theorem pureRun_ok {α : Type} {P : Program} (e : Sem α) (a : α) (h : pureRun P e = some a) (w : World) : e.run P w = .ok a w := by
  induction e with
  | pure b => simp only [pureRun, Option.some.injEq] at h; subst h; rfl
  | program k ih => exact ih _ h
  | mark m k ih => exact ih h
  | choose q k ih =>
    unfold pureRun at h
    by_cases hq : q.forced = true
    · rw [if_pos hq] at h
      unfold Sem.run
      rw [if_pos hq]
      exact ih _ h
    · rw [if_neg hq] at h; cases h
  | _ => cases h

theorem plainly_some {o : Option Value} {v : Value} : plainly o = some v ↔ o = some v ∧ plain v = true := by
  unfold plainly
  simp only [Option.bind_eq_some_iff, Option.map_eq_some_iff, guardO_some]
  constructor
  · rintro ⟨a, rfl, _, hp, rfl⟩; exact ⟨rfl, hp⟩
  · rintro ⟨rfl, hp⟩; exact ⟨v, rfl, (), hp, rfl⟩

end Go.Cm
