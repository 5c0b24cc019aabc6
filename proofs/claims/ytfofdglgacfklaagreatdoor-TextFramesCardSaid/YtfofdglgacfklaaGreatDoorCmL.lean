/-
  Conversions, readers of texts; the operations that look at no memory.
-/
import Derived.Test.YtfofdglgacfklaaGreatDoorCmK
import Derived.Laws.BytesArg
import Derived.LaidEql
import Derived.Lib.Builder
import Derived.Lib.UnsafeStr
namespace Go.Cm
open Go Go.RowKit

section
variable {E : Env} (ok : E.Ok) {base : Nat} {μ : Mu} {w : World} {s s' : St}
include ok

theorem run_convert_str {src dst : TypeId} {t : ByteArray} {sd : TypeDesc} (hs : E.und src = some sd) (hd : E.und dst = some .string) : (convert src dst (.string t)).run E.P w = .ok (.string t) w := by
  unfold convert
  cases sd <;> simp only [Sem.run_bind, ok.run_und w hs, ok.run_und w hd, Result.andThen_ok, Sem.run_pure]

omit ok in
/-- The mark that bytes bear which were a constant's: behind the end of their block. -/
theorem run_marked {P : Program} {base : Nat} {μ : Mu} {w : World} {R R' : Nat → Option Row} {r off : Nat} {es : Nat} {cs : List Value} {L : Place} (hs : SRel base μ R w) (hr : R r = some (.cells false es cs)) (hL : μ r = some L)
    (hR : ∀ q, R' q = if q = r then some (.cells false es cs) else R q) :
    ∃ w', (markStringish ⟨L.b, off, none⟩).run P w = .ok () w' ∧ SRel base μ R' w' ∧ Below base w w' := by
  obtain ⟨L', hL', hrow⟩ := hs.row r _ hr
  rw [hL] at hL'; injection hL' with hL'; subst hL'
  obtain ⟨hc, hext, hfree⟩ := hrow
  obtain ⟨⟨hge, h00, c, e, fr, hat, hsz, hfr, hty⟩, hes, hcells⟩ := hfree rfl
  obtain ⟨lo, hi⟩ := fr
  simp only at hfr
  let fr' : Nat × Nat := if lo == hi then (c.size, c.size + 1) else (min lo c.size, max hi (c.size + 1))
  have hfr' : L.o + L.ext ≤ fr'.1 ∧ fr'.1 < fr'.2 := by
    show L.o + L.ext ≤ (if lo == hi then (c.size, c.size + 1) else (min lo c.size, max hi (c.size + 1))).1 ∧ (if lo == hi then (c.size, c.size + 1) else (min lo c.size, max hi (c.size + 1))).1 < (if lo == hi then (c.size, c.size + 1) else (min lo c.size, max hi (c.size + 1))).2
    by_cases h : lo = hi
    · subst h; simp only [beq_self_eq_true, if_true]; omega
    · have : (lo == hi) = false := by simpa using h
      simp only [this, Bool.false_eq_true, if_false]
      omega
  have hlt : L.b < w.heap.size := hs.dom r _ L hr hL
  let w' : World := w.freeze ⟨L.b, c.size, none⟩ 1
  have hw' : w' = { w with heap := w.heap.modify L.b fun | .cells c' e' (lo, hi) => .cells c' e' (if lo == hi then (c.size, c.size + 1) else (min lo c.size, max hi (c.size + 1))) | o => o } := by
    show World.freeze w ⟨L.b, c.size, none⟩ 1 = _
    unfold World.freeze
    rw [if_neg (by decide)]
    rfl
  have hsize : w'.heap.size = w.heap.size := by rw [hw']; simp
  have hb : ∀ b, b ≠ L.b → w'.heap[b]? = w.heap[b]? := by
    intro b hb
    rw [hw']
    simp only [Array.getElem?_modify]
    rw [if_neg (fun e => hb e.symm)]
  have hat' : w'.heap[L.b]? = some (.cells c e fr') := by
    rw [hw']
    simp only [Array.getElem?_modify, if_true, hat, Option.map_some]
    rfl
  have hcell : ∀ o, w'.cell? ⟨L.b, o, none⟩ = w.cell? ⟨L.b, o, none⟩ := by
    intro o
    unfold World.cell?
    simp only [hat, hat']
  refine ⟨w', ?_, hs.turn r (.cells false es cs) L hr rfl hL hsize hb (some (.cells false es cs)) (fun z hz => ?_) hR, ?_⟩
  · unfold markStringish
    have hsh : w.shape? L.b = some (e, c.size) := by unfold World.shape?; rw [hat]
    simp only [Sem.run_bind, run_shape, Result.andThen_ok, hsh, run_freeze]
    rfl
  · injection hz with hz; subst hz
    refine ⟨fun i v hv => ?_, hext, fun _ => ⟨⟨hge, h00, c, e, fr', hat', hsz, Or.inr hfr', hty⟩, hes, fun i hi => ?_⟩⟩
    · rw [hcell]; exact hc i v hv
    · rw [hcell]
      refine ⟨(hcells i hi).1, ?_⟩
      unfold World.frozen?
      simp only [hat']
      have : ¬ fr'.1 ≤ L.o + i := by omega
      simp [this]
  · refine ⟨?_, ?_, ?_, by rw [hsize]; exact Nat.le_refl _, fun k hk => hb k (by omega)⟩ <;> rw [hw']

theorem does_mark {src dst : TypeId} {sd dd : TypeDesc} {a : Option Addr} {n c : Nat} {x' v : Value} (hsd : E.und src = some sd) (hdd : E.und dst = some dd) (h : markA E src dst dd a n c s = some (v, s')) (hx : VRel μ (.slice a n c) x') (hs : SRel base μ s.rows.get w) :
    Does E base μ w s s' (convert src dst x') fun μ' b => VRel μ' v b := by
  unfold markA at h
  simp only [guard_bind, lift_bind, row_bind, Bool.and_eq_true, sliceT_some] at h
  obtain ⟨⟨h1, h2⟩, e, rfl, _, hu, ad, rfl, _, x, hrow, ec, hown, h⟩ := h
  have hsd' := Nat.eq_of_beq_eq_true h1
  subst hsd'
  have hcpos := blt_lt0 h2
  rw [ownR_some] at hown
  subst hown
  rw [bind_some] at h
  obtain ⟨⟨⟩, s1, h3, h4⟩ := h
  rw [turn_some] at h3
  obtain ⟨_, _, hble, e3⟩ := h3
  rw [pure_some] at h4
  obtain ⟨rfl, rfl⟩ := h4
  have hget : ∀ q, s'.rows.get q = if q = ad.block then some (.cells false ec.1 ec.2) else s.rows.get q := by
    intro q; rw [e3]; exact D.got _ _ _ _ hble
  have fin : ∀ L : Place, μ ad.block = some L → ∀ (off c' : Nat), VRel μ (.slice (some ad) n c) (.slice (some ⟨L.b, off, none⟩) n c') →
      Does E base μ w s s' (convert src src (.slice (some ⟨L.b, off, none⟩) n c')) fun μ' b => VRel μ' (.slice (some ad) n c) b := by
    intro L hL off c' hv
    obtain ⟨w', hr, hs', hbel⟩ := run_marked (P := E.P) (off := off) hs hrow hL hget
    refine ⟨_, w', μ, ?_, hv, hs', ⟨Mu.le_refl _, fun _ a b => absurd a b, fun _ a b => absurd a b, hbel⟩⟩
    unfold convert
    simp only [Sem.run_bind, ok.run_und w hsd, Result.andThen_ok]
    have hsd2 : sd = .slice e := by rw [hsd] at hdd; injection hdd
    subst hsd2
    simp only [Sem.run_bind, u8_some ok hu, Result.andThen_ok, beq_self_eq_true, hr, Sem.run_pure]
  have hx0 := hx
  rcases hx.ofSlice with ⟨L, hsp, hL, rfl⟩ | ⟨L, c2, hsp, hL, hc2, hx2, rfl⟩ | ⟨a2, rfl, rfl, rfl⟩
  · exact fin L hL _ _ hx0
  · exact fin L hL _ _ hx0
  · omega

omit ok in
theorem liesAt_off {P : Program} {e : TypeId} (hc : 0 < P.cellsOf e) (count off n : Nat) (hr : off % P.cellsOf e = 0) (hn : off / P.cellsOf e + n ≤ count) : liesAt P P.depth e count off e n = true := by
  have hd : P.depth = (2 * (P.types.size + Made.depth) + 1) + 1 := rfl
  rw [hd]
  simp only [liesAt, Bool.or_eq_true]
  left
  rw [hd]
  have : ¬ P.cellsOf e = 0 := by omega
  simp [rowAt, hr, hn, sameLayout, this]
omit ok in
/-- The row that an address of one's own points into. -/
theorem own_at {r : Nat} {es : Nat} {cs : List Value} {L : Place} (hs : SRel base μ s.rows.get w) (hr : s.rows.get r = some (.cells false es cs)) (hL : μ r = some L) :
    base ≤ L.b ∧ ((L.es = 0 → L.o = 0) ∧ L.es < tagT) ∧ es = codeE L.es L.ty ∧ L.b < w.heap.size ∧ ∃ (c : Array Value) (e : TypeId) (fr : Nat × Nat), w.heap[L.b]? = some (.cells c e fr) ∧ L.o + cs.length ≤ c.size ∧ cs.length ≤ L.ext ∧ (L.ty = 0 ∨ L.ty = e + 1) ∧
      ∀ (i : Nat) (v : Value), cs[i]? = some v → ∃ v', w.cell? ⟨L.b, L.o + i, none⟩ = some v' ∧ VRel μ v v' := by
  obtain ⟨L2, hL2, hc, hext, hfree⟩ := hs.row r _ hr
  rw [hL] at hL2; injection hL2 with hL2; subst hL2
  obtain ⟨⟨hge, h0, c, e, fr, hat, hsz, _, hty⟩, hes, _⟩ := hfree rfl
  exact ⟨hge, h0, hes, hs.dom r _ L hr hL, c, e, fr, hat, by omega, hext, hty, hc⟩
theorem does_ptr {src dst : TypeId} {sd dd : TypeDesc} {a : Addr} {x' v : Value} (hsd : E.und src = some sd) (hdd : E.und dst = some dd) (h : ptrA E sd dd a s = some (v, s')) (hx : VRel μ (.pointer (some a)) x') (hs : SRel base μ s.rows.get w) :
    Does E base μ w s s' (convert src dst x') fun μ' b => VRel μ' v b := by
  unfold ptrA at h
  simp only [row_bind, lift_bind, guard_bind, pure_some, ownR_some] at h
  obtain ⟨⟨kb, kt⟩, hkt, _, x, hrow, ec, rfl, hsp, _, hcase, rfl, rfl⟩ := h
  obtain ⟨r, off, sp⟩ := a
  have hsp' : sp = none := by cases sp <;> first | rfl | cases hsp
  subst hsp'
  have hx0 := hx
  obtain ⟨L, hL, rfl⟩ := hx.ofPtr
  obtain ⟨hge, h0, hes, hlt, c, e, fr, hat, hsz, hext, hty, hc⟩ := own_at (s := s) hs hrow hL
  have hsh : w.shape? L.b = some (e, c.size) := by unfold World.shape?; rw [hat]
  have key : (convert src dst (.pointer (some ⟨L.b, L.o + off, none⟩))).run E.P w = .ok (.pointer (some ⟨L.b, L.o + off, none⟩)) w := by
    simp only at hcase
    unfold ptrT at hkt
    split at hkt
    · rename_i t
      injection hkt with hkt; injection hkt with k1 k2; subst k1 k2
      rw [cond_true] at hcase
      unfold toUnsafe at hcase
      simp only [Option.bind_eq_some_iff, guardO_some, Bool.and_eq_true] at hcase
      obtain ⟨i, hi, h1, h2⟩ := hcase
      have h1' := blt_lt0 h1
      have h2' := blt_lt0 h2
      exact Lib.run_to_unsafe w _ (ok.und _ _ hsd) (ok.und _ _ hdd) (ok.info _ _ hi) (by omega) hsh (by simp only at h2' ⊢; omega)
    · rename_i u
      injection hkt with hkt; injection hkt with k1 k2; subst k1 k2
      rw [cond_false] at hcase
      unfold ofUnsafe at hcase
      simp only [Option.bind_eq_some_iff, guardO_some, Bool.and_eq_true] at hcase
      obtain ⟨i, hi, ⟨⟨h1, h2⟩, h3⟩, h4⟩ := hcase
      have h1' := Nat.eq_of_beq_eq_true h1
      have h2' := Nat.eq_of_beq_eq_true h2
      have h3' := blt_lt0 h3
      have h4' := Nat.le_of_ble_eq_true h4
      rw [hes] at h1'
      obtain ⟨e1, e2⟩ := codeE_inj h0.2 (by unfold tagT; omega) h1'
      have ho := h0.1 e1
      subst h2'
      have he : e = u := by
        rcases hty with k | k
        · rw [e2] at k; cases k
        · rw [e2] at k; exact (Nat.succ.inj k).symm
      subst he
      have hcell : E.P.cellsOf e = i.size := by simp [Program.cellsOf, ok.info _ _ hi]
      refine Lib.run_from_unsafe w _ (ok.und _ _ hsd) (ok.und _ _ hdd) (ok.info _ _ hi) hsh ?_
      show liesAt E.P E.P.depth e (c.size / E.P.cellsOf e) (L.o + 0) e 1 = true
      rw [ho]
      refine liesAt_off (by omega) _ _ _ (by simp) ?_
      rw [hcell]
      have : 1 ≤ c.size / i.size := (Nat.le_div_iff_mul_le h3').2 (by omega)
      simpa using this
    · cases hkt
  exact ⟨_, w, μ, key, hx0, hs, Grew.refl _ _ _ _ _⟩

theorem does_convert {src dst : TypeId} {x x' v : Value} (h : convertA E src dst x s = some (v, s')) (hx : VRel μ x x') (hs : SRel base μ s.rows.get w) (hf : ∀ r, s.next ≤ r → r < s'.next → μ r = none) (hsy : μ.sy = E.sy) (hez : ∀ b o, E.fz b = some o → μ.fz b = some o) :
    Does E base μ w s s' (convert src dst x') fun μ' b => VRel μ' v b := by
  unfold convertA at h
  cases htk : isTok x with
  | true =>
    rw [htk, cond_true] at h
    obtain ⟨hv, rfl⟩ := lift_some.1 h
    obtain ⟨v', hr, hv'⟩ := ok.askC src dst x v x' w hv (hsy ▸ TokV.of hx (by unfold tokish; rw [htk]; rfl)) (fun b o h => hs.cold b o (hez b o h))
    exact ⟨v', w, μ, hr, (hsy ▸ hv' : TokV μ.sy v v').rel, hs, Grew.refl _ _ _ _ _⟩
  | false =>
  rw [htk, cond_false] at h
  simp only [lift_bind] at h
  obtain ⟨sd, hsd, dd, hdd, h⟩ := h
  split at h
  · exact does_ptr ok hsd hdd h hx hs
  · rename_i t
    have := hx.ofString; subst this
    cases hst : isString dd with
    | true =>
      rw [hst, cond_true, pure_some] at h
      obtain ⟨rfl, rfl⟩ := h
      have : dd = .string := by cases dd <;> first | rfl | cases hst
      subst this
      exact ⟨_, w, μ, run_convert_str ok hsd hdd, .plain _ rfl, hs, Grew.refl _ _ _ _ _⟩
    | false =>
      rw [hst, cond_false] at h
      unfold bytesNew at h
      simp only [lift_bind, fresh_bind, pure_some, sliceT_some] at h
      obtain ⟨e, rfl, _, hu, hb, rfl, e2⟩ := h
      obtain ⟨b, w', μ', hr, hv, h1, h2⟩ := does_bytes (E := E) (e := e) hb e2 hs hf
      refine ⟨b, w', μ', ?_, hv, h1, h2⟩
      unfold convert
      cases sd <;> (simp only [Sem.run_bind, ok.run_und w hsd, ok.run_und w hdd, Result.andThen_ok, u8_some ok hu]; exact hr)
  · rename_i a n c
    cases hst : isString dd with
    | false => rw [hst, cond_false] at h; exact does_mark ok hsd hdd h hx hs
    | true =>
      rw [hst, cond_true] at h
      have : dd = .string := by cases dd <;> first | rfl | cases hst
      subst this
      unfold textOf at h
      simp only [lift_bind, sliceT_some] at h
      obtain ⟨e, rfl, _, hu, h⟩ := h
      rw [bind_some] at h
      obtain ⟨l, s1, hrd, h⟩ := h
      simp only [lift_bind, pure_some] at h
      obtain ⟨bs, hbs, rfl, rfl⟩ := h
      obtain ⟨ns, rfl, rfl⟩ := bytesBack_spec _ _ hbs
      obtain ⟨l', hr, hl, hrun, e1, e2⟩ := read_ok (P := E.P) hrd hx (Nat.le_refl _) hs
      have hl' := VRels.eq (ints_plain ns) hr
      subst hl'
      have hcells := hrun w fun _ => rfl
      have fin : ∀ x'' : Value, x' = x'' → (Conv.bytesToString x'').run E.P w = .ok (.string ⟨⟨ns.map fun n => UInt8.ofNat n.toNat⟩⟩) w →
          (convert src dst x').run E.P w = (Conv.bytesToString x'').run E.P w →
          Does E base μ w s s' (convert src dst x') fun μ' b => VRel μ' (.string ⟨⟨ns.map fun n => UInt8.ofNat n.toNat⟩⟩) b := by
        intro x'' _ h1 h2
        exact ⟨_, w, μ, by rw [h2]; exact h1, .plain _ rfl, by rw [e1]; exact hs, by rw [e2]; exact Grew.refl _ _ _ _ _⟩
      cases a with
      | none =>
        have hx' := hx.ofNilSlice
        subst hx'
        have hns : ns = [] := by
          have : (Builtin.firstCells 1 n (.slice none n c)).run E.P w = .ok #[] w := rfl
          rw [this] at hcells
          injection hcells with hcells
          cases ns with
          | nil => rfl
          | cons => cases hcells
        subst hns
        refine fin _ rfl rfl ?_
        unfold convert
        simp only [Sem.run_bind, ok.run_und w hsd, ok.run_und w hdd, Result.andThen_ok, u8_some ok hu]
      | some a =>
        have key : ∀ (a' : Addr) (c' : Nat), x' = .slice (some a') n c' → Does E base μ w s s' (convert src dst x') fun μ' b => VRel μ' (.string ⟨⟨ns.map fun n => UInt8.ofNat n.toNat⟩⟩) b := by
          intro a' c' hx'
          subst hx'
          have hload : (loadCells a' n).run E.P w = .ok (ns.map (Value.int .u8)).toArray w := by
            have : (loadCells a' (n * 1)).run E.P w = .ok ⟨ns.map (Value.int .u8)⟩ w := hcells
            rw [Nat.mul_one] at this; exact this
          refine fin _ rfl ?_ ?_
          · rw [run_bytesToString w a' n c' ns hload, foldl_push_bytes]
            have he : ByteArray.empty.data = #[] := rfl
            rw [he]; simp
          · unfold convert
            simp only [Sem.run_bind, ok.run_und w hsd, ok.run_und w hdd, Result.andThen_ok, u8_some ok hu]
        rcases hx.ofSlice with ⟨L, _, _, e⟩ | ⟨L, c2, _, _, _, _, e⟩ | ⟨a2, rfl, rfl, e⟩ <;> exact key _ _ e
  · cases hp : plain x with
    | true =>
      rw [hp, cond_true, lift_some, plainly_some] at h
      obtain ⟨⟨hr, hv⟩, rfl⟩ := h
      have := hx.eq hp; subst this
      exact ⟨v, w, μ, pureRun_ok _ _ hr w, .plain v hv, hs, Grew.refl _ _ _ _ _⟩
    | false =>
      rw [hp, cond_false, guard_bind] at h
      obtain ⟨hst, h⟩ := h
      have : dd = .string := by cases dd <;> first | rfl | cases hst
      subst this
      unfold textF at h
      simp only [lift_bind, sliceT_some] at h
      obtain ⟨e, rfl, _, hu, h⟩ := h
      rw [bind_some] at h
      obtain ⟨⟨m, l⟩, s1, hrd, h⟩ := h
      simp only [lift_bind, pure_some] at h
      obtain ⟨bs, hbs, rfl, rfl⟩ := h
      obtain ⟨ns, rfl, rfl⟩ := bytesBack_spec _ _ hbs
      obtain ⟨rfl, n, cs, a, cap, rfl, rfl, rfl, _, l', hr, hl, hrun⟩ := readF_ok (P := E.P) hrd hx hs
      have hl' := VRels.eq (ints_plain ns) hr
      subst hl'
      have hcells := hrun w fun _ => rfl
      have hload : (loadCells a m).run E.P w = .ok (ns.map (Value.int .u8)).toArray w := by
        have : (loadCells a (m * 1)).run E.P w = .ok ⟨ns.map (Value.int .u8)⟩ w := hcells
        rw [Nat.mul_one] at this; exact this
      refine ⟨.string ⟨⟨ns.map fun n => UInt8.ofNat n.toNat⟩⟩, w, μ, ?_, .plain _ rfl, hs, Grew.refl _ _ _ _ _⟩
      have h2 : (convert src dst (.slice (some a) m cap)).run E.P w = (Conv.bytesToString (.slice (some a) m cap)).run E.P w := by
        unfold convert
        simp only [Sem.run_bind, ok.run_und w hsd, ok.run_und w hdd, Result.andThen_ok, u8_some ok hu]
      rw [h2, run_bytesToString w a m cap ns hload, foldl_push_bytes]
      have he : ByteArray.empty.data = #[] := rfl
      rw [he]; simp

theorem does_range {t : TypeId} {x x' v : Value} (h : rangeA E t x s = some (v, s')) (hx : VRel μ x x') (hs : SRel base μ s.rows.get w) (hf : ∀ r, s.next ≤ r → r < s'.next → μ r = none) :
    Does E base μ w s s' (Instr.range t x') fun μ' b => VRel μ' v b := by
  unfold rangeA at h
  simp only [lift_bind, guard_bind, fresh_bind, pure_some, asStr_some] at h
  obtain ⟨d, hd, hst, t', rfl, hb, rfl, e2⟩ := h
  have : d = .string := by cases d <;> first | rfl | cases hst
  subst this
  have := hx.ofString; subst this
  have hn : μ s.next = none := hf s.next (Nat.le_refl _) (by rw [e2]; exact Nat.lt_succ_self _)
  have hbel : Below w.heap.size w (w.alloc (.stringIter t' 0)) := (Below.refl _ _).alloc (Nat.le_refl _) _
  let K : Place := ⟨w.heap.size, 0, 0, 0, 0⟩
  refine ⟨.pointer (some ⟨w.heap.size, 0, none⟩), w.alloc (.stringIter t' 0), μ.with s.next K, ?_, ?_, ?_, Mu.le_with hn _, fun r p q => ?_, fun _ a b => absurd a b, hbel.mono hs.ge⟩
  · unfold Instr.range
    simp only [Sem.run_bind, ok.run_und w hd, Result.andThen_ok, Sem.run_pure, run_newObj, World.alloc_eq]
  · have := VRel.ptr (μ := μ.with s.next K) s.next 0 K (Mu.with_at _ _ _)
    simpa using this
  · refine hs.extend s.next hn (.iter t' 0) K hbel (Nat.le_refl _) (by show w.heap.size < _; simp) ⟨hs.ge, rfl, ?_⟩ (fun r => ?_)
    · show (w.heap.push _)[w.heap.size]? = _; simp
    · rw [e2]; exact D.got _ _ _ _ hb
  · have : r = s.next := by
      rw [Mu.with_eq] at q
      by_cases h : r = s.next
      · exact h
      · rw [if_neg h] at q; exact absurd p q
    rw [e2]; show s.next ≤ r ∧ r < s.next + 1; omega

omit ok in
theorem does_next {x x' v : Value} {b : Bool} {ty : TypeId} (h : nextA x b s = some (v, s')) (hx : VRel μ x x') (hs : SRel base μ s.rows.get w) :
    Does E base μ w s s' (Instr.next x' b ty) fun μ' b => VRel μ' v b := by
  unfold nextA at h
  simp only [guard_bind, lift_bind, row_bind, asRef_some] at h
  obtain ⟨rfl, ⟨r, off⟩, rfl, ho, _, y, hy, ⟨t, pos⟩, hit, h⟩ := h
  simp only at ho hy h hx
  have := Nat.eq_of_beq_eq_true ho; subst this
  have hyr : y = .iter t pos := by
    cases y with
    | iter a b => simp only [asIter, Option.some.injEq, Prod.mk.injEq] at hit; rw [hit.1, hit.2]
    | _ => cases hit
  subst hyr
  obtain ⟨L, hL, rfl⟩ := hx.ofPtr
  obtain ⟨L2, hL2, hge, hzero, hobj⟩ := hs.row r _ hy
  rw [hL] at hL2; injection hL2 with hL2; subst hL2
  have hget : (getObj L.b).run E.P w = .ok (.stringIter t pos) w := run_getObj_some hobj (by intro _ _ _ h; cases h)
  cases hlt : Nat.blt pos t.size with
  | false =>
    rw [hlt, cond_false, pure_some] at h
    obtain ⟨rfl, rfl⟩ := h
    have hnlt : ¬ pos < t.size := by
      intro hh
      have : Nat.blt pos t.size = true := Nat.ble_eq_true_of_le hh
      rw [this] at hlt; cases hlt
    refine ⟨.tuple #[.bool false], w, μ, ?_, .plain _ rfl, hs, Grew.refl _ _ _ _ _⟩
    unfold Instr.next
    simp only [hzero, Nat.add_zero, Sem.run_bind, hget, Result.andThen_ok, hnlt, if_false, Sem.run_pure]
  | true =>
    rw [hlt, cond_true] at h
    have hpl : pos < t.size := Nat.le_of_ble_eq_true hlt
    rw [bind_some] at h
    obtain ⟨⟨⟩, s1, h1, h⟩ := h
    rw [turn_some] at h1
    rw [pure_some] at h
    obtain ⟨_, _, hbr, e1⟩ := h1
    obtain ⟨rfl, rfl⟩ := h
    have hLb : L.b < w.heap.size := hs.dom r _ L hy hL
    let w' : World := { w with heap := w.heap.setIfInBounds L.b (.stringIter t (pos + (Utf8.decode t pos).2)) }
    have hset : (setObj L.b (.stringIter t (pos + (Utf8.decode t pos).2))).run E.P w = .ok () w' := by
      simp only [setObj, Sem.run, hobj]; rfl
    have hb2 : ∀ b, b ≠ L.b → w'.heap[b]? = w.heap[b]? := by
      intro b hb
      show (w.heap.setIfInBounds L.b _)[b]? = _
      rw [Array.getElem?_setIfInBounds, if_neg (Ne.symm hb)]
    refine ⟨.tuple #[.bool true, goInt pos, .int .i32 (Utf8.decode t pos).1], w', μ, ?_, .plain _ rfl, ?_, Mu.le_refl _, fun _ a b => absurd a b, fun _ a b => absurd a b, ?_⟩
    · unfold Instr.next
      simp only [hzero, Nat.add_zero, Sem.run_bind, hget, Result.andThen_ok, hpl, if_true, hset, Sem.run_pure]
    · refine hs.turn r _ L hy rfl hL (by show (w.heap.setIfInBounds _ _).size = _; simp) hb2 (some (.iter t (pos + (Utf8.decode t pos).2))) (fun z hz => ?_) (fun q => ?_)
      · injection hz with hz; subst hz
        refine ⟨hge, hzero, ?_⟩
        show (w.heap.setIfInBounds L.b _)[L.b]? = _
        rw [Array.getElem?_setIfInBounds, if_pos rfl, if_pos hLb]
      · rw [e1]; exact D.got _ _ _ _ hbr
    · exact ⟨rfl, rfl, rfl, by show w.heap.size ≤ (w.heap.setIfInBounds _ _).size; simp, fun k hk => hb2 k (by omega)⟩
end
end Go.Cm
