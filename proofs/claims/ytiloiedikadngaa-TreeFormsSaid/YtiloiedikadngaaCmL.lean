/-
  Conversions, readers of texts; the operations that look at no memory.
-/
import Derived.Test.YtiloiedikadngaaCmK
import Derived.Laws.BytesArg
import Derived.LaidEql
namespace Go.Cm
open Go Go.RowKit

section
variable {E : Env} (ok : E.Ok) {base : Nat} {μ : Mu} {w : World} {s s' : St}
include ok

theorem run_convert_str {src dst : TypeId} {t : ByteArray} {sd : TypeDesc} (hs : E.und src = some sd) (hd : E.und dst = some .string) : (convert src dst (.string t)).run E.P w = .ok (.string t) w := by
  unfold convert
  cases sd <;> simp only [Sem.run_bind, ok.run_und w hs, ok.run_und w hd, Result.andThen_ok, Sem.run_pure]

theorem does_convert {src dst : TypeId} {x x' v : Value} (h : convertA E src dst x s = some (v, s')) (hx : VRel μ x x') (hs : SRel base μ s.rows.get w) (hf : ∀ r, s.next ≤ r → r < s'.next → μ r = none) :
    Does E base μ w s s' (convert src dst x') fun μ' b => VRel μ' v b := by
  unfold convertA at h
  simp only [lift_bind] at h
  obtain ⟨sd, hsd, dd, hdd, h⟩ := h
  split at h
  · rename_i t
    have := hx.ofString; subst this
    cases hst : isString dd with
    | true =>
      rw [hst, cond_true, pure_some] at h
      obtain ⟨rfl, rfl⟩ := h
      have : dd = .string := by cases dd <;> first | rfl | cases hst
      subst this
      exact ⟨_, w, μ, run_convert_str ok hsd hdd, .plain _ rfl, hs, Grew.refl _ _ _ _ _⟩
    | false =>
      rw [hst, cond_false] at h
      unfold bytesNew at h
      simp only [lift_bind, fresh_bind, pure_some, sliceT_some] at h
      obtain ⟨e, rfl, _, hu, hb, rfl, e2⟩ := h
      obtain ⟨b, w', μ', hr, hv, h1, h2⟩ := does_bytes (E := E) (e := e) hb e2 hs hf
      refine ⟨b, w', μ', ?_, hv, h1, h2⟩
      unfold convert
      cases sd <;> (simp only [Sem.run_bind, ok.run_und w hsd, ok.run_und w hdd, Result.andThen_ok, u8_some ok hu]; exact hr)
  · rename_i a n c
    cases hst : isString dd with
    | false => rw [hst, cond_false, fail_some] at h; exact h.elim
    | true =>
      rw [hst, cond_true] at h
      have : dd = .string := by cases dd <;> first | rfl | cases hst
      subst this
      unfold textOf at h
      simp only [lift_bind, sliceT_some] at h
      obtain ⟨e, rfl, _, hu, h⟩ := h
      rw [bind_some] at h
      obtain ⟨l, s1, hrd, h⟩ := h
      simp only [lift_bind, pure_some] at h
      obtain ⟨bs, hbs, rfl, rfl⟩ := h
      obtain ⟨ns, rfl, rfl⟩ := bytesBack_spec _ _ hbs
      obtain ⟨l', hr, hl, hrun, e1, e2⟩ := read_ok (P := E.P) hrd hx (Nat.le_refl _) hs
      have hl' := VRels.eq (ints_plain ns) hr
      subst hl'
      have hcells := hrun w fun _ => rfl
      have fin : ∀ x'' : Value, x' = x'' → (Conv.bytesToString x'').run E.P w = .ok (.string ⟨⟨ns.map fun n => UInt8.ofNat n.toNat⟩⟩) w →
          (convert src dst x').run E.P w = (Conv.bytesToString x'').run E.P w →
          Does E base μ w s s' (convert src dst x') fun μ' b => VRel μ' (.string ⟨⟨ns.map fun n => UInt8.ofNat n.toNat⟩⟩) b := by
        intro x'' _ h1 h2
        exact ⟨_, w, μ, by rw [h2]; exact h1, .plain _ rfl, by rw [e1]; exact hs, by rw [e2]; exact Grew.refl _ _ _ _ _⟩
      cases a with
      | none =>
        have hx' := hx.ofNilSlice
        subst hx'
        have hns : ns = [] := by
          have : (Builtin.firstCells 1 n (.slice none n c)).run E.P w = .ok #[] w := rfl
          rw [this] at hcells
          injection hcells with hcells
          cases ns with
          | nil => rfl
          | cons => cases hcells
        subst hns
        refine fin _ rfl rfl ?_
        unfold convert
        simp only [Sem.run_bind, ok.run_und w hsd, ok.run_und w hdd, Result.andThen_ok, u8_some ok hu]
      | some a =>
        have key : ∀ (a' : Addr) (c' : Nat), x' = .slice (some a') n c' → Does E base μ w s s' (convert src dst x') fun μ' b => VRel μ' (.string ⟨⟨ns.map fun n => UInt8.ofNat n.toNat⟩⟩) b := by
          intro a' c' hx'
          subst hx'
          have hload : (loadCells a' n).run E.P w = .ok (ns.map (Value.int .u8)).toArray w := by
            have : (loadCells a' (n * 1)).run E.P w = .ok ⟨ns.map (Value.int .u8)⟩ w := hcells
            rw [Nat.mul_one] at this; exact this
          refine fin _ rfl ?_ ?_
          · rw [run_bytesToString w a' n c' ns hload, foldl_push_bytes]
            have he : ByteArray.empty.data = #[] := rfl
            rw [he]; simp
          · unfold convert
            simp only [Sem.run_bind, ok.run_und w hsd, ok.run_und w hdd, Result.andThen_ok, u8_some ok hu]
        rcases hx.ofSlice with ⟨L, _, _, e⟩ | ⟨L, c2, _, _, _, _, e⟩ | ⟨a2, rfl, rfl, e⟩ <;> exact key _ _ e
  · rw [guard_bind, lift_some, plainly_some] at h
    obtain ⟨hp, ⟨hr, hv⟩, rfl⟩ := h
    have := hx.eq hp; subst this
    exact ⟨v, w, μ, pureRun_ok _ _ hr w, .plain v hv, hs, Grew.refl _ _ _ _ _⟩

theorem does_range {t : TypeId} {x x' v : Value} (h : rangeA E t x s = some (v, s')) (hx : VRel μ x x') (hs : SRel base μ s.rows.get w) (hf : ∀ r, s.next ≤ r → r < s'.next → μ r = none) :
    Does E base μ w s s' (Instr.range t x') fun μ' b => VRel μ' v b := by
  unfold rangeA at h
  simp only [lift_bind, guard_bind, fresh_bind, pure_some, asStr_some] at h
  obtain ⟨d, hd, hst, t', rfl, hb, rfl, e2⟩ := h
  have : d = .string := by cases d <;> first | rfl | cases hst
  subst this
  have := hx.ofString; subst this
  have hn : μ s.next = none := hf s.next (Nat.le_refl _) (by rw [e2]; exact Nat.lt_succ_self _)
  have hbel : Below w.heap.size w (w.alloc (.stringIter t' 0)) := (Below.refl _ _).alloc (Nat.le_refl _) _
  let K : Place := ⟨w.heap.size, 0, 0, 0⟩
  refine ⟨.pointer (some ⟨w.heap.size, 0, none⟩), w.alloc (.stringIter t' 0), μ.with s.next K, ?_, ?_, ?_, Mu.le_with hn _, fun r p q => ?_, hbel.mono hs.ge⟩
  · unfold Instr.range
    simp only [Sem.run_bind, ok.run_und w hd, Result.andThen_ok, Sem.run_pure, run_newObj, World.alloc_eq]
  · have := VRel.ptr (μ := μ.with s.next K) s.next 0 K (Mu.with_at _ _ _)
    simpa using this
  · refine hs.extend s.next hn (.iter t' 0) K hbel (Nat.le_refl _) (by show w.heap.size < _; simp) ⟨hs.ge, rfl, ?_⟩ (fun r => ?_)
    · show (w.heap.push _)[w.heap.size]? = _; simp
    · rw [e2]; exact T.got _ _ _ _ hb
  · have : r = s.next := by
      unfold Mu.with at q
      by_cases h : r = s.next
      · exact h
      · rw [if_neg h] at q; exact absurd p q
    rw [e2]; show s.next ≤ r ∧ r < s.next + 1; omega

omit ok in
theorem does_next {x x' v : Value} {b : Bool} {ty : TypeId} (h : nextA x b s = some (v, s')) (hx : VRel μ x x') (hs : SRel base μ s.rows.get w) :
    Does E base μ w s s' (Instr.next x' b ty) fun μ' b => VRel μ' v b := by
  unfold nextA at h
  simp only [guard_bind, lift_bind, row_bind, asRef_some] at h
  obtain ⟨rfl, ⟨r, off⟩, rfl, ho, _, y, hy, ⟨t, pos⟩, hit, h⟩ := h
  simp only at ho hy h hx
  have := Nat.eq_of_beq_eq_true ho; subst this
  have hyr : y = .iter t pos := by
    cases y with
    | iter a b => simp only [asIter, Option.some.injEq, Prod.mk.injEq] at hit; rw [hit.1, hit.2]
    | _ => cases hit
  subst hyr
  obtain ⟨L, hL, rfl⟩ := hx.ofPtr
  obtain ⟨L2, hL2, hge, hzero, hobj⟩ := hs.row r _ hy
  rw [hL] at hL2; injection hL2 with hL2; subst hL2
  have hget : (getObj L.b).run E.P w = .ok (.stringIter t pos) w := run_getObj_some hobj (by intro _ _ _ h; cases h)
  cases hlt : Nat.blt pos t.size with
  | false =>
    rw [hlt, cond_false, pure_some] at h
    obtain ⟨rfl, rfl⟩ := h
    have hnlt : ¬ pos < t.size := by
      intro hh
      have : Nat.blt pos t.size = true := Nat.ble_eq_true_of_le hh
      rw [this] at hlt; cases hlt
    refine ⟨.tuple #[.bool false], w, μ, ?_, .plain _ rfl, hs, Grew.refl _ _ _ _ _⟩
    unfold Instr.next
    simp only [hzero, Nat.add_zero, Sem.run_bind, hget, Result.andThen_ok, hnlt, if_false, Sem.run_pure]
  | true =>
    rw [hlt, cond_true] at h
    have hpl : pos < t.size := Nat.le_of_ble_eq_true hlt
    rw [bind_some] at h
    obtain ⟨⟨⟩, s1, h1, h⟩ := h
    rw [turn_some] at h1
    rw [pure_some] at h
    obtain ⟨_, _, hbr, e1⟩ := h1
    obtain ⟨rfl, rfl⟩ := h
    have hLb : L.b < w.heap.size := hs.dom r L hL
    let w' : World := { w with heap := w.heap.setIfInBounds L.b (.stringIter t (pos + (Utf8.decode t pos).2)) }
    have hset : (setObj L.b (.stringIter t (pos + (Utf8.decode t pos).2))).run E.P w = .ok () w' := by
      simp only [setObj, Sem.run, hobj]; rfl
    have hb2 : ∀ b, b ≠ L.b → w'.heap[b]? = w.heap[b]? := by
      intro b hb
      show (w.heap.setIfInBounds L.b _)[b]? = _
      rw [Array.getElem?_setIfInBounds, if_neg (Ne.symm hb)]
    refine ⟨.tuple #[.bool true, goInt pos, .int .i32 (Utf8.decode t pos).1], w', μ, ?_, .plain _ rfl, ?_, Mu.le_refl _, fun _ a b => absurd a b, ?_⟩
    · unfold Instr.next
      simp only [hzero, Nat.add_zero, Sem.run_bind, hget, Result.andThen_ok, hpl, if_true, hset, Sem.run_pure]
    · refine hs.turn r _ L hy rfl hL (by show (w.heap.setIfInBounds _ _).size = _; simp) hb2 (some (.iter t (pos + (Utf8.decode t pos).2))) (fun z hz => ?_) (fun q => ?_)
      · injection hz with hz; subst hz
        refine ⟨hge, hzero, ?_⟩
        show (w.heap.setIfInBounds L.b _)[L.b]? = _
        rw [Array.getElem?_setIfInBounds, if_pos rfl, if_pos hLb]
      · rw [e1]; exact T.got _ _ _ _ hbr
    · exact ⟨rfl, rfl, rfl, by show w.heap.size ≤ (w.heap.setIfInBounds _ _).size; simp, fun k hk => hb2 k (by omega)⟩
end
end Go.Cm
