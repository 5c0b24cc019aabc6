/-
  More operations on memory: new slices, readers, lengths. Makes, appends, copies, conversions, lengths. Append.
-/
import Derived.Test.YtkcibhokjiciiaaMb
import Derived.Laws.BytesString
import Derived.IntWalk
namespace Go.Cm
open Go Go.RowKit

theorem plain_cells {z : Value} (h : plain z = true) : plains z.cells.toList = true := by
  cases z <;> first
    | exact plain_agg h
    | exact plains_cons.2 ⟨h, rfl⟩

structure ElemOk (E : Env) (e : TypeId) (i : Elem) (inf : TypeInfo) (z : Value) : Prop where
  info : E.info e = some inf
  zero : zeroA E e = some z
  size : inf.size = i.size
  bytes : inf.bytes = i.bytes
  cells : i.zero = z.cells.toList
  len : i.zero.length = i.size
  pos : 0 < i.size
  small : i.size < tagT
  es : i.es = codeE i.size (e + 1)
  plain : plains i.zero = true

theorem zero_plain {E : Env} {e : TypeId} {z : Value} (h : zeroA E e = some z) : plain z = true := by
  unfold zeroA at h
  simp only [Option.bind_eq_some_iff, Option.map_eq_some_iff] at h
  obtain ⟨_, _, y, _, _, hg, rfl⟩ := h
  exact guardO_some.1 hg

theorem elem_some {E : Env} {e : TypeId} {i : Elem} (h : elemA E e = some i) : ∃ inf z, ElemOk E e i inf z := by
  unfold elemA at h
  simp only [Option.bind_eq_some_iff, Option.map_eq_some_iff] at h
  obtain ⟨inf, hi, z, hz, _, hg, rfl⟩ := h
  rw [guardO_some, Bool.and_eq_true, Bool.and_eq_true] at hg
  have h1 := Nat.eq_of_beq_eq_true hg.1.1
  have h2 : 0 < inf.size := Nat.le_of_ble_eq_true hg.1.2
  have h3 : inf.size < tagT := Nat.le_of_ble_eq_true hg.2
  exact ⟨inf, z, hi, hz, rfl, rfl, rfl, by simpa using h1, h2, h3, rfl, plain_cells (zero_plain hz)⟩

theorem repeats_length (z : List Value) : ∀ n, (repeats z n).length = n * z.length
  | 0 => by simp [repeats]
  | n + 1 => by simp only [repeats, List.length_append, repeats_length z n]; rw [Nat.succ_mul]; omega
theorem repeats_get (z : List Value) (hz : 0 < z.length) : ∀ (n i : Nat), i < n * z.length → (repeats z n)[i]? = z[i % z.length]?
  | 0, i, h => by simp at h
  | n + 1, i, h => by
    rw [repeats]
    rcases Nat.lt_or_ge i z.length with hi | hi
    · rw [List.getElem?_append_left hi, Nat.mod_eq_of_lt hi]
    · rw [List.getElem?_append_right hi, repeats_get z hz n _ (by rw [Nat.succ_mul] at h; omega)]
      rw [Nat.mod_eq_sub_mod hi]
theorem repeats_plain {z : List Value} (h : plains z = true) : ∀ n, plains (repeats z n) = true
  | 0 => rfl
  | n + 1 => by
    have ih := repeats_plain h n
    rw [repeats]
    have app : ∀ a b : List Value, plains a = true → plains b = true → plains (a ++ b) = true := by
      intro a
      induction a with
      | nil => intro b _ h; exact h
      | cons x a ih => intro b ha hb; have := plains_cons.1 ha; exact plains_cons.2 ⟨this.1, ih b this.2 hb⟩
    exact app _ _ h ih
theorem range_map_zero (z : List Value) (hz : 0 < z.length) (n : Nat) :
    (Array.range (n * z.length)).map (fun i => (⟨z⟩ : Array Value)[i % z.length]!) = ⟨repeats z n⟩ := by
  apply Array.ext'
  apply List.ext_getElem?
  intro i
  simp only [Array.toList_map, Array.toList_range, List.getElem?_map]
  rcases Nat.lt_or_ge i (n * z.length) with h | h
  · rw [List.getElem?_range h]
    rw [repeats_get z hz n i h]
    have hm : i % z.length < z.length := Nat.mod_lt _ hz
    simp only [Option.map_some]
    rw [List.getElem?_eq_getElem hm]
    congr 1
    rw [getElem!_pos (⟨z⟩ : Array Value) (i % z.length) (by simpa using hm)]
    rfl
  · rw [List.getElem?_eq_none (by simpa using h), List.getElem?_eq_none (by rw [repeats_length]; exact h)]; rfl

/-- Parts, place by place. -/
inductive PRels (μ : Mu) : List (Nat × Value) → List (Nat × Value) → Prop
  | nil : PRels μ [] []
  | cons (i : Nat) (v v' : Value) (l l' : List (Nat × Value)) (h : VRel μ v v') (hl : PRels μ l l') : PRels μ ((i, v) :: l) ((i, v') :: l')

theorem fold_set (off : Nat) : ∀ (vs : List Value) (k : Nat) (cs : Array Value),
    ((vs.zipIdx k).foldl (fun (cs : Array Value) (p : Value × Nat) => cs.setIfInBounds (off + p.2) p.1) cs).size = cs.size ∧
    ∀ i : Nat, ((vs.zipIdx k).foldl (fun (cs : Array Value) (p : Value × Nat) => cs.setIfInBounds (off + p.2) p.1) cs)[i]? =
      if off + k ≤ i ∧ i < off + k + vs.length ∧ i < cs.size then vs[i - (off + k)]? else cs[i]?
  | [], k, cs => ⟨rfl, fun i => by rw [if_neg]; rfl; simp; omega⟩
  | v :: vs, k, cs => by
    obtain ⟨h1, h2⟩ := fold_set off vs (k + 1) (cs.setIfInBounds (off + k) v)
    refine ⟨by simpa using h1, fun i => ?_⟩
    simp only [List.zipIdx_cons, List.foldl_cons]
    rw [h2 i]
    simp only [Array.size_setIfInBounds, List.length_cons]
    by_cases c : off + (k + 1) ≤ i ∧ i < off + (k + 1) + vs.length ∧ i < cs.size
    · rw [if_pos c, if_pos (by omega), show i - (off + k) = (i - (off + (k + 1))) + 1 by omega]; rfl
    · rw [if_neg c]
      by_cases e : i = off + k
      · subst e
        by_cases hs : off + k < cs.size
        · rw [if_pos (by omega)]
          simp [hs]
        · rw [if_neg (by omega)]
          rw [Array.getElem?_eq_none (by simp; omega), Array.getElem?_eq_none (by omega)]
      · rw [if_neg (by omega)]
        simp [Ne.symm e]

theorem does_fill {μ : Mu} (place : Nat → Option (Nat × Nat)) (ps ps' : List (Nat × Value)) (cs cs' l : List Value) (h : fillA place cs ps = some cs') (hp : PRels μ ps ps') (hv : VRels μ cs l) :
    ∃ l', Instr.fill place ⟨l⟩ ps' = some ⟨l'⟩ ∧ VRels μ cs' l' := by
  induction hp generalizing cs l with
  | nil =>
    simp only [fillA, Option.some.injEq] at h; subst h
    exact ⟨l, rfl, hv⟩
  | cons i v v' ps ps' hvv hps ih =>
    simp only [fillA, Option.bind_eq_some_iff, guardO_some] at h
    obtain ⟨⟨off, size⟩, hp, _, hg, cs2, hsp, hrest⟩ := h
    have hj : isJunk v = false := by cases hj : isJunk v <;> simp [hj] at hg ⊢
    rw [hj, cond_false, Bool.and_eq_true] at hg
    obtain ⟨hg1, hg2⟩ := hg
    have hsz := Nat.eq_of_beq_eq_true hg1
    have hle := Nat.le_of_ble_eq_true hg2
    obtain ⟨hlen, hin, hget⟩ := splice_spec cs off v.cells.toList cs2 hsp
    have hl := hv.length
    have hc := hvv.cells hj
    have hcl := hc.length
    simp only [Array.length_toList] at hcl
    simp only at hsz hle
    let a2 : Array Value := v'.cells.zipIdx.foldl (fun (cs : Array Value) (p : Value × Nat) => cs.setIfInBounds (off + p.2) p.1) ⟨l⟩
    have ha2 : a2.size = l.length ∧ ∀ i : Nat, a2[i]? = if off ≤ i ∧ i < off + v'.cells.size ∧ i < l.length then v'.cells[i - off]? else l[i]? := by
      have := fold_set off v'.cells.toList 0 ⟨l⟩
      have e : a2 = (v'.cells.toList.zipIdx 0).foldl (fun (cs : Array Value) (p : Value × Nat) => cs.setIfInBounds (off + p.2) p.1) ⟨l⟩ := by
        show v'.cells.zipIdx.foldl _ _ = _
        rw [← Array.foldl_toList]
        simp
      rw [e]
      refine ⟨this.1, fun i => ?_⟩
      have h2 := this.2 i
      simp only [Nat.add_zero, Array.length_toList, Array.getElem?_toList] at h2
      rw [h2]; simp only [List.size_toArray, List.getElem?_toArray]
    have hv2 : VRels μ cs2 a2.toList := by
      refine VRels.of_get _ _ (by simp [ha2.1, hl, hlen]) fun j x hx => ?_
      rw [hget] at hx
      rw [Array.getElem?_toList, ha2.2]
      simp only [Array.length_toList] at hx
      by_cases c : off ≤ j ∧ j < off + v.cells.size
      · rw [if_pos c] at hx
        rw [if_pos (by omega)]
        obtain ⟨u, hu, hr⟩ := hc.get _ x hx
        exact ⟨u, by rwa [Array.getElem?_toList] at hu, hr⟩
      · rw [if_neg c] at hx
        rw [if_neg (by omega)]
        exact hv.get _ x hx
    obtain ⟨l', hf, hr⟩ := ih cs2 a2.toList hrest hv2
    refine ⟨l', ?_, hr⟩
    unfold Instr.fill
    simp only [hp]
    rw [if_neg]
    · exact hf
    · simp only [Bool.or_eq_true, decide_eq_true_eq, not_or, ne_eq, Decidable.not_not]
      refine ⟨by omega, ?_⟩
      show ¬ (off + v'.cells.size > l.length)
      omega

section
variable {E : Env} (ok : E.Ok) {base : Nat} {μ : Mu} {w : World} {s s' : St}
include ok

theorem does_alloc {t : TypeId} {v : Value} (h : allocA E t s = some (v, s')) (hs : SRel base μ s.rows.get w) (hf : ∀ r, s.next ≤ r → r < s'.next → μ r = none) :
    Does E base μ w s s' (Instr.alloc t true (.tuple #[])) fun μ' b => VRel μ' v b := by
  unfold allocA at h
  rw [lift_bind] at h
  obtain ⟨z, hz, h⟩ := h
  obtain ⟨b, w', μ', hr, hv, h1, h2⟩ := does_newVar (E := E) (t := t) (u := z) (by unfold tagT; omega) (Or.inr rfl) h (VRels.plain (plain_cells (zero_plain hz))) hs hf
  refine ⟨b, w', μ', ?_, hv, h1, h2⟩
  unfold Instr.alloc
  simp only [Sem.run_bind, (ok.run_zero w hz).1, Result.andThen_ok]
  exact hr

omit ok in
theorem does_box {t : TypeId} {x x' v : Value} (hj : isJunk x = false) (h : newA 0 x.cells.toList s = some (v, s')) (hx : VRel μ x x') (hs : SRel base μ s.rows.get w) (hf : ∀ r, s.next ≤ r → r < s'.next → μ r = none) :
    Does E base μ w s s' (Instr.box t x') fun μ' b => VRel μ' v b := does_newVar (es := 0) (ty := 0) (by unfold tagT; omega) (Or.inl rfl) h (hx.cells hj) hs hf

theorem does_buildSlice {t : TypeId} {len : Nat} {ps : List (Nat × Value)} {ps' : Array (Nat × Value)} {v : Value} (h : buildSliceA E t len ps s = some (v, s')) (hp : PRels μ ps ps'.toList) (hs : SRel base μ s.rows.get w)
    (hf : ∀ r, s.next ≤ r → r < s'.next → μ r = none) : Does E base μ w s s' (Instr.buildSlice t len ps') fun μ' b => VRel μ' v b := by
  unfold buildSliceA at h
  simp only [lift_bind, guard_bind, fresh_bind, pure_some, Option.bind_eq_some_iff, sliceT_some] at h
  obtain ⟨e, ⟨d, hd, rfl⟩, i, hi, hle, cs, hfill, hb, e1, e2⟩ := h
  subst e1
  obtain ⟨inf, z, he⟩ := elem_some hi
  obtain ⟨l', hfl, hv⟩ := does_fill _ ps ps'.toList _ cs _ hfill hp (VRels.plain (repeats_plain he.plain len))
  rw [he.es] at e2
  obtain ⟨hs', hg⟩ := does_new (t := e) (c' := ⟨l'⟩) he.small (Or.inr rfl) hb e2 hv hs hf
  refine ⟨.slice (some ⟨w.heap.size, 0, none⟩) len len, _, _, ?_, ?_, hs', hg⟩
  · unfold Instr.buildSlice
    have hz : z.cells = ⟨i.zero⟩ := by apply Array.ext'; exact he.cells.symm
    have hle' := Nat.le_of_ble_eq_true hle
    have hzl := he.len
    have hpos := he.pos
    simp only [Sem.run_bind, ok.run_und w hd, Result.andThen_ok, ok.run_size w he.info, he.size]
    rw [if_neg (by omega)]
    have hcells : ∀ (zero : Array Value), (len = 0 → zero = #[]) → (len ≠ 0 → zero = ⟨i.zero⟩) →
        (Array.range (len * i.size)).map (fun k => zero[k % zero.size]!) = ⟨repeats i.zero len⟩ := by
      intro zero h0 h1
      by_cases hl : len = 0
      · subst hl; simp [repeats]
      · rw [h1 hl]
        have := range_map_zero i.zero (by omega) len
        rw [hzl] at this
        simpa [hzl] using this
    by_cases hl : len = 0
    · rw [if_pos (by rw [hl]; simp)]
      simp only [Sem.run_bind, Sem.run_pure, Result.andThen_ok, hcells #[] (fun _ => rfl) (fun h => absurd hl h), hfl]
      unfold newRow
      simp only [Sem.run_bind, run_newObj, Result.andThen_ok, Sem.run_pure, World.alloc_eq]
    · rw [if_neg (Nat.mul_ne_zero hl (by omega))]
      simp only [Sem.run_bind, Sem.run_pure, Result.andThen_ok, (ok.run_zero w he.zero).1, hz, hcells ⟨i.zero⟩ (fun h => absurd h hl) (fun _ => rfl), hfl]
      unfold newRow
      simp only [Sem.run_bind, run_newObj, Result.andThen_ok, Sem.run_pure, World.alloc_eq]
  · have := VRel.slice (μ := μ.with s.next ⟨w.heap.size, 0, l'.length, i.size, e + 1⟩) s.next 0 len len _ (Mu.with_at _ _ _)
    simpa using this
end
end Go.Cm
namespace Go.Cm
open Go Go.RowKit

theorem reach_some {n b : Nat} (h : inReach n b = true) : n ≤ 1000000000 ∧ n * b ≤ 1000000000000 := by
  unfold inReach at h
  rw [Bool.and_eq_true] at h
  exact ⟨Nat.le_of_ble_eq_true h.1, Nat.le_of_ble_eq_true h.2⟩

theorem wrap_small (n : Nat) (h : n ≤ 1000000000) : IntKind.i64.wrap (n : Int) = n := by
  exact IntWalk.i64_in _ (by omega)

section
variable {E : Env} (ok : E.Ok) {base : Nat} {μ : Mu} {w : World} {s s' : St}
include ok

theorem does_makeSlice {t : TypeId} {l c v : Value} (h : makeSliceA E t l c s = some (v, s')) (hs : SRel base μ s.rows.get w) (hf : ∀ r, s.next ≤ r → r < s'.next → μ r = none) :
    Does E base μ w s s' (Instr.makeSlice t l c) fun μ' b => VRel μ' v b := by
  unfold makeSliceA at h
  simp only [lift_bind, guard_bind, fresh_bind, pure_some, Option.bind_eq_some_iff, sliceT_some, Bool.and_eq_true, idx_some] at h
  obtain ⟨e, ⟨d, hd, rfl⟩, i, hi, m, ⟨k1, rfl⟩, n, ⟨k2, rfl⟩, ⟨hle, hreach⟩, hb, e1, e2⟩ := h
  subst e1
  obtain ⟨inf, z, he⟩ := elem_some hi
  obtain ⟨hn, hbytes⟩ := reach_some hreach
  have hmn := Nat.le_of_ble_eq_true hle
  rw [he.es] at e2
  obtain ⟨hs', hg⟩ := does_new (t := e) (c' := ⟨repeats i.zero n⟩) he.small (Or.inr rfl) hb e2 (VRels.plain (repeats_plain he.plain n)) hs hf
  refine ⟨.slice (some ⟨w.heap.size, 0, none⟩) m n, _, _, ?_, ?_, hs', hg⟩
  · unfold Instr.makeSlice
    have hz : z.cells = ⟨i.zero⟩ := by apply Array.ext'; exact he.cells.symm
    have hzl := he.len
    have hpos := he.pos
    have hc1 : IntKind.i64.wrap (Int.ofNat n) = (n : Int) := wrap_small n hn
    have hc2 : IntKind.i64.wrap (Int.ofNat m) = (m : Int) := wrap_small m (by omega)
    have hb2 : ¬ ((inf.bytes : Int) * (n : Int) > 2 ^ 48) := by
      rw [he.bytes]
      have : ((i.bytes * n : Nat) : Int) ≤ ((1000000000000 : Nat) : Int) := Int.ofNat_le.2 (by rw [Nat.mul_comm]; exact hbytes)
      rw [Int.natCast_mul] at this
      omega
    have htl : (decide ((n : Int) < 0) || decide ((inf.bytes : Int) * (n : Int) > 2 ^ 48)) = false := by
      rw [Bool.or_eq_false_iff]; exact ⟨decide_eq_false (by omega), decide_eq_false hb2⟩
    simp only [Sem.run_bind, ok.run_und w hd, Result.andThen_ok, asInt, asIntOf, Sem.run_pure, ok.run_info w he.info, hc1, hc2, htl]
    have hcond : (false || decide ((m : Int) < 0) || decide ((m : Int) > (n : Int))) = false := by
      simp only [Bool.false_or, Bool.or_eq_false_iff, decide_eq_false_iff_not]; omega
    rw [hcond]
    simp only [Bool.false_eq_true, if_false, Sem.run_bind, run_askRoom, Result.andThen_ok, ok.run_size w he.info, Int.toNat_natCast, he.size]
    have hcells : ∀ (zero : Array Value), (n = 0 → zero = #[]) → (n ≠ 0 → zero = ⟨i.zero⟩) →
        (Array.range (n * i.size)).map (fun k => zero[k % zero.size]!) = ⟨repeats i.zero n⟩ := by
      intro zero h0 h1
      by_cases hl : n = 0
      · subst hl; simp [repeats]
      · rw [h1 hl]
        have := range_map_zero i.zero (by omega) n
        rw [hzl] at this
        simpa [hzl] using this
    by_cases hl : n = 0
    · rw [if_pos (by rw [hl]; simp)]
      simp only [Sem.run_bind, Sem.run_pure, Result.andThen_ok, hcells #[] (fun _ => rfl) (fun h => absurd hl h)]
      unfold newRow
      simp only [Sem.run_bind, run_newObj, Result.andThen_ok, Sem.run_pure, World.alloc_eq]
    · rw [if_neg (Nat.mul_ne_zero hl (by omega))]
      simp only [Sem.run_bind, Sem.run_pure, Result.andThen_ok, (ok.run_zero w he.zero).1, hz, hcells ⟨i.zero⟩ (fun h => absurd h hl) (fun _ => rfl)]
      unfold newRow
      simp only [Sem.run_bind, run_newObj, Result.andThen_ok, Sem.run_pure, World.alloc_eq]
  · have := VRel.slice (μ := μ.with s.next ⟨w.heap.size, 0, (repeats i.zero n).length, i.size, e + 1⟩) s.next 0 m n _ (Mu.with_at _ _ _)
    simpa using this

omit ok
/-- The first cells of a slice. -/
theorem read_ok {P : Program} {size : Nat} {a : Option Addr} {n len cap : Nat} {l : List Value} {v' : Value} (h : readA size a n s = some (l, s')) (hv : VRel μ (.slice a len cap) v') (hn : n ≤ len) (hs : SRel base μ s.rows.get w) :
    ∃ l', VRels μ l l' ∧ l'.length = n * size ∧ (∀ w2 : World, (∀ b : Nat, w2.heap[b]? = w.heap[b]?) → (Builtin.firstCells size n v').run P w2 = .ok ⟨l'⟩ w2) ∧ s'.rows = s.rows ∧ s'.next = s.next := by
  cases n with
  | zero =>
    unfold readA at h
    rw [pure_some] at h
    obtain ⟨rfl, rfl⟩ := h
    refine ⟨[], .nil, by simp, fun w2 _ => ?_, rfl, rfl⟩
    cases a with
    | none => rw [hv.ofNilSlice]; rfl
    | some a =>
      have hload : ∀ a' : Addr, (loadCells a' (0 * size)).run P w2 = .ok #[] w2 := fun a' => by
        have := run_loadCells_list (P := P) w2 a' [] (by simp)
        simpa using this
      rcases hv.ofSlice with ⟨L, _, _, rfl⟩ | ⟨L, c, _, _, _, _, rfl⟩ | ⟨a', _, _, rfl⟩ <;> exact hload _
  | succ n =>
    unfold readA at h
    simp only [lift_bind, row_bind, lift_some, cellsR_some] at h
    obtain ⟨ad, rfl, _, x, hx, cs, ⟨ro, es, rfl⟩, hp, e⟩ := h
    obtain ⟨L', hL', hrow⟩ := hs.row ad.block _ hx
    obtain ⟨l', hr, hl, hc⟩ := row_read hrow hp
    have fin : ∀ c2, (∀ w2 : World, (∀ b : Nat, w2.heap[b]? = w.heap[b]?) → (Builtin.firstCells size (n + 1) (.slice (some ⟨L'.b, L'.o + ad.off, none⟩) len c2)).run P w2 = .ok ⟨l'⟩ w2) := by
      intro c2 w2 hw2
      show (loadCells ⟨L'.b, L'.o + ad.off, none⟩ ((n + 1) * size)).run P w2 = _
      have := run_loadCells_list (P := P) w2 ⟨L'.b, L'.o + ad.off, none⟩ l' (fun j v hv => by
        have := hc j v hv
        rw [addr_add] at this ⊢
        rw [cell?_block (hw2 _)]; exact this)
      rw [hl] at this
      exact this
    refine ⟨l', hr, hl, ?_, by rw [e], by rw [e]⟩
    rcases hv.ofSlice with ⟨L, _, hL, rfl⟩ | ⟨L, c, _, hL, _, _, rfl⟩ | ⟨a', h0, _, _⟩
    · rw [hL] at hL'; injection hL' with hL'; subst hL'; exact fin _
    · rw [hL] at hL'; injection hL' with hL'; subst hL'; exact fin _
    · omega

theorem piece_zero {cs l : List Value} {n : Nat} (h : piece cs 0 n = some l) : l = cs.take n ∧ l.length = n := by
  have := piece_some h
  rwa [List.drop_zero] at this
/-- The first cells of what is cold. -/
theorem readF_ok {P : Program} {size : Nat} {x v' : Value} {f : Nat → Nat} {m : Nat} {l : List Value} (h : readF size x f s = some ((m, l), s')) (hv : VRel μ x v') (hs : SRel base μ s.rows.get w) :
    s' = s ∧ ∃ (n : Nat) (cs : List Value) (a : Addr) (cap : Nat), x = .func (.yield 0) ⟨cs⟩ #[.int .i64 (.ofNat n)] ∧ v' = .slice (some a) n cap ∧ m = f n ∧ m ≤ n ∧
      ∃ l', VRels μ l l' ∧ l'.length = m * size ∧ (∀ w2 : World, (∀ b : Nat, w2.heap[b]? = w.heap[b]?) → (Builtin.firstCells size m v').run P w2 = .ok ⟨l'⟩ w2) := by
  unfold readF at h
  simp only [lift_bind, guard_bind, pure_some, Prod.mk.injEq] at h
  obtain ⟨⟨k, n, cs⟩, hx, hk, hle, l1, hp, ⟨rfl, rfl⟩, rfl⟩ := h
  rw [asFz_some] at hx
  subst hx
  have hk' := Nat.eq_of_beq_eq_true hk
  simp only at hk' hle hp hv
  subst hk'
  obtain ⟨a, cap, l', rfl, hsp, hc, hl, hm⟩ := hv.ofArr
  obtain ⟨rfl, hlen⟩ := piece_zero hp
  have hle' := Nat.le_of_ble_eq_true hle
  refine ⟨rfl, n, cs, a, cap, rfl, rfl, rfl, hle', l'.take (f n * size), (hl.take _).rel, by rw [← hlen]; simp [hl.length], fun w2 hw2 => ?_⟩
  have hlen' : (l'.take (f n * size)).length = f n * size := by rw [← hlen]; simp [hl.length]
  show (loadCells a (f n * size)).run P w2 = _
  by_cases h0 : f n = 0
  · rw [h0]
    have := run_loadCells_list (P := P) w2 a [] (by simp)
    simpa using this
  · have hspot : a.spot = none := hsp.elim (fun e => absurd (by omega) h0) id
    obtain ⟨b, o, sp⟩ := a
    simp only at hspot hm
    subst hspot
    have := run_loadCells_list (P := P) w2 ⟨b, o, none⟩ (l'.take (f n * size)) (fun j v hv => by
      rw [addr_add, cell?_block (hw2 _)]
      refine objAt_cell hs (hm j v ?_)
      rw [List.getElem?_take] at hv
      split at hv
      · exact hv
      · cases hv)
    rw [hlen'] at this
    exact this
end

theorem bytesOf_plain : ∀ l : List UInt8, plains (l.map fun b => .int .u8 b.toNat) = true
  | [] => rfl
  | _ :: l => plains_cons.2 ⟨rfl, bytesOf_plain l⟩

theorem SRel.same {base : Nat} {μ : Mu} {R : Nat → Option Row} {w w' : World} (h : SRel base μ R w) (hw : ∀ b : Nat, w'.heap[b]? = w.heap[b]?) (hz : w'.heap.size = w.heap.size) : SRel base μ R w' where
  ge := by rw [hz]; exact h.ge
  dom := fun r x L hx e => by rw [hz]; exact h.dom r x L hx e
  row := fun r x e => by obtain ⟨L, hL, hr⟩ := h.row r x e; exact ⟨L, hL, hr.move (Mu.le_refl μ) (hw _)⟩
  apart := h.apart
  cold := fun b o e => by rw [hw]; exact h.cold b o e
  hot := h.hot
  old := h.old

/-- A row that lies in a block of one that goes. -/
theorem SRel.moved {base : Nat} {μ : Mu} {R R' : Nat → Option Row} {w w' : World} (h : SRel base μ R w) (r : Nat) (x : Row) (L : Place) (hr : R r = some x) (hf : x.free = true) (hL : μ r = some L)
    (hs : w'.heap.size = w.heap.size) (hb : ∀ b, b ≠ L.b → w'.heap[b]? = w.heap[b]?) (n : Nat) (hn : μ n = none) (y : Row) (K : Place) (hK : K.b = L.b) (hy : RowOk base (μ.with n K) w' K y)
    (hR : ∀ q, R' q = if q = n then some y else if q = r then none else R q) : SRel base (μ.with n K) R' w' where
  ge := by rw [hs]; exact h.ge
  dom := fun q z J hz e => by
    rw [hs]
    rw [hR] at hz
    rw [Mu.with_eq] at e
    by_cases hq : q = n
    · rw [if_pos hq] at e; injection e with e; subst e; rw [hK]; exact h.dom r x L hr hL
    · rw [if_neg hq] at e hz
      by_cases hqr : q = r
      · rw [if_pos hqr] at hz; cases hz
      · rw [if_neg hqr] at hz; exact h.dom q z J hz e
  row := fun q z e => by
    rw [hR] at e
    by_cases hq : q = n
    · subst hq; rw [if_pos rfl] at e; injection e with e; subst e; exact ⟨K, Mu.with_at _ _ _, hy⟩
    · rw [if_neg hq] at e
      by_cases hqr : q = r
      · rw [if_pos hqr] at e; cases e
      · rw [if_neg hqr] at e
        obtain ⟨J, hJ, hk⟩ := h.row q z e
        exact ⟨J, by rw [Mu.with_eq]; rw [if_neg hq]; exact hJ, hk.move (Mu.le_with hn K) (hb _ fun e' => h.apart r q x z L J (fun e => hqr e.symm) hr e hL hJ hf e'.symm)⟩
  apart := fun p q a b K1 K2 hne ha hb' e1 e2 hfa => by
    rw [hR] at ha hb'
    rw [Mu.with_eq] at e1 e2
    by_cases hp : p = n
    · have hq : q ≠ n := fun e => hne (hp.trans e.symm)
      rw [if_pos hp] at e1; injection e1 with e1; subst e1
      rw [if_neg hq] at e2 hb'
      by_cases hqr : q = r
      · rw [if_pos hqr] at hb'; cases hb'
      · rw [if_neg hqr] at hb'
        rw [hK]
        exact h.apart r q x b L K2 (fun e => hqr e.symm) hr hb' hL e2 hf
    · rw [if_neg hp] at ha e1
      by_cases hpr : p = r
      · rw [if_pos hpr] at ha; cases ha
      · rw [if_neg hpr] at ha
        by_cases hq : q = n
        · rw [if_pos hq] at e2; injection e2 with e2; subst e2
          rw [hK]
          exact fun e => h.apart r p x a L K1 (fun e => hpr e.symm) hr ha hL e1 hf e.symm
        · rw [if_neg hq] at hb' e2
          by_cases hqr : q = r
          · rw [if_pos hqr] at hb'; cases hb'
          · rw [if_neg hqr] at hb'
            exact h.apart p q a b K1 K2 hne ha hb' e1 e2 hfa
  cold := fun b o e => by
    rw [hb b (fun e' => by subst e'; have e2 : μ.fz L.b = some o := e; rw [h.hot r x L hr hf hL] at e2; cases e2)]
    exact h.cold b o e
  hot := fun q a J ha hfa e => by
    rw [hR] at ha
    rw [Mu.with_eq] at e
    show μ.fz J.b = none
    by_cases hq : q = n
    · rw [if_pos hq] at e; injection e with e; subst e; rw [hK]; exact h.hot r x L hr hf hL
    · rw [if_neg hq] at e ha
      by_cases hqr : q = r
      · rw [if_pos hqr] at ha; cases ha
      · rw [if_neg hqr] at ha; exact h.hot q a J ha hfa e
  old := fun q a J ha e => by
    rw [hR] at ha
    rw [Mu.with_eq] at e
    by_cases hq : q = n
    · rw [if_pos hq] at e; injection e with e; subst e; rw [hK]; exact h.old r x L hr hL
    · rw [if_neg hq] at e ha
      by_cases hqr : q = r
      · rw [if_pos hqr] at ha; cases ha
      · rw [if_neg hqr] at ha; exact h.old q a J ha e

theorem zeroCells_eq {z : List Value} (hz : 0 < z.length) (n : Nat) : Builtin.zeroCells ⟨z⟩ n = ⟨repeats z n⟩ := by
  unfold Builtin.zeroCells
  simpa using range_map_zero z hz n

theorem growBy_le (need : Nat) : ∀ (k c : Nat), c ≤ 2 * need + 192 → Builtin.growBy need k c ≤ 2 * need + 192
  | 0, c, h => h
  | k + 1, c, h => by
    unfold Builtin.growBy
    split
    · exact h
    · exact growBy_le need k _ (by omega)
theorem nextcap_le (need cap : Nat) (h : cap < need) : Builtin.nextslicecap need cap ≤ 2 * need + 192 := by
  unfold Builtin.nextslicecap
  split
  · omega
  · split
    · omega
    · exact growBy_le _ _ _ (by omega)

end Go.Cm
namespace Go.Cm
open Go Go.RowKit

/-- What append does once it knows how many. -/
def appendTail (zeros : Bool) (e : TypeId) (size sLen sCap n : Nat) (base : Option Addr) (x : Value) : Sem Value := do
  let appended : Sem (Array Value) :=
    if !zeros then Builtin.firstCells size n x
    else if n * size = 0 then pure #[]
    else do pure (Builtin.zeroCells (← zeroValue e).cells n)
  let need := sLen + n
  if need ≤ sCap then
    let new ← appended
    if let some a := base then storeCells (a.add (sLen * size)) new.toList
    pure (.slice base need sCap)
  else
    if (need : Int) > IntKind.i64.max ∧ (zeros ∨ (← typeInfo e).bytes = 0) then runtimePanic (.error "growslice: len out of range")
    if Builtin.nextslicecap need sCap * (← typeInfo e).bytes > 2 ^ 48 then (if zeros then runtimePanic (.error "growslice: len out of range") else do
      if !(← Builtin.mayShare size sLen n base x) then mark .noRoom
      unsupported (.resourceLimit "append: a slice or a string whose bytes no memory bears"))
    let newCap ← choose (.appendCap need sCap e)
    askRoom (newCap * (← typeInfo e).bytes)
    let old ← Builtin.firstCells size sLen (.slice base sLen sCap)
    let new ← appended
    let rest := Builtin.zeroCells (← zeroValue e).cells (newCap - need)
    pure (.slice (some (← newRow e (old ++ new ++ rest))) need newCap)

section
variable {E : Env} (ok : E.Ok) {base : Nat} {μ : Mu} {w : World} {s s' : St}
include ok

theorem append_plain {sT xT : TypeId} {e : TypeId} {d : TypeDesc} {argTypes : Array TypeId} {args : Array Value} {ty : TypeId} {b : Option Addr} {n c m : Nat} {x' : Value} {inf : TypeInfo} (ht0 : argTypes[0]? = some sT) (ht1 : argTypes[1]? = some xT) (ha0 : args[0]? = some (.slice b n c)) (ha1 : args[1]? = some x')
  (hd : E.und sT = some (.slice e)) (hx : E.und xT = some d) (hi : E.info e = some inf) (hz : isInt d = false) (hlen : (Builtin.lenOf x').run E.P w = .ok m w) :
    (Builtin.append_ argTypes ty args).run E.P w = (appendTail false e inf.size n c m b x').run E.P w := by
  unfold Builtin.append_ appendTail
  cases d <;> first
    | (cases hz; done)
    | (simp only [ht0, ht1, ha0, ha1, Sem.run_bind, ok.run_und w hd, ok.run_und w hx, Result.andThen_ok, ok.run_size w hi, Sem.run_pure, Bool.false_eq_true, if_false, hlen]; rfl)

theorem append_zeros {sT xT : TypeId} {e : TypeId} {d : TypeDesc} {argTypes : Array TypeId} {args : Array Value} {ty : TypeId} {b : Option Addr} {n c m : Nat} {k : IntKind} {inf : TypeInfo} (ht0 : argTypes[0]? = some sT) (ht1 : argTypes[1]? = some xT) (ha0 : args[0]? = some (.slice b n c)) (ha1 : args[1]? = some (.int k (.ofNat m)))
  (hd : E.und sT = some (.slice e)) (hx : E.und xT = some d) (hi : E.info e = some inf) (hz : isInt d = true) (hm1 : m ≤ 1000000000) (hm2 : m * inf.bytes ≤ 1000000000000) :
    (Builtin.append_ argTypes ty args).run E.P w = (appendTail true e inf.size n c m b (.int k (.ofNat m))).run E.P w := by
  unfold Builtin.append_ appendTail
  have hd' : ∃ k, d = .int k := by cases d <;> first | exact ⟨_, rfl⟩ | cases hz
  obtain ⟨kk, rfl⟩ := hd'
  have hw : IntKind.i64.wrap (Int.ofNat m) = (m : Int) := wrap_small m hm1
  have hb2 : ¬ ((m : Int) * (inf.bytes : Int) > 2 ^ 48) := by
    have : ((m * inf.bytes : Nat) : Int) ≤ ((1000000000000 : Nat) : Int) := Int.ofNat_le.2 hm2
    rw [Int.natCast_mul] at this
    omega
  have hneg : ¬ ((m : Int) < 0) := by omega
  simp only [ht0, ht1, ha0, ha1, ok.run_und w hd, ok.run_und w hx, ok.run_size w hi, if_true, Sem.run_bind, asInt, asIntOf, Sem.run_pure, Result.andThen_ok, hw, hneg, if_false, ok.run_info w hi, hb2, Int.toNat_natCast]
  rfl

/-- What is appended, as the model has it. -/
def appendedS (zeros : Bool) (e : TypeId) (size n : Nat) (x : Value) : Sem (Array Value) :=
  if !zeros then Builtin.firstCells size n x
  else if n * size = 0 then pure #[]
  else do pure (Builtin.zeroCells (← zeroValue e).cells n)

omit ok in
theorem tail_in {zeros : Bool} {e : TypeId} {size n c m : Nat} {b : Option Addr} {x' : Value} {l' : List Value} {w' : World} (hle : n + m ≤ c) (happ : (appendedS zeros e size m x').run E.P w = .ok ⟨l'⟩ w)
    (hst : match b with | some a => (storeCells (a.add (n * size)) l').run E.P w = .ok () w' | none => w' = w) :
    (appendTail zeros e size n c m b x').run E.P w = .ok (.slice b (n + m) c) w' := by
  unfold appendTail
  simp only [if_pos hle]
  rw [Sem.run_bind]
  show ((appendedS zeros e size m x').run E.P w).andThen _ = _
  rw [happ, Result.andThen_ok]
  cases b with
  | none => simp only at hst; rw [hst]; rfl
  | some a =>
    simp only at hst ⊢
    rw [Sem.run_bind, hst, Result.andThen_ok]; rfl

theorem tail_new {zeros : Bool} {e : TypeId} {inf : TypeInfo} {z : Value} {i : Elem} {n c m : Nat} {b : Option Addr} {x' : Value} {l' o' : List Value} (he : ElemOk E e i inf z) (hgt : c < n + m) (hreach : inReach (n + m) i.bytes = true)
    (happ : ∀ w2 : World, (∀ b : Nat, w2.heap[b]? = w.heap[b]?) → (appendedS zeros e inf.size m x').run E.P w2 = .ok ⟨l'⟩ w2)
    (hold : ∀ w2 : World, (∀ b : Nat, w2.heap[b]? = w.heap[b]?) → (Builtin.firstCells inf.size n (.slice b n c)).run E.P w2 = .ok ⟨o'⟩ w2) :
    ∃ cap k : Nat, n + m ≤ cap ∧ k + (n + m) = cap ∧ (appendTail zeros e inf.size n c m b x').run E.P w = .ok (.slice (some ⟨w.heap.size, 0, none⟩) (n + m) cap) (w.drew.alloc (.cells ⟨o' ++ l' ++ repeats i.zero k⟩ e)) := by
  obtain ⟨h1, h2⟩ := reach_some hreach
  let cap := (Question.appendCap (n + m) c e).cut (w.tape w.drawn (.appendCap (n + m) c e))
  have hcap : n + m ≤ cap := by show n + m ≤ (n + m) + _; omega
  refine ⟨cap, cap - (n + m), hcap, by omega, ?_⟩
  unfold appendTail
  have hnc := nextcap_le (n + m) c hgt
  have hbig : ¬ (Builtin.nextslicecap (n + m) c * inf.bytes > 2 ^ 48) := by
    rw [he.bytes]
    have a1 : Builtin.nextslicecap (n + m) c * i.bytes ≤ (2 * (n + m) + 192) * i.bytes := Nat.mul_le_mul_right _ hnc
    have a2 : (2 * (n + m) + 192) * i.bytes ≤ (2 * (n + m) + 192 * (n + m)) * i.bytes := Nat.mul_le_mul_right _ (by omega)
    have a3 : (2 * (n + m) + 192 * (n + m)) * i.bytes = 194 * ((n + m) * i.bytes) := by rw [← Nat.add_mul, Nat.mul_assoc]
    omega
  have hmax : ¬ (((n + m : Nat) : Int) > IntKind.i64.max) := by
    rw [IntKind.max_i64]; omega
  have hz : z.cells = ⟨i.zero⟩ := by apply Array.ext'; exact he.cells.symm
  have hq : (Question.appendCap (n + m) c e).forced = false := rfl
  have hdrew : ∀ b : Nat, w.drew.heap[b]? = w.heap[b]? := fun _ => rfl
  have happ' := happ w.drew hdrew
  unfold appendedS at happ'
  simp only [if_neg (show ¬ (n + m ≤ c) by omega), Sem.run_bind, ok.run_info w he.info, Result.andThen_ok, hmax, false_and, if_false, hbig, run_choose, hq, Bool.false_eq_true, World.drew_eq, ok.run_info w.drew he.info, run_askRoom, hold w.drew hdrew]
  rw [happ']
  simp only [Result.andThen_ok, (ok.run_zero w.drew he.zero).1, hz, zeroCells_eq (show 0 < i.zero.length by have := he.len; have := he.pos; omega)]
  unfold newRow
  simp only [Sem.run_bind, run_newObj, Result.andThen_ok, Sem.run_pure, World.alloc_eq]
  have happend : (⟨o'⟩ : Array Value) ++ ⟨l'⟩ ++ ⟨repeats i.zero (cap - (n + m))⟩ = ⟨o' ++ l' ++ repeats i.zero (cap - (n + m))⟩ := by apply Array.ext'; simp
  show Result.ok (Value.slice (some ⟨w.heap.size, 0, none⟩) (n + m) cap) (w.drew.alloc (.cells ((⟨o'⟩ : Array Value) ++ ⟨l'⟩ ++ ⟨repeats i.zero (cap - (n + m))⟩) e)) = _
  rw [happend]
end

/-- What is appended, as the machine has it. -/
theorem newCells_ok {E : Env} (ok : E.Ok) {base : Nat} {μ : Mu} {w : World} {s s' : St} {e : TypeId} {i : Elem} {inf : TypeInfo} {z : Value} (he : ElemOk E e i inf z) {zeros : Bool} {x x' : Value} {n : Nat} {l : List Value}
    (h : newCells E i zeros x s = some ((n, l), s')) (hx : VRel μ x x') (hs : SRel base μ s.rows.get w) (hsy : μ.sy = E.sy) :
    s'.rows = s.rows ∧ s'.next = s.next ∧ l.length = n * i.size ∧ (∃ l', VRels μ l l' ∧ ∀ w2 : World, (∀ b : Nat, w2.heap[b]? = w.heap[b]?) → (appendedS zeros e inf.size n x').run E.P w2 = .ok ⟨l'⟩ w2) ∧
      (zeros = false → (Builtin.lenOf x').run E.P w = .ok n w) ∧ (zeros = true → ∃ k, x' = .int k (.ofNat n) ∧ n ≤ 1000000000 ∧ n * inf.bytes ≤ 1000000000000) := by
  unfold newCells at h
  have hpos := he.pos
  have hlen := he.len
  cases zeros with
  | true =>
    simp only [cond_true, lift_bind, guard_bind, pure_some, Prod.mk.injEq, idx_some] at h
    obtain ⟨m, ⟨k, rfl⟩, hr, ⟨rfl, rfl⟩, rfl⟩ := h
    obtain ⟨h1, h2⟩ := reach_some hr
    refine ⟨rfl, rfl, by rw [repeats_length, hlen], ⟨repeats i.zero n, VRels.plain (repeats_plain he.plain n), fun w2 _ => ?_⟩, (fun h => by cases h), fun _ => ⟨k, hx.ofInt, h1, by rw [he.bytes]; exact h2⟩⟩
    unfold appendedS
    have hz : z.cells = ⟨i.zero⟩ := by apply Array.ext'; exact he.cells.symm
    simp only [Bool.not_true, Bool.false_eq_true, if_false]
    by_cases hn : n = 0
    · subst hn; rw [if_pos (by simp)]; rfl
    · rw [if_neg (Nat.mul_ne_zero hn (by rw [he.size]; omega))]
      simp only [Sem.run_bind, (ok.run_zero w2 he.zero).1, Result.andThen_ok, Sem.run_pure, hz, zeroCells_eq (show 0 < i.zero.length by omega)]
  | false =>
    simp only [cond_false] at h
    cases x with
    | slice a m c =>
      simp only at h
      rw [bind_some] at h
      obtain ⟨l1, s1, h1, h2⟩ := h
      rw [pure_some] at h2
      simp only [Prod.mk.injEq] at h2
      obtain ⟨⟨rfl, rfl⟩, rfl⟩ := h2
      obtain ⟨l', hr, hl, hrun, e1, e2⟩ := read_ok (P := E.P) h1 hx (Nat.le_refl _) hs
      refine ⟨e1, e2, by rw [← hr.length]; exact hl, ⟨l', hr, fun w2 hw => ?_⟩, fun _ => ?_, fun h => by cases h⟩
      · unfold appendedS; rw [he.size]; exact hrun w2 hw
      · cases a with
        | none => rw [hx.ofNilSlice]; rfl
        | some a => rcases hx.ofSlice with ⟨L, _, _, rfl⟩ | ⟨L, c, _, _, _, _, rfl⟩ | ⟨a', rfl, _, rfl⟩ <;> rfl
    | string t =>
      simp only [guard_bind, pure_some, Prod.mk.injEq] at h
      obtain ⟨hb, ⟨rfl, rfl⟩, rfl⟩ := h
      have h1 := Nat.eq_of_beq_eq_true hb
      have hx' := hx.ofString
      subst hx'
      refine ⟨rfl, rfl, by rw [h1]; simp [bytesOf], ⟨bytesOf t, VRels.plain (bytesOf_plain _), fun w2 _ => ?_⟩, fun _ => rfl, fun h => by cases h⟩
      unfold appendedS Builtin.firstCells
      simp only [Bool.not_false, if_true, Sem.run_pure]
      congr 1
      apply Array.ext'
      simp [bytesOf, ByteArray.extract_zero_size]
    | chan c =>
      cases c with
      | none =>
        have h' : readF i.size (.chan none) (fun n => n) s = some ((n, l), s') := h
        obtain ⟨rfl, k, cs, a, cap, hx1, rfl, rfl, _, l', hr, hl, hrun⟩ := readF_ok (P := E.P) h' hx hs
        refine ⟨rfl, rfl, by rw [← hr.length]; exact hl, ⟨l', hr, fun w2 hw => ?_⟩, fun _ => rfl, fun h => by cases h⟩
        unfold appendedS; rw [he.size]; exact hrun w2 hw
      | some c =>
        simp only [guard_bind, lift_bind, pure_some, Prod.mk.injEq] at h
        obtain ⟨hb, l1, hl1, ⟨rfl, rfl⟩, rfl⟩ := h
        rw [Bool.and_eq_true] at hb
        have h1 := Nat.eq_of_beq_eq_true hb.1
        have htv : TokV E.sy (.chan (some c)) x' := hsy ▸ TokV.of hx (by unfold tokish; rw [hb.2]; rfl)
        obtain ⟨t, rfl, hlen1, hat⟩ := ok.askY _ _ _ hl1 htv
        have hlb : (bytesOf t).length = t.size := by simp [bytesOf]
        refine ⟨rfl, rfl, by rw [h1, Nat.mul_one], ⟨bytesOf t, VRels.of_get _ _ (by rw [hlb, hlen1]) fun j v hv => ?_, fun w2 _ => ?_⟩, fun _ => ?_, fun h => by cases h⟩
        · obtain ⟨b, hb1, hb2⟩ := hat j v hv
          refine ⟨.int .u8 b.toNat, ?_, (hsy ▸ hb2 : TokV μ.sy v _).rel⟩
          unfold bytesOf
          rw [List.getElem?_map, hb1]; rfl
        · unfold appendedS Builtin.firstCells
          simp only [Bool.not_false, if_true, Sem.run_pure]
          congr 1
          apply Array.ext'
          rw [hlen1]
          simp [bytesOf, ByteArray.extract_zero_size]
        · rw [hlen1]; rfl
    | _ =>
      have h' : readF i.size _ (fun n => n) s = some ((n, l), s') := h
      obtain ⟨rfl, k, cs, a, cap, hx1, rfl, rfl, _, l', hr, hl, hrun⟩ := readF_ok (P := E.P) h' hx hs
      refine ⟨rfl, rfl, by rw [← hr.length]; exact hl, ⟨l', hr, fun w2 hw => ?_⟩, fun _ => rfl, fun h => by cases h⟩
      unfold appendedS; rw [he.size]; exact hrun w2 hw

theorem reach_size {E : Env} {e : TypeId} {i : Elem} {inf : TypeInfo} {z : Value} (_ : ElemOk E e i inf z) : True := trivial

end Go.Cm
