/-
  More operations on memory: new slices, readers, lengths.
-/
import Derived.Test.YtfofdglgacfklaaGreatDoorCmF
namespace Go.Cm
open Go Go.RowKit

theorem plain_cells {z : Value} (h : plain z = true) : plains z.cells.toList = true := by
  cases z <;> first
    | exact plain_agg h
    | exact plains_cons.2 ⟨h, rfl⟩

structure ElemOk (E : Env) (e : TypeId) (i : Elem) (inf : TypeInfo) (z : Value) : Prop where
  info : E.info e = some inf
  zero : zeroA E e = some z
  size : inf.size = i.size
  bytes : inf.bytes = i.bytes
  cells : i.zero = z.cells.toList
  len : i.zero.length = i.size
  pos : 0 < i.size
  small : i.size < tagT
  es : i.es = codeE i.size (e + 1)
  plain : plains i.zero = true

theorem zero_plain {E : Env} {e : TypeId} {z : Value} (h : zeroA E e = some z) : plain z = true := by
  unfold zeroA at h
  simp only [Option.bind_eq_some_iff, Option.map_eq_some_iff] at h
  obtain ⟨_, _, y, _, _, hg, rfl⟩ := h
  exact guardO_some.1 hg

theorem elem_some {E : Env} {e : TypeId} {i : Elem} (h : elemA E e = some i) : ∃ inf z, ElemOk E e i inf z := by
  unfold elemA at h
  simp only [Option.bind_eq_some_iff, Option.map_eq_some_iff] at h
  obtain ⟨inf, hi, z, hz, _, hg, rfl⟩ := h
  rw [guardO_some, Bool.and_eq_true, Bool.and_eq_true] at hg
  have h1 := Nat.eq_of_beq_eq_true hg.1.1
  have h2 : 0 < inf.size := Nat.le_of_ble_eq_true hg.1.2
  have h3 : inf.size < tagT := Nat.le_of_ble_eq_true hg.2
  exact ⟨inf, z, hi, hz, rfl, rfl, rfl, by simpa using h1, h2, h3, rfl, plain_cells (zero_plain hz)⟩

theorem repeats_length (z : List Value) : ∀ n, (repeats z n).length = n * z.length
  | 0 => by simp [repeats]
  | n + 1 => by simp only [repeats, List.length_append, repeats_length z n]; rw [Nat.succ_mul]; omega
theorem repeats_get (z : List Value) (hz : 0 < z.length) : ∀ (n i : Nat), i < n * z.length → (repeats z n)[i]? = z[i % z.length]?
  | 0, i, h => by simp at h
  | n + 1, i, h => by
    rw [repeats]
    rcases Nat.lt_or_ge i z.length with hi | hi
    · rw [List.getElem?_append_left hi, Nat.mod_eq_of_lt hi]
    · rw [List.getElem?_append_right hi, repeats_get z hz n _ (by rw [Nat.succ_mul] at h; omega)]
      rw [Nat.mod_eq_sub_mod hi]
theorem repeats_plain {z : List Value} (h : plains z = true) : ∀ n, plains (repeats z n) = true
  | 0 => rfl
  | n + 1 => by
    have ih := repeats_plain h n
    rw [repeats]
    have app : ∀ a b : List Value, plains a = true → plains b = true → plains (a ++ b) = true := by
      intro a
      induction a with
      | nil => intro b _ h; exact h
      | cons x a ih => intro b ha hb; have := plains_cons.1 ha; exact plains_cons.2 ⟨this.1, ih b this.2 hb⟩
    exact app _ _ h ih
theorem range_map_zero (z : List Value) (hz : 0 < z.length) (n : Nat) :
    (Array.range (n * z.length)).map (fun i => (⟨z⟩ : Array Value)[i % z.length]!) = ⟨repeats z n⟩ := by
  apply Array.ext'
  apply List.ext_getElem?
  intro i
  simp only [Array.toList_map, Array.toList_range, List.getElem?_map]
  rcases Nat.lt_or_ge i (n * z.length) with h | h
  · rw [List.getElem?_range h]
    rw [repeats_get z hz n i h]
    have hm : i % z.length < z.length := Nat.mod_lt _ hz
    simp only [Option.map_some]
    rw [List.getElem?_eq_getElem hm]
    congr 1
    rw [getElem!_pos (⟨z⟩ : Array Value) (i % z.length) (by simpa using hm)]
    rfl
  · rw [List.getElem?_eq_none (by simpa using h), List.getElem?_eq_none (by rw [repeats_length]; exact h)]; rfl

/-- Parts, place by place. -/
inductive PRels (μ : Mu) : List (Nat × Value) → List (Nat × Value) → Prop
  | nil : PRels μ [] []
  | cons (i : Nat) (v v' : Value) (l l' : List (Nat × Value)) (h : VRel μ v v') (hl : PRels μ l l') : PRels μ ((i, v) :: l) ((i, v') :: l')

theorem fold_set (off : Nat) : ∀ (vs : List Value) (k : Nat) (cs : Array Value),
    ((vs.zipIdx k).foldl (fun (cs : Array Value) (p : Value × Nat) => cs.setIfInBounds (off + p.2) p.1) cs).size = cs.size ∧
    ∀ i : Nat, ((vs.zipIdx k).foldl (fun (cs : Array Value) (p : Value × Nat) => cs.setIfInBounds (off + p.2) p.1) cs)[i]? =
      if off + k ≤ i ∧ i < off + k + vs.length ∧ i < cs.size then vs[i - (off + k)]? else cs[i]?
  | [], k, cs => ⟨rfl, fun i => by rw [if_neg]; rfl; simp; omega⟩
  | v :: vs, k, cs => by
    obtain ⟨h1, h2⟩ := fold_set off vs (k + 1) (cs.setIfInBounds (off + k) v)
    refine ⟨by simpa using h1, fun i => ?_⟩
    simp only [List.zipIdx_cons, List.foldl_cons]
    rw [h2 i]
    simp only [Array.size_setIfInBounds, List.length_cons]
    by_cases c : off + (k + 1) ≤ i ∧ i < off + (k + 1) + vs.length ∧ i < cs.size
    · rw [if_pos c, if_pos (by omega), show i - (off + k) = (i - (off + (k + 1))) + 1 by omega]; rfl
    · rw [if_neg c]
      by_cases e : i = off + k
      · subst e
        by_cases hs : off + k < cs.size
        · rw [if_pos (by omega)]
          simp [hs]
        · rw [if_neg (by omega)]
          rw [Array.getElem?_eq_none (by simp; omega), Array.getElem?_eq_none (by omega)]
      · rw [if_neg (by omega)]
        simp [Ne.symm e]

theorem does_fill {μ : Mu} (place : Nat → Option (Nat × Nat)) (ps ps' : List (Nat × Value)) (cs cs' l : List Value) (h : fillA place cs ps = some cs') (hp : PRels μ ps ps') (hv : VRels μ cs l) :
    ∃ l', Instr.fill place ⟨l⟩ ps' = some ⟨l'⟩ ∧ VRels μ cs' l' := by
  induction hp generalizing cs l with
  | nil =>
    simp only [fillA, Option.some.injEq] at h; subst h
    exact ⟨l, rfl, hv⟩
  | cons i v v' ps ps' hvv hps ih =>
    simp only [fillA, Option.bind_eq_some_iff, guardO_some] at h
    obtain ⟨⟨off, size⟩, hp, _, hg, cs2, hsp, hrest⟩ := h
    have hj : isJunk v = false := by cases hj : isJunk v <;> simp [hj] at hg ⊢
    rw [hj, cond_false, Bool.and_eq_true] at hg
    obtain ⟨hg1, hg2⟩ := hg
    have hsz := Nat.eq_of_beq_eq_true hg1
    have hle := Nat.le_of_ble_eq_true hg2
    obtain ⟨hlen, hin, hget⟩ := splice_spec cs off v.cells.toList cs2 hsp
    have hl := hv.length
    have hc := hvv.cells hj
    have hcl := hc.length
    simp only [Array.length_toList] at hcl
    simp only at hsz hle
    let a2 : Array Value := v'.cells.zipIdx.foldl (fun (cs : Array Value) (p : Value × Nat) => cs.setIfInBounds (off + p.2) p.1) ⟨l⟩
    have ha2 : a2.size = l.length ∧ ∀ i : Nat, a2[i]? = if off ≤ i ∧ i < off + v'.cells.size ∧ i < l.length then v'.cells[i - off]? else l[i]? := by
      have := fold_set off v'.cells.toList 0 ⟨l⟩
      have e : a2 = (v'.cells.toList.zipIdx 0).foldl (fun (cs : Array Value) (p : Value × Nat) => cs.setIfInBounds (off + p.2) p.1) ⟨l⟩ := by
        show v'.cells.zipIdx.foldl _ _ = _
        rw [← Array.foldl_toList]
        simp
      rw [e]
      refine ⟨this.1, fun i => ?_⟩
      have h2 := this.2 i
      simp only [Nat.add_zero, Array.length_toList, Array.getElem?_toList] at h2
      rw [h2]; simp only [List.size_toArray, List.getElem?_toArray]
    have hv2 : VRels μ cs2 a2.toList := by
      refine VRels.of_get _ _ (by simp [ha2.1, hl, hlen]) fun j x hx => ?_
      rw [hget] at hx
      rw [Array.getElem?_toList, ha2.2]
      simp only [Array.length_toList] at hx
      by_cases c : off ≤ j ∧ j < off + v.cells.size
      · rw [if_pos c] at hx
        rw [if_pos (by omega)]
        obtain ⟨u, hu, hr⟩ := hc.get _ x hx
        exact ⟨u, by rwa [Array.getElem?_toList] at hu, hr⟩
      · rw [if_neg c] at hx
        rw [if_neg (by omega)]
        exact hv.get _ x hx
    obtain ⟨l', hf, hr⟩ := ih cs2 a2.toList hrest hv2
    refine ⟨l', ?_, hr⟩
    unfold Instr.fill
    simp only [hp]
    rw [if_neg]
    · exact hf
    · simp only [Bool.or_eq_true, decide_eq_true_eq, not_or, ne_eq, Decidable.not_not]
      refine ⟨by omega, ?_⟩
      show ¬ (off + v'.cells.size > l.length)
      omega

section
variable {E : Env} (ok : E.Ok) {base : Nat} {μ : Mu} {w : World} {s s' : St}
include ok

theorem does_alloc {t : TypeId} {v : Value} (h : allocA E t s = some (v, s')) (hs : SRel base μ s.rows.get w) (hf : ∀ r, s.next ≤ r → r < s'.next → μ r = none) :
    Does E base μ w s s' (Instr.alloc t true (.tuple #[])) fun μ' b => VRel μ' v b := by
  unfold allocA at h
  rw [lift_bind] at h
  obtain ⟨z, hz, h⟩ := h
  obtain ⟨b, w', μ', hr, hv, h1, h2⟩ := does_newVar (E := E) (t := t) (u := z) (by unfold tagT; omega) (Or.inr rfl) h (VRels.plain (plain_cells (zero_plain hz))) hs hf
  refine ⟨b, w', μ', ?_, hv, h1, h2⟩
  unfold Instr.alloc
  simp only [Sem.run_bind, (ok.run_zero w hz).1, Result.andThen_ok]
  exact hr

omit ok in
theorem does_box {t : TypeId} {x x' v : Value} (hj : isJunk x = false) (h : newA 0 x.cells.toList s = some (v, s')) (hx : VRel μ x x') (hs : SRel base μ s.rows.get w) (hf : ∀ r, s.next ≤ r → r < s'.next → μ r = none) :
    Does E base μ w s s' (Instr.box t x') fun μ' b => VRel μ' v b := does_newVar (es := 0) (ty := 0) (by unfold tagT; omega) (Or.inl rfl) h (hx.cells hj) hs hf

theorem does_buildSlice {t : TypeId} {len : Nat} {ps : List (Nat × Value)} {ps' : Array (Nat × Value)} {v : Value} (h : buildSliceA E t len ps s = some (v, s')) (hp : PRels μ ps ps'.toList) (hs : SRel base μ s.rows.get w)
    (hf : ∀ r, s.next ≤ r → r < s'.next → μ r = none) : Does E base μ w s s' (Instr.buildSlice t len ps') fun μ' b => VRel μ' v b := by
  unfold buildSliceA at h
  simp only [lift_bind, guard_bind, fresh_bind, pure_some, Option.bind_eq_some_iff, sliceT_some] at h
  obtain ⟨e, ⟨d, hd, rfl⟩, i, hi, hle, cs, hfill, hb, e1, e2⟩ := h
  subst e1
  obtain ⟨inf, z, he⟩ := elem_some hi
  obtain ⟨l', hfl, hv⟩ := does_fill _ ps ps'.toList _ cs _ hfill hp (VRels.plain (repeats_plain he.plain len))
  rw [he.es] at e2
  obtain ⟨hs', hg⟩ := does_new (t := e) (c' := ⟨l'⟩) he.small (Or.inr rfl) hb e2 hv hs hf
  refine ⟨.slice (some ⟨w.heap.size, 0, none⟩) len len, _, _, ?_, ?_, hs', hg⟩
  · unfold Instr.buildSlice
    have hz : z.cells = ⟨i.zero⟩ := by apply Array.ext'; exact he.cells.symm
    have hle' := Nat.le_of_ble_eq_true hle
    have hzl := he.len
    have hpos := he.pos
    simp only [Sem.run_bind, ok.run_und w hd, Result.andThen_ok, ok.run_size w he.info, he.size]
    rw [if_neg (by omega)]
    have hcells : ∀ (zero : Array Value), (len = 0 → zero = #[]) → (len ≠ 0 → zero = ⟨i.zero⟩) →
        (Array.range (len * i.size)).map (fun k => zero[k % zero.size]!) = ⟨repeats i.zero len⟩ := by
      intro zero h0 h1
      by_cases hl : len = 0
      · subst hl; simp [repeats]
      · rw [h1 hl]
        have := range_map_zero i.zero (by omega) len
        rw [hzl] at this
        simpa [hzl] using this
    by_cases hl : len = 0
    · rw [if_pos (by rw [hl]; simp)]
      simp only [Sem.run_bind, Sem.run_pure, Result.andThen_ok, hcells #[] (fun _ => rfl) (fun h => absurd hl h), hfl]
      unfold newRow
      simp only [Sem.run_bind, run_newObj, Result.andThen_ok, Sem.run_pure, World.alloc_eq]
    · rw [if_neg (Nat.mul_ne_zero hl (by omega))]
      simp only [Sem.run_bind, Sem.run_pure, Result.andThen_ok, (ok.run_zero w he.zero).1, hz, hcells ⟨i.zero⟩ (fun h => absurd h hl) (fun _ => rfl), hfl]
      unfold newRow
      simp only [Sem.run_bind, run_newObj, Result.andThen_ok, Sem.run_pure, World.alloc_eq]
  · have := VRel.slice (μ := μ.with s.next ⟨w.heap.size, 0, l'.length, i.size, e + 1⟩) s.next 0 len len _ (Mu.with_at _ _ _)
    simpa using this
end
end Go.Cm
