/-
  Append, whole; copy; conversions; lengths. Copy; conversions; lengths; clear; readers of texts. Conversions, readers of texts; the operations that look at no memory.
-/
import Derived.Test.YtkcibhokjiciiaaMc
import Derived.Laws.BytesArg
import Derived.LaidEql
import Derived.Lib.Builder
import Derived.Lib.UnsafeStr
namespace Go.Cm
open Go Go.RowKit

/-- The same place, another length. -/
theorem VRel.relen {μ : Mu} {a : Option Addr} {n c m : Nat} {v' : Value} (h : VRel μ (.slice a n c) v') (hm : n + m ≤ c) :
    ∃ a' c', v' = .slice a' n c' ∧ c ≤ c' ∧ (a = none → a' = none) ∧ VRel μ (.slice a (n + m) c) (.slice a' (n + m) c') := by
  cases a with
  | none => exact ⟨none, c, h.ofNilSlice, Nat.le_refl _, fun _ => rfl, .plain _ rfl⟩
  | some a =>
    obtain ⟨r, off, sp⟩ := a
    rcases h.ofSlice with ⟨L, hsp, hL, rfl⟩ | ⟨L, c', hsp, hL, hc, hx, rfl⟩ | ⟨a', rfl, rfl, rfl⟩
    · simp only at hsp; subst hsp
      exact ⟨_, c, rfl, Nat.le_refl _, (fun h => by cases h), .slice r off _ _ L hL⟩
    · simp only at hsp; subst hsp
      exact ⟨_, c', rfl, hc, (fun h => by cases h), .grown r off _ _ _ L hL hc hx⟩
    · have : m = 0 := by omega
      subst this
      exact ⟨_, 0, rfl, Nat.le_refl _, (fun h => by cases h), .over _ _⟩

theorem rows_put (t : D Row) (n : Nat) (x : Option Row) (hb : Nat.ble n 1000000000 = true) : (D.put x deep t n).get = fun q => if q = n then x else t.get q :=
  funext fun q => D.got x t n q hb

section
variable {E : Env} (ok : E.Ok) {base : Nat} {μ : Mu} {w : World} {s s' : St}
include ok

theorem append_run {sT xT e : TypeId} {d : TypeDesc} {argTypes : Array TypeId} {args : Array Value} {ty : TypeId} {b : Option Addr} {n c m : Nat} {x' : Value} {inf : TypeInfo} (ht0 : argTypes[0]? = some sT) (ht1 : argTypes[1]? = some xT) (ha0 : args[0]? = some (.slice b n c)) (ha1 : args[1]? = some x')
    (hd : E.und sT = some (.slice e)) (hx : E.und xT = some d) (hi : E.info e = some inf) (h1 : isInt d = false → (Builtin.lenOf x').run E.P w = .ok m w) (h2 : isInt d = true → ∃ k, x' = .int k (.ofNat m) ∧ m ≤ 1000000000 ∧ m * inf.bytes ≤ 1000000000000) :
    (Builtin.append_ argTypes ty args).run E.P w = (appendTail (isInt d) e inf.size n c m b x').run E.P w := by
  cases hz : isInt d with
  | false => exact append_plain ok ht0 ht1 ha0 ha1 hd hx hi hz (h1 hz)
  | true =>
    obtain ⟨k, rfl, a, b⟩ := h2 hz
    exact append_zeros ok ht0 ht1 ha0 ha1 hd hx hi hz a b

theorem does_append {sT xT : TypeId} {sv xv sv' xv' v : Value} {argTypes : Array TypeId} {args : Array Value} {ty : TypeId} (h : appendA E sT xT sv xv s = some (v, s')) (ht0 : argTypes[0]? = some sT) (ht1 : argTypes[1]? = some xT)
    (ha0 : args[0]? = some sv') (ha1 : args[1]? = some xv') (hsv : VRel μ sv sv') (hxv : VRel μ xv xv') (hs : SRel base μ s.rows.get w) (hf : ∀ r, s.next ≤ r → r < s'.next → μ r = none)  (hsy : μ.sy = E.sy) :
    Does E base μ w s s' (Builtin.append_ argTypes ty args) fun μ' b => VRel μ' v b := by
  unfold appendA at h
  simp only [lift_bind, Option.bind_eq_some_iff, sliceT_some, asSlice_some] at h
  obtain ⟨e, ⟨_, hd, rfl⟩, i, hi, d, hx, ⟨b, n, c⟩, rfl, h⟩ := h
  rw [bind_some] at h
  obtain ⟨⟨m, l⟩, s1, hnew, h⟩ := h
  rw [guard_bind] at h
  obtain ⟨hone, h⟩ := h
  simp only at hone h hsv
  obtain ⟨inf, z, he⟩ := elem_some hi
  obtain ⟨hrows, hnext, hll, ⟨l', hl, happ⟩, hlen1, hlen2⟩ := newCells_ok ok (e := e) he hnew hxv hs hsy
  have hpos := he.pos
  have hll' := hl.length
  have hs1 : SRel base μ s1.rows.get w := by rw [hrows]; exact hs
  by_cases hle : n + m ≤ c
  · rw [Nat.ble_eq_true_of_le hle, cond_true] at h
    obtain ⟨a', c', rfl, hcc, hnone, hv2⟩ := hsv.relen hle
    have hrun := append_run ok (ty := ty) ht0 ht1 ha0 ha1 hd hx he.info hlen1 hlen2
    unfold appendIn at h
    cases l with
    | nil =>
      simp only [pure_some] at h
      obtain ⟨rfl, rfl⟩ := h
      cases hl
      refine ⟨_, w, μ, ?_, hv2, hs1, by rw [hnext]; exact Grew.refl _ _ _ _ _⟩
      rw [hrun]
      refine tail_in (by omega) (happ w fun _ => rfl) ?_
      cases a' with
      | none => rfl
      | some a' => simp only [storeCells]; rfl
    | cons x l =>
      simp only [lift_bind] at h
      obtain ⟨a, rfl, h⟩ := h
      rw [bind_some] at h
      obtain ⟨⟨⟩, s2, hw, h⟩ := h
      rw [pure_some] at h
      obtain ⟨rfl, rfl⟩ := h
      have hm : 0 < m := by
        rcases Nat.eq_zero_or_pos m with h | h
        · subst h; simp at hll
        · exact h
      obtain ⟨r, off, sp⟩ := a
      have fin : ∀ (L : Place) (c' : Nat), μ r = some L → c ≤ c' → VRel μ (.slice (some ⟨r, off, sp⟩) (n + m) c) (.slice (some ⟨L.b, L.o + off, none⟩) (n + m) c') →
          (Builtin.append_ argTypes ty args).run E.P w = (appendTail (isInt d) e inf.size n c' m (some ⟨L.b, L.o + off, none⟩) xv').run E.P w →
          Does E base μ w s s' (Builtin.append_ argTypes ty args) fun μ' b => VRel μ' (.slice (some ⟨r, off, sp⟩) (n + m) c) b := by
        intro L c' hL hcc hv hrun
        obtain ⟨g1, g2, g3, g4⟩ := write_ok (P := E.P) hw hl hs1 hL
        refine ⟨_, _, μ, ?_, hv, g2, ⟨Mu.le_refl _, fun _ a b => absurd a b, fun _ a b => absurd a b, g3⟩⟩
        rw [hrun]
        refine tail_in (by omega) (happ w fun _ => rfl) ?_
        simp only
        rw [addr_add, he.size, Nat.add_assoc]
        exact g1
      rcases hsv.ofSlice with ⟨L, hsp, hL, e1⟩ | ⟨L, c2, hsp, hL, hc2, hx2, e1⟩ | ⟨a2, e0, e2, e1⟩
      · injection e1 with e1 e2 e3; subst e1; subst e3
        simp only at hsp hL; subst hsp
        exact fin L _ hL (Nat.le_refl _) hv2 hrun
      · injection e1 with e1 e2 e3; subst e1; subst e3
        simp only at hsp hL; subst hsp
        exact fin L _ hL hc2 hv2 hrun
      · omega
  · have hb : Nat.ble (n + m) c = false := by
      cases hbb : Nat.ble (n + m) c with
      | false => rfl
      | true => exact absurd (Nat.le_of_ble_eq_true hbb) hle
    rw [hb, cond_false] at h
    unfold appendNew at h
    rw [guard_bind] at h
    obtain ⟨hreach, h⟩ := h
    rw [bind_some] at h
    obtain ⟨old, s2, hread, h⟩ := h
    rw [bind_some] at h
    obtain ⟨es, s3, hleave, h⟩ := h
    rw [fresh_bind, pure_some] at h
    obtain ⟨hble, rfl, e2⟩ := h
    obtain ⟨o', ho, hol, hold, hrows2, hnext2⟩ := read_ok (P := E.P) hread hsv (Nat.le_refl _) hs1
    -- what is there behind the leaving
    have hleft : s3.next = s2.next ∧ ∃ tq, es = codeE i.size tq ∧ (tq = 0 ∨ tq = e + 1) ∧ ((s3.rows.get = s2.rows.get ∧ ∀ r off k, b ≠ some ⟨r, off, some k⟩) ∨ ∃ r off k ec cs, b = some ⟨r, off, some k⟩ ∧ sizeE ec = i.size ∧ (tq = 0 ∨ ec = i.es) ∧ s2.rows.get r = some (.cells false ec cs) ∧ s3.rows.get = fun q => if q = r then none else s2.rows.get q) := by
      unfold leaveA at hleave
      split at hleave
      · rename_i r off k
        simp only [row_bind, lift_bind, guard_bind, ownR_some] at hleave
        obtain ⟨_, x, hx, ⟨ec, cs⟩, rfl, hes, hleave⟩ := hleave
        rw [bind_some] at hleave
        obtain ⟨⟨⟩, s4, h4, h5⟩ := hleave
        rw [turn_some] at h4
        obtain ⟨_, _, hbr, e4⟩ := h4
        rw [pure_some] at h5
        obtain ⟨h5, e3⟩ := h5
        rw [e4] at e3
        simp only at hes hx h5
        have hz := Nat.eq_of_beq_eq_true hes
        refine ⟨by rw [e3], ?_⟩
        cases hq : Nat.beq ec i.es with
        | true => rw [hq, cond_true] at h5; exact ⟨e + 1, h5.trans he.es, Or.inr rfl, Or.inr ⟨r, off, k, ec, cs, rfl, hz, Or.inr (Nat.eq_of_beq_eq_true hq), hx, by rw [e3]; exact rows_put _ _ _ hbr⟩⟩
        | false => rw [hq, cond_false] at h5; exact ⟨0, h5, Or.inl rfl, Or.inr ⟨r, off, k, ec, cs, rfl, hz, Or.inl rfl, hx, by rw [e3]; exact rows_put _ _ _ hbr⟩⟩
      · rename_i hn
        rw [pure_some] at hleave
        rw [hleave.2]
        exact ⟨rfl, e + 1, hleave.1.trans he.es, Or.inr rfl, Or.inl ⟨rfl, fun r off k e => hn r off k e⟩⟩
    obtain ⟨hnext3, tq, hest, hty, hleft⟩ := hleft
    have hn3 : s3.next = s.next := by omega
    have hfresh : μ s.next = none := hf s.next (Nat.le_refl _) (by rw [e2]; show s.next < s3.next + 1; omega)
    have hsub : ∀ r x, s3.rows.get r = some x → s.rows.get r = some x := by
      intro r x hr
      rw [← hrows, ← hrows2]
      rcases hleft with ⟨e3, _⟩ | ⟨r2, _, _, _, _, _, _, _, _, e3⟩
      · rw [← e3]; exact hr
      · rw [e3] at hr
        simp only at hr
        split at hr
        · cases hr
        · exact hr
    have hs3 : SRel base μ s3.rows.get w := hs.less hsub
    have hR : ∀ q, s'.rows.get q = if q = s.next then some (.cells false es (old ++ l)) else s3.rows.get q := by
      intro q; rw [e2]; simp only [rows_put _ _ _ hble]; rw [hn3]
    -- in new memory
    have new : ∀ (a' : Option Addr) (c' : Nat), c' < n + m → (∀ w2 : World, (∀ b : Nat, w2.heap[b]? = w.heap[b]?) → (Builtin.firstCells i.size n (.slice a' n c')).run E.P w2 = .ok ⟨o'⟩ w2) →
        (Builtin.append_ argTypes ty args).run E.P w = (appendTail (isInt d) e inf.size n c' m a' xv').run E.P w →
        Does E base μ w s s' (Builtin.append_ argTypes ty args) fun μ' b => VRel μ' (.slice (some ⟨s3.next, 0, some i.size⟩) (n + m) (n + m)) b := by
      intro a' c' hc' hold' hrun
      obtain ⟨cap, k, hcap, hk, htail⟩ := tail_new ok he hc' hreach happ (by rw [he.size]; exact hold')
      have hsz : (o' ++ l' ++ repeats i.zero k).length = cap * i.size := by
        simp only [List.length_append, hol, hll', hll, repeats_length, he.len]
        rw [← Nat.add_mul, ← Nat.add_mul]; congr 1; omega
      have hbel : Below w.heap.size w (w.drew.alloc (.cells ⟨o' ++ l' ++ repeats i.zero k⟩ e)) := ((Below.refl _ _).drew).alloc (Nat.le_refl _) _
      let K : Place := ⟨w.heap.size, 0, cap * i.size, i.size, tq⟩
      refine ⟨_, _, μ.with s.next K, by rw [hrun]; exact htail, ?_, ?_, Mu.le_with hfresh _, fun r p q => ?_, fun _ a b => absurd a b, hbel.mono hs.ge⟩
      · have := VRel.grown (μ := μ.with s.next K) s.next 0 (n + m) (n + m) cap K (Mu.with_at _ _ _) hcap (by show 0 + cap * i.size ≤ cap * i.size; omega)
        rw [hn3]; simpa using this
      · refine hs3.extend s.next hfresh (.cells false es (old ++ l)) K hbel (Nat.le_refl _) (by show w.heap.size < _; simp) ⟨fun j x hx => ?_, ?_, fun _ => ⟨⟨hs.ge, Marked.alloc _ _ _ _ _ _ (by simp only [List.size_toArray]; omega) he.small hty⟩, hest, fun j hj => ?_⟩⟩ hR
        · obtain ⟨x', hx', hr⟩ := (ho.append hl).get j x hx
          refine ⟨x', ?_, hr.mono (Mu.le_with hfresh _)⟩
          show (w.drew.alloc _).cell? ⟨w.drew.heap.size, 0 + j, none⟩ = _
          rw [Nat.zero_add, World.cell?_alloc_new]
          have hlt : j < (o' ++ l').length := by
            rcases Nat.lt_or_ge j (o' ++ l').length with h | h
            · exact h
            · rw [List.getElem?_eq_none h] at hx'; cases hx'
          simp only [List.getElem?_toArray]
          rw [List.getElem?_append_left hlt]; exact hx'
        · show (old ++ l).length ≤ cap * i.size
          have := (ho.append hl).length
          rw [← this]
          simp only [List.length_append] at hsz ⊢; omega
        · show ((w.drew.alloc _).cell? ⟨w.drew.heap.size, 0 + j, none⟩).isSome = true ∧ (w.drew.alloc _).frozen? ⟨w.drew.heap.size, 0 + j, none⟩ = false
          have hj' : j < cap * i.size := hj
          rw [Nat.zero_add, World.cell?_alloc_new, World.frozen?_alloc_new]
          refine ⟨?_, rfl⟩
          have : j < (o' ++ l' ++ repeats i.zero k).length := by omega
          simp only [List.getElem?_toArray, List.getElem?_eq_getElem this]; rfl
      · have : r = s.next := by
          rw [Mu.with_eq] at q
          by_cases h : r = s.next
          · exact h
          · rw [if_neg h] at q; exact absurd p q
        rw [e2]; show s.next ≤ r ∧ r < s3.next + 1; omega
    cases b with
    | none =>
      have := hsv.ofNilSlice; subst this
      exact new none c (by omega) hold (append_run ok ht0 ht1 ha0 ha1 hd hx he.info hlen1 hlen2)
    | some a =>
      obtain ⟨r, off, sp⟩ := a
      rcases hsv.ofSlice with ⟨L, hsp, hL, rfl⟩ | ⟨L, c2, hsp, hL, hc2, hx2, rfl⟩ | ⟨a2, rfl, rfl, rfl⟩
      · exact new _ c (by omega) hold (append_run ok ht0 ht1 ha0 ha1 hd hx he.info hlen1 hlen2)
      · simp only at hsp hL hx2; subst hsp
        have hrun := append_run ok (ty := ty) ht0 ht1 ha0 ha1 hd hx he.info hlen1 hlen2
        by_cases hin : n + m ≤ c2
        · -- the model writes in place
          rcases hleft with ⟨_, hno⟩ | ⟨r2, off2, k2, ec, cs, hbq, hsz9, hty9, hrow, e3⟩
          · exact absurd rfl (hno r off L.es)
          · injection hbq with hbq; injection hbq with q1 q2 q3; subst q1
            have hrow' : s.rows.get r = some (.cells false ec cs) := by rw [← hrows, ← hrows2]; exact hrow
            obtain ⟨L2, hL2, hok⟩ := hs.row r _ hrow'
            rw [hL] at hL2; injection hL2 with hL2; subst hL2
            obtain ⟨hc, hext, hfree⟩ := hok
            obtain ⟨⟨hge, hmk⟩, hes0, hcells⟩ := hfree rfl
            have hes : i.size = L.es := by rw [← hsz9, hes0, sizeE_code hmk.1.2]
            have hroom : off + (n + m) * i.size ≤ L.ext := by
              have : (n + m) * i.size ≤ c2 * L.es := by rw [← hes]; exact Nat.mul_le_mul_right _ hin
              omega
            have hmul : (n + m) * i.size = n * i.size + m * i.size := Nat.add_mul _ _ _
            have hw1 : ∀ j, j < l'.length → (w.cell? ⟨L.b, L.o + (off + n * i.size) + j, none⟩).isSome = true := by
              intro j hj
              have := (hcells (off + n * i.size + j) (by omega)).1
              rwa [← Nat.add_assoc] at this
            have hw2 : ∀ j, j < l'.length → w.frozen? ⟨L.b, L.o + (off + n * i.size) + j, none⟩ = false := by
              intro j hj
              have := (hcells (off + n * i.size + j) (by omega)).2
              rwa [← Nat.add_assoc] at this
            have hst : (storeCells ⟨L.b, L.o + (off + n * i.size), none⟩ l').run E.P w = .ok () (w.setCells L.b (L.o + (off + n * i.size)) l') := by
              have := run_storeCells_cells (P := E.P) L.b (L.o + (off + n * i.size)) l' 0 w (by simpa using hw1) (by simpa using hw2) (hl.oneCells hone)
              simpa using this
            have hsize : ∀ (vs : List Value) (o : Nat) (w : World), (w.setCells L.b o vs).heap.size = w.heap.size := by
              intro vs
              induction vs with
              | nil => intro o w; rfl
              | cons v vs ih => intro o w; rw [World.setCells, ih, World.size_setCell]
            have hblock : ∀ (vs : List Value) (o : Nat) (w : World) (b : Nat), b ≠ L.b → (w.setCells L.b o vs).heap[b]? = w.heap[b]? := by
              intro vs
              induction vs with
              | nil => intro o w b _; rfl
              | cons v vs ih => intro o w b hb; rw [World.setCells, ih _ _ _ hb, Below.heap_setCell _ _ _ _ hb]
            have hos : ∀ (vs : List Value) (o : Nat) (w : World), (w.setCells L.b o vs).os = w.os ∧ (w.setCells L.b o vs).tape = w.tape ∧ (w.setCells L.b o vs).output = w.output := by
              intro vs
              induction vs with
              | nil => intro o w; exact ⟨rfl, rfl, rfl⟩
              | cons v vs ih => intro o w; rw [World.setCells]; have := ih (o + 1) (w.setCell ⟨L.b, o, none⟩ v); exact this
            let K : Place := ⟨L.b, L.o + off, L.ext - off, L.es, tq⟩
            have hcell : ∀ j, j < n * i.size → (w.setCells L.b (L.o + (off + n * i.size)) l').cell? ⟨L.b, L.o + off + j, none⟩ = w.cell? ⟨L.b, L.o + off + j, none⟩ := by
              intro j hj
              rw [World.cell?_setCells_out]
              intro _ _
              show L.o + off + j < L.o + (off + n * i.size) ∨ _
              omega
            refine ⟨.slice (some ⟨L.b, L.o + off, none⟩) (n + m) c2, w.setCells L.b (L.o + (off + n * i.size)) l', μ.with s.next K, ?_, ?_, ?_, Mu.le_with hfresh _, fun r' p q => ?_, fun _ a b => absurd a b, ?_⟩
            · rw [hrun]
              refine tail_in hin (happ w fun _ => rfl) ?_
              simp only
              rw [addr_add, he.size, Nat.add_assoc]
              exact hst
            · have := VRel.grown (μ := μ.with s.next K) s.next 0 (n + m) (n + m) c2 K (Mu.with_at _ _ _) hin (by show 0 + c2 * L.es ≤ L.ext - off; omega)
              show VRel _ (.slice (some ⟨s3.next, 0, some i.size⟩) (n + m) (n + m)) _
              rw [hn3, hes]
              exact this
            · refine hs.moved r (.cells false ec cs) L hrow' rfl hL (hsize _ _ _) (hblock _ _ _) s.next hfresh (.cells false es (old ++ l)) K rfl ⟨fun j x hx => ?_, ?_, fun _ => ⟨⟨hge, (by
                obtain ⟨_, c9, e9, fr9, k1, k2, k3⟩ := hmk.setCells l' (L.o + (off + n * i.size)) w
                have e : K.o + K.ext = L.o + L.ext := by show L.o + off + (L.ext - off) = _; omega
                exact ⟨⟨fun hz => by exfalso; have hz : L.es = 0 := hz; have := he.pos; omega, hmk.1.2⟩, c9, e9, fr9, k1, by rw [e]; exact k2, by rw [e]; exact k3.1, by
                  rcases hty9 with h | h
                  · exact Or.inl h
                  · rcases hty with h' | h'
                    · exact Or.inl h'
                    · rw [hes0, he.es] at h
                      have := (codeE_inj hmk.1.2 he.small h).2
                      rcases k3.2 with k | k
                      · omega
                      · exact Or.inr (by show tq = _; omega)⟩)⟩, by rw [hest, hes], fun j hj => ?_⟩⟩ (fun q => ?_)
              · show ∃ v', (w.setCells _ _ _).cell? ⟨L.b, L.o + off + j, none⟩ = some v' ∧ _
                have hlo := ho.length
                have hj : j < (old ++ l).length := by
                  rcases Nat.lt_or_ge j (old ++ l).length with h | h
                  · exact h
                  · rw [List.getElem?_eq_none h] at hx; cases hx
                simp only [List.length_append] at hj
                rcases Nat.lt_or_ge j old.length with hjo | hjo
                · rw [List.getElem?_append_left hjo] at hx
                  obtain ⟨x', hx', hr⟩ := ho.get j x hx
                  refine ⟨x', ?_, hr.mono (Mu.le_with hfresh _)⟩
                  rw [hcell j (by omega)]
                  have := hold w (fun _ => rfl)
                  have h2 : (loadCells ⟨L.b, L.o + off, none⟩ (n * i.size)).run E.P w = .ok ⟨o'⟩ w := this
                  have h3 := run_loadCells (P := E.P) w ⟨L.b, L.o + off, none⟩ (n * i.size) (fun j => (w.cell? ⟨L.b, L.o + off + j, none⟩).getD undef) (fun j hj => by
                    rw [addr_add]
                    have := (hcells (off + j) (by omega)).1
                    rw [← Nat.add_assoc] at this
                    obtain ⟨y, hy⟩ := Option.isSome_iff_exists.1 this
                    rw [hy]; rfl)
                  rw [h2] at h3
                  injection h3 with h3
                  have h4 : o' = (List.range (n * i.size)).map fun j => (w.cell? ⟨L.b, L.o + off + j, none⟩).getD undef := by
                    have := congrArg Array.toList h3; simpa using this
                  rw [h4] at hx'
                  have := (hcells (off + j) (by omega)).1
                  rw [← Nat.add_assoc] at this
                  obtain ⟨y, hy⟩ := Option.isSome_iff_exists.1 this
                  rw [List.getElem?_map, List.getElem?_range (by omega)] at hx'
                  simp only [Option.map_some, hy, Option.getD_some] at hx'
                  rw [hy]; exact hx'
                · rw [List.getElem?_append_right hjo] at hx
                  obtain ⟨x', hx', hr⟩ := hl.get _ x hx
                  refine ⟨x', ?_, hr.mono (Mu.le_with hfresh _)⟩
                  have hjl : j - old.length < l'.length := by omega
                  have := World.cell?_setCells_in L.b l' (L.o + (off + n * i.size)) w hw1 (j - old.length) hjl
                  rw [show L.o + (off + n * i.size) + (j - old.length) = L.o + off + j by omega] at this
                  rw [this, ← List.getElem?_eq_getElem hjl]; exact hx'
              · show (old ++ l).length ≤ L.ext - off
                have := ho.length
                simp only [List.length_append]; omega
              · show ((w.setCells _ _ _).cell? ⟨L.b, L.o + off + j, none⟩).isSome = true ∧ (w.setCells _ _ _).frozen? ⟨L.b, L.o + off + j, none⟩ = false
                have hj' : j < L.ext - off := hj
                have hold1 := hcells (off + j) (by omega)
                rw [← Nat.add_assoc] at hold1
                refine ⟨?_, by rw [World.frozen?_setCells]; exact hold1.2⟩
                by_cases cin : n * i.size ≤ j ∧ j < n * i.size + l'.length
                · have hjl : j - n * i.size < l'.length := by omega
                  have := World.cell?_setCells_in L.b l' (L.o + (off + n * i.size)) w hw1 (j - n * i.size) hjl
                  rw [show L.o + (off + n * i.size) + (j - n * i.size) = L.o + off + j by omega] at this
                  rw [this]; rfl
                · rw [World.cell?_setCells_out]
                  · exact hold1.1
                  · intro _ _
                    show L.o + off + j < L.o + (off + n * i.size) ∨ L.o + (off + n * i.size) + l'.length ≤ L.o + off + j
                    omega
              · rw [hR, e3, hrows2, hrows]
            · have : r' = s.next := by
                rw [Mu.with_eq] at q
                by_cases h : r' = s.next
                · exact h
                · rw [if_neg h] at q; exact absurd p q
              rw [e2]; show s.next ≤ r' ∧ r' < s3.next + 1; omega
            · obtain ⟨p1, p2, p3⟩ := hos l' (L.o + (off + n * i.size)) w
              exact ⟨p1, p2, p3, by rw [hsize]; exact Nat.le_refl _, fun k hk => hblock _ _ _ _ (by omega)⟩
        · exact new _ c2 (by omega) hold hrun
      · exact new _ 0 (by omega) hold (append_run ok ht0 ht1 ha0 ha1 hd hx he.info hlen1 hlen2)
end
end Go.Cm
namespace Go.Cm
open Go Go.RowKit

theorem run_getObj_some {P : Program} {w : World} {r : Nat} {o : Obj} (h : w.heap[r]? = some o) (hn : ∀ c t f, o ≠ .cells c t f) : (getObj r).run P w = .ok o w := by
  unfold getObj Sem.run
  rw [h]
  cases o <;> first
    | rfl
    | exact absurd rfl (hn _ _ _)

theorem ERels.length {μ : Mu} {l l' : List MapEntry} (h : ERels μ l l') : l'.length = l.length := by
  induction h with
  | nil => rfl
  | cons _ _ _ _ _ _ _ _ _ ih => simp [ih]

section
variable {E : Env} (ok : E.Ok) {base : Nat} {μ : Mu} {w : World} {s s' : St}
include ok

theorem does_copy {dT : TypeId} {dv xv dv' xv' v : Value} {argTypes : Array TypeId} {args : Array Value} {ty : TypeId} (h : copyA E dT dv xv s = some (v, s')) (ht0 : argTypes[0]? = some dT)
    (ha0 : args[0]? = some dv') (ha1 : args[1]? = some xv') (hdv : VRel μ dv dv') (hxv : VRel μ xv xv') (hs : SRel base μ s.rows.get w) :
    Does E base μ w s s' (Builtin.copy_ argTypes ty args) fun μ' b => VRel μ' v b := by
  unfold copyA at h
  simp only [lift_bind, Option.bind_eq_some_iff, sliceT_some, asSlice_some] at h
  obtain ⟨e, ⟨_, hd, rfl⟩, i, hi, ⟨b, n, c⟩, rfl, h⟩ := h
  rw [bind_some] at h
  obtain ⟨⟨m, l⟩, s1, hc, h⟩ := h
  simp only at h hdv
  obtain ⟨inf, z, he⟩ := elem_some hi
  have hpos := he.pos
  -- what is copied
  have hsrc : s1.rows = s.rows ∧ s1.next = s.next ∧ l.length = m * i.size ∧ m ≤ n ∧ ∃ l' k, VRels μ l l' ∧ (Builtin.lenOf xv').run E.P w = .ok k w ∧ Nat.min k n = m ∧ (Builtin.firstCells inf.size m xv').run E.P w = .ok ⟨l'⟩ w := by
    unfold copied at hc
    cases xv with
    | slice a k c2 =>
      simp only at hc
      rw [bind_some] at hc
      obtain ⟨l1, s2, h1, h2⟩ := hc
      rw [pure_some] at h2
      simp only [Prod.mk.injEq] at h2
      obtain ⟨⟨rfl, rfl⟩, rfl⟩ := h2
      obtain ⟨l', hr, hl, hrun, e1, e2⟩ := read_ok (P := E.P) h1 hxv (Nat.min_le_left _ _) hs
      refine ⟨e1, e2, by rw [← hr.length]; exact hl, Nat.min_le_right _ _, l', k, hr, ?_, rfl, by rw [he.size]; exact hrun w fun _ => rfl⟩
      cases a with
      | none => rw [hxv.ofNilSlice]; rfl
      | some a => rcases hxv.ofSlice with ⟨L, _, _, rfl⟩ | ⟨L, c, _, _, _, _, rfl⟩ | ⟨a', rfl, _, rfl⟩ <;> rfl
    | string t =>
      simp only [guard_bind, pure_some, Prod.mk.injEq] at hc
      obtain ⟨hb, ⟨rfl, rfl⟩, rfl⟩ := hc
      have h1 := Nat.eq_of_beq_eq_true hb
      have hx' := hxv.ofString
      subst hx'
      have hlen : (bytesOf t).length = t.size := by simp [bytesOf]
      have htake : ∀ (l : List Value) (k : Nat), plains l = true → plains (l.take k) = true := by
        intro l
        induction l with
        | nil => intro k _; simp [plains]
        | cons x l ih =>
          intro k h
          cases k with
          | zero => simp [plains]
          | succ k => have := plains_cons.1 h; exact plains_cons.2 ⟨this.1, ih k this.2⟩
      refine ⟨rfl, rfl, ?_, Nat.min_le_right _ _, (bytesOf t).take (min t.size n), t.size, VRels.plain (htake _ _ (bytesOf_plain _)), rfl, rfl, ?_⟩
      · rw [List.length_take, hlen, h1]; omega
      · unfold Builtin.firstCells
        rw [Sem.run_pure]
        congr 1
        apply Array.ext'
        simp [bytesOf, ByteArray.data_extract]
    | _ =>
      have h' : readF i.size _ (fun k => min k n) s = some ((m, l), s1) := hc
      obtain ⟨rfl, k, cs, a, cap, hx1, rfl, rfl, _, l', hr, hl, hrun⟩ := readF_ok (P := E.P) h' hxv hs
      exact ⟨rfl, rfl, by rw [← hr.length]; exact hl, Nat.min_le_right _ _, l', k, hr, rfl, rfl, by rw [he.size]; exact hrun w fun _ => rfl⟩
  obtain ⟨hrows, hnext, hll, hmn, l', k, hl, hlen, hmin, hcells⟩ := hsrc
  have hs1 : SRel base μ s1.rows.get w := by rw [hrows]; exact hs
  have hll' := hl.length
  have hrun : ∀ (a' : Option Addr) (c' : Nat) (w' : World), dv' = .slice a' n c' → (match a' with | some a => (storeCells a l').run E.P w = .ok () w' | none => w' = w) →
      (Builtin.copy_ argTypes ty args).run E.P w = .ok (.int .i64 m) w' := by
    intro a' c' w' hdv' hst
    subst hdv'
    unfold Builtin.copy_
    simp only [ht0, ha0, ha1, Sem.run_bind, ok.run_und w hd, Result.andThen_ok, hlen, hmin, ok.run_size w he.info, hcells]
    cases a' with
    | none => simp only at hst; rw [hst]; rfl
    | some a => simp only at hst ⊢; rw [Sem.run_bind, hst]; rfl
  cases l with
  | nil =>
    simp only [pure_some] at h
    obtain ⟨rfl, rfl⟩ := h
    cases hl
    refine ⟨.int .i64 m, w, μ, ?_, .plain _ rfl, hs1, by rw [hnext]; exact Grew.refl _ _ _ _ _⟩
    cases b with
    | none => exact hrun none c w hdv.ofNilSlice rfl
    | some a => rcases hdv.ofSlice with ⟨L, _, _, e⟩ | ⟨L, c2, _, _, _, _, e⟩ | ⟨a2, rfl, rfl, e⟩ <;> exact hrun _ _ w e rfl
  | cons x l =>
    simp only [lift_bind] at h
    obtain ⟨a, rfl, h⟩ := h
    rw [bind_some] at h
    obtain ⟨⟨⟩, s2, hw, h⟩ := h
    rw [pure_some] at h
    obtain ⟨rfl, rfl⟩ := h
    have hm : 0 < m := by
      rcases Nat.eq_zero_or_pos m with h | h
      · subst h; simp at hll
      · exact h
    obtain ⟨r, off, sp⟩ := a
    have fin : ∀ (L : Place) (c' : Nat), μ r = some L → dv' = .slice (some ⟨L.b, L.o + off, none⟩) n c' →
        Does E base μ w s s' (Builtin.copy_ argTypes ty args) fun μ' b => VRel μ' (.int .i64 m) b := by
      intro L c' hL hdv'
      obtain ⟨g1, g2, g3, g4⟩ := write_ok (P := E.P) hw hl hs1 hL
      exact ⟨_, _, μ, hrun _ _ _ hdv' g1, .plain _ rfl, g2, ⟨Mu.le_refl _, fun _ a b => absurd a b, fun _ a b => absurd a b, g3⟩⟩
    rcases hdv.ofSlice with ⟨L, hsp, hL, e1⟩ | ⟨L, c2, hsp, hL, hc2, hx2, e1⟩ | ⟨a2, e0, e2, e1⟩
    · exact fin L _ hL e1
    · exact fin L _ hL e1
    · omega

theorem does_clear {t : TypeId} {x x' v : Value} {argTypes : Array TypeId} {args : Array Value} {ty : TypeId} (h : clearA E t x s = some (v, s')) (ht0 : argTypes[0]? = some t) (ha0 : args[0]? = some x') (hx : VRel μ x x') (hs : SRel base μ s.rows.get w) :
    Does E base μ w s s' (Builtin.clear_ argTypes ty args) fun μ' b => VRel μ' v b := by
  unfold clearA at h
  simp only [lift_bind, Option.bind_eq_some_iff, sliceT_some, asSlice_some] at h
  obtain ⟨e, ⟨_, hd, rfl⟩, i, hi, ⟨b, n, c⟩, rfl, h⟩ := h
  obtain ⟨inf, z, he⟩ := elem_some hi
  have hpos := he.pos
  simp only at h hx
  cases n with
  | zero =>
    simp only [pure_some] at h
    obtain ⟨rfl, rfl⟩ := h
    refine ⟨.tuple #[], w, μ, ?_, .plain _ rfl, hs, Grew.refl _ _ _ _ _⟩
    unfold Builtin.clear_
    cases b with
    | none => rw [hx.ofNilSlice] at ha0; simp only [ht0, ha0, Sem.run_bind, ok.run_und w hd, Result.andThen_ok, Sem.run_pure]
    | some a => rcases hx.ofSlice with ⟨L, _, _, rfl⟩ | ⟨L, c2, _, _, _, _, rfl⟩ | ⟨a2, _, rfl, rfl⟩ <;>
        simp only [ht0, ha0, Sem.run_bind, ok.run_und w hd, Result.andThen_ok, Sem.run_pure]
  | succ n =>
    simp only [lift_bind] at h
    obtain ⟨a, rfl, h⟩ := h
    rw [bind_some] at h
    obtain ⟨⟨⟩, s2, hw, h⟩ := h
    rw [pure_some] at h
    obtain ⟨rfl, rfl⟩ := h
    obtain ⟨r, off, sp⟩ := a
    have fin : ∀ (L : Place) (c' : Nat), μ r = some L → x' = .slice (some ⟨L.b, L.o + off, none⟩) (n + 1) c' →
        Does E base μ w s s' (Builtin.clear_ argTypes ty args) fun μ' b => VRel μ' (.tuple #[]) b := by
      intro L c' hL hx'
      subst hx'
      obtain ⟨g1, g2, g3, g4⟩ := write_ok (P := E.P) hw (VRels.plain (repeats_plain he.plain (n + 1))) hs hL
      refine ⟨.tuple #[], _, μ, ?_, .plain _ rfl, g2, ⟨Mu.le_refl _, fun _ a b => absurd a b, fun _ a b => absurd a b, g3⟩⟩
      unfold Builtin.clear_
      have hz : z.cells = ⟨i.zero⟩ := by apply Array.ext'; exact he.cells.symm
      simp only [ht0, ha0, Sem.run_bind, ok.run_und w hd, Result.andThen_ok, (ok.run_zero w he.zero).1, hz, zeroCells_eq (show 0 < i.zero.length by have := he.len; omega), g1, Sem.run_pure]
    rcases hx.ofSlice with ⟨L, hsp, hL, e1⟩ | ⟨L, c2, hsp, hL, hc2, hx2, e1⟩ | ⟨a2, e0, e2, e1⟩
    · exact fin L _ hL e1
    · exact fin L _ hL e1
    · omega

theorem does_len {t : TypeId} {x x' v : Value} {argTypes : Array TypeId} {args : Array Value} {ty : TypeId} (h : lenA E t x s = some (v, s')) (ht0 : argTypes[0]? = some t) (ha0 : args[0]? = some x') (hx : VRel μ x x') (hs : SRel base μ s.rows.get w) (hsy : μ.sy = E.sy) :
    Does E base μ w s s' (Builtin.len_ argTypes ty args) fun μ' b => VRel μ' v b := by
  unfold lenA at h
  cases htk : isTok x with
  | true =>
    rw [htk, cond_true] at h
    obtain ⟨hv, rfl⟩ := lift_some.1 h
    obtain ⟨v', hr, hv'⟩ := ok.askLen t ty x v x' w argTypes args hv (hsy ▸ TokV.of hx (by unfold tokish; rw [htk]; rfl)) ht0 ha0
    exact ⟨v', w, μ, hr, (hsy ▸ hv' : TokV μ.sy v v').rel, hs, Grew.refl _ _ _ _ _⟩
  | false =>
  rw [htk, cond_false] at h
  rw [lift_bind] at h
  obtain ⟨d, hd, h⟩ := h
  have fin : ∀ n : Nat, s'.rows = s.rows → s'.next = s.next → v = .int .i64 n → (Builtin.len_ argTypes ty args).run E.P w = .ok (.int .i64 n) w →
      Does E base μ w s s' (Builtin.len_ argTypes ty args) fun μ' b => VRel μ' v b := by
    intro n e1 e2 e3 hr
    subst e3
    exact ⟨_, w, μ, hr, .plain _ rfl, by rw [e1]; exact hs, by rw [e2]; exact Grew.refl _ _ _ _ _⟩
  cases d with
  | string =>
    simp only [lift_bind, pure_some, asStr_some] at h
    obtain ⟨t, rfl, rfl, rfl⟩ := h
    have := hx.ofString; subst this
    refine fin t.size rfl rfl rfl ?_
    unfold Builtin.len_
    simp only [ht0, ha0, Sem.run_bind, ok.run_und w hd, Result.andThen_ok, Sem.run_pure]; rfl
  | slice e =>
    simp only at h
    cases hfz : asFz x with
    | some p =>
      obtain ⟨k, n, cs⟩ := p
      simp only [hfz, guard_bind, pure_some] at h
      obtain ⟨hk, rfl, rfl⟩ := h
      have hk' := Nat.eq_of_beq_eq_true hk
      subst hk'
      rw [asFz_some] at hfz
      simp only at hfz
      subst hfz
      obtain ⟨a, cap, l', rfl, _⟩ := hx.ofArr
      refine fin n rfl rfl rfl ?_
      unfold Builtin.len_
      simp only [ht0, ha0, Sem.run_bind, ok.run_und w hd, Result.andThen_ok, Sem.run_pure]; rfl
    | none =>
    simp only [hfz, lift_bind, pure_some, asSlice_some] at h
    obtain ⟨⟨b, n, c⟩, rfl, rfl, rfl⟩ := h
    simp only at hx
    refine fin n rfl rfl rfl ?_
    unfold Builtin.len_
    cases b with
    | none => rw [hx.ofNilSlice] at ha0; simp only [ht0, ha0, Sem.run_bind, ok.run_und w hd, Result.andThen_ok, Sem.run_pure]; rfl
    | some a => rcases hx.ofSlice with ⟨L, _, _, rfl⟩ | ⟨L, c2, _, _, _, _, rfl⟩ | ⟨a2, rfl, rfl, rfl⟩ <;>
        (simp only [ht0, ha0, Sem.run_bind, ok.run_und w hd, Result.andThen_ok, Sem.run_pure]; rfl)
  | array n e =>
    simp only [pure_some] at h
    obtain ⟨rfl, rfl⟩ := h
    refine fin n rfl rfl rfl ?_
    unfold Builtin.len_
    simp only [ht0, ha0, Sem.run_bind, ok.run_und w hd, Result.andThen_ok, Sem.run_pure]; rfl
  | map k e =>
    simp only at h
    split at h
    · rw [pure_some] at h
      obtain ⟨rfl, rfl⟩ := h
      have : x' = .map none := hx.eq rfl
      subst this
      refine fin 0 rfl rfl rfl ?_
      unfold Builtin.len_
      simp only [ht0, ha0, Sem.run_bind, ok.run_und w hd, Result.andThen_ok, Sem.run_pure]; rfl
    · rename_i r
      obtain ⟨L, hL, rfl⟩ := hx.ofMap
      rw [row_bind] at h
      obtain ⟨_, y, hy, h⟩ := h
      obtain ⟨L2, hL2, hrow⟩ := hs.row r y hy
      rw [hL] at hL2; injection hL2 with hL2; subst hL2
      cases y with
      | map es clock =>
        simp only [pure_some] at h
        obtain ⟨rfl, rfl⟩ := h
        obtain ⟨_, es', hh, hr⟩ := hrow
        have hlen : es'.length = es.length := hr.length
        refine fin es.length rfl rfl rfl ?_
        unfold Builtin.len_
        simp only [ht0, ha0, Sem.run_bind, ok.run_und w hd, Result.andThen_ok, run_getObj_some hh (by intro _ _ _ h; cases h), Sem.run_pure]
        rw [← hlen]; rfl
      | cells => rw [fail_some] at h; exact h.elim
      | iter => rw [fail_some] at h; exact h.elim
    · rw [fail_some] at h; exact h.elim
  | _ => rw [fail_some] at h; exact h.elim

theorem does_cap {t : TypeId} {x x' v : Value} {argTypes : Array TypeId} {args : Array Value} {ty : TypeId} (h : capA E t x = some v) (ht0 : argTypes[0]? = some t) (ha0 : args[0]? = some x') (hx : VRel μ x x') :
    ∃ v', (Builtin.cap_ argTypes ty args).run E.P w = .ok v' w ∧ VRel μ v v' := by
  unfold capA at h
  simp only [Option.bind_eq_some_iff, Option.map_eq_some_iff, sliceT_some, asSlice_some, guardO_some] at h
  obtain ⟨e, ⟨_, hd, rfl⟩, ⟨b, n, c⟩, rfl, _, hex, rfl⟩ := h
  refine ⟨_, ?_, .plain _ rfl⟩
  simp only at hx hex ⊢
  unfold Builtin.cap_
  cases b with
  | none => rw [hx.ofNilSlice] at ha0; simp only [ht0, ha0, Sem.run_bind, ok.run_und w hd, Result.andThen_ok, Sem.run_pure]; rfl
  | some a =>
    obtain ⟨r, off, sp⟩ := a
    rcases hx.ofSlice with ⟨L, _, _, rfl⟩ | ⟨L, c2, hsp, _, _, _, rfl⟩ | ⟨a2, rfl, rfl, rfl⟩
    · simp only [ht0, ha0, Sem.run_bind, ok.run_und w hd, Result.andThen_ok, Sem.run_pure]; rfl
    · simp only at hsp; subst hsp; cases hex
    · simp only [ht0, ha0, Sem.run_bind, ok.run_und w hd, Result.andThen_ok, Sem.run_pure]; rfl

theorem u8_some {e : TypeId} {u : Unit} (h : u8T E e = some u) : (underlying e).run E.P w = .ok (.int .u8) w := by
  unfold u8T at h
  rw [Option.bind_eq_some_iff] at h
  obtain ⟨d, hd, h⟩ := h
  cases d with
  | int k => cases k <;> first | exact ok.run_und w hd | cases h
  | _ => cases h

omit ok in
theorem bytesBack_spec : ∀ (l : List Value) (bs : List UInt8), bytesBack l = some bs → ∃ ns : List Int, l = ns.map (Value.int .u8) ∧ bs = ns.map fun n => UInt8.ofNat n.toNat
  | [], bs, h => by injection h with h; subst h; exact ⟨[], rfl, rfl⟩
  | v :: l, bs, h => by
    unfold bytesBack at h
    split at h
    · cases ‹_ :: _ = []›
    · rename_i n l2 e
      injection e with e1 e2; subst e1; subst e2
      rw [Option.map_eq_some_iff] at h
      obtain ⟨bs2, h2, rfl⟩ := h
      obtain ⟨ns, rfl, rfl⟩ := bytesBack_spec l bs2 h2
      exact ⟨n :: ns, rfl, rfl⟩
    · cases h

omit ok in
theorem ints_plain : ∀ ns : List Int, plains (ns.map (Value.int .u8)) = true
  | [] => rfl
  | _ :: l => plains_cons.2 ⟨rfl, ints_plain l⟩

omit ok in
/-- A row in a block of its own, of which one mark behind the end is frozen. -/
theorem does_bytes {s : St} {s' : St} {e : TypeId} {t : ByteArray} (hb : Nat.ble s.next 1000000000 = true) (e2 : s' = { s with rows := D.put (some (.cells false (codeE 1 (e + 1)) (bytesOf t))) deep s.rows s.next, next := Nat.succ s.next })
    (hs : SRel base μ s.rows.get w) (hf : ∀ r, s.next ≤ r → r < s'.next → μ r = none) :
    Does E base μ w s s' (Conv.stringToBytes e t) fun μ' b => VRel μ' (.slice (some ⟨s.next, 0, some 1⟩) t.size t.size) b := by
  let cap := (Question.appendCap t.size 0 e).cut (w.tape w.drawn (.appendCap t.size 0 e))
  have hcap : t.size ≤ cap := by show t.size ≤ t.size + _; omega
  let C : Array Value := (t.data.map fun b => Value.int .u8 b.toNat) ++ Array.replicate (cap - t.size) (.int .u8 0)
  have hC : C.size = cap := by simp only [C, Array.size_append, Array.size_map, Array.size_replicate]; have : t.data.size = t.size := rfl; omega
  let w1 : World := w.drew.alloc (.cells C e)
  let w2 : World := w1.freeze ⟨w.heap.size, cap, none⟩ 1
  have hheap : w2.heap = w.heap.push (.cells C e (cap, cap + 1)) := by
    show (World.freeze w1 ⟨w.heap.size, cap, none⟩ 1).heap = _
    unfold World.freeze
    rw [if_neg (by decide)]
    have hw1 : w1.heap = w.heap.push (.cells C e) := rfl
    simp only [hw1]
    apply Array.ext
    · simp
    · intro i h1 h2
      simp only [Array.size_modify, Array.size_push] at h1
      rw [Array.getElem_modify]
      by_cases hi : w.heap.size = i
      · subst hi; simp
      · rw [if_neg hi]
        simp only [Array.getElem_push]
        split
        · rfl
        · omega
  have hsz : w2.heap.size = w.heap.size + 1 := by rw [hheap]; simp
  have hat : w2.heap[w.heap.size]? = some (.cells C e (cap, cap + 1)) := by rw [hheap]; simp
  have hbel : Below w.heap.size w w2 := ⟨rfl, rfl, rfl, by omega, fun k hk => by rw [hheap, Array.getElem?_push, if_neg (by omega)]⟩
  have hn : μ s.next = none := hf s.next (Nat.le_refl _) (by rw [e2]; exact Nat.lt_succ_self _)
  let K : Place := ⟨w.heap.size, 0, cap, 1, e + 1⟩
  have hcell : ∀ j, w2.cell? ⟨w.heap.size, 0 + j, none⟩ = C[j]? := by
    intro j; unfold World.cell?; simp only [hat, Nat.zero_add]; rfl
  refine ⟨.slice (some ⟨w.heap.size, 0, none⟩) t.size cap, w2, μ.with s.next K, ?_, ?_, ?_, Mu.le_with hn _, fun r p q => ?_, fun _ a b => absurd a b, hbel.mono hs.ge⟩
  · unfold Conv.stringToBytes
    have hq : (Question.appendCap t.size 0 e).forced = false := rfl
    have hshape : w1.shape? w.heap.size = some (e, cap) := by
      have h0 : w1.heap[w.heap.size]? = some (.cells C e) := by show (w.heap.push _)[w.heap.size]? = _; simp
      unfold World.shape?
      rw [h0]
      simp only [hC]
    simp only [Sem.run_bind, run_choose, hq, Bool.false_eq_true, if_false, World.drew_eq, Result.andThen_ok]
    unfold newRow markStringish
    simp only [Sem.run_bind, run_newObj, Result.andThen_ok, Sem.run_pure, World.alloc_eq, run_shape]
    have e1 : (w.drew.alloc (.cells C e)).shape? w.drew.heap.size = some (e, cap) := hshape
    have e3 : ((w.drew.alloc (.cells ((t.data.map fun b => Value.int .u8 b.toNat) ++ Array.replicate ((Question.appendCap t.size 0 e).cut (w.tape w.drawn (.appendCap t.size 0 e)) - t.size) (.int .u8 0)) e))).shape? w.drew.heap.size = some (e, cap) := e1
    rw [e3]
    rfl
  · have := VRel.grown (μ := μ.with s.next K) s.next 0 t.size t.size cap K (Mu.with_at _ _ _) hcap (by show 0 + cap * 1 ≤ cap; omega)
    simpa using this
  · refine hs.extend s.next hn (.cells false (codeE 1 (e + 1)) (bytesOf t)) K hbel (Nat.le_refl _) (by rw [hsz]; exact Nat.lt_succ_self _) ⟨fun j x hx => ?_, ?_, fun _ => ⟨⟨hs.ge, ⟨fun _ => rfl, (by show 1 < tagT; unfold tagT; omega)⟩, C, e, (cap, cap + 1), hat, (by show 0 + cap ≤ C.size; omega), Or.inr ⟨by show 0 + cap ≤ cap; omega, Nat.lt_succ_self _⟩, Or.inr rfl⟩, rfl, fun j hj => ?_⟩⟩ (fun r => ?_)
    · have hj : j < t.size := by
        rcases Nat.lt_or_ge j (bytesOf t).length with h | h
        · simpa [bytesOf] using h
        · rw [List.getElem?_eq_none h] at hx; cases hx
      have hxp : Cm.plain x = true := by
        simp only [bytesOf, List.getElem?_map, Option.map_eq_some_iff] at hx
        obtain ⟨b, _, rfl⟩ := hx; rfl
      refine ⟨x, ?_, .plain x hxp⟩
      show w2.cell? ⟨w.heap.size, 0 + j, none⟩ = some x
      rw [hcell]
      have hj' : j < (t.data.map fun b => Value.int .u8 b.toNat).size := by simpa using hj
      simp only [C]
      rw [Array.getElem?_append_left hj']
      rw [← hx]
      simp [bytesOf]
    · show (bytesOf t).length ≤ cap
      have : (bytesOf t).length = t.size := by simp [bytesOf]
      omega
    · show (w2.cell? ⟨w.heap.size, 0 + j, none⟩).isSome = true ∧ w2.frozen? ⟨w.heap.size, 0 + j, none⟩ = false
      have hj' : j < cap := hj
      rw [hcell]
      refine ⟨by simp [hC, hj'], ?_⟩
      unfold World.frozen?
      simp only [hat, Nat.zero_add]
      simp; omega
    · rw [e2]; exact D.got _ _ _ _ hb
  · have : r = s.next := by
      rw [Mu.with_eq] at q
      by_cases h : r = s.next
      · exact h
      · rw [if_neg h] at q; exact absurd p q
    rw [e2]; show s.next ≤ r ∧ r < s.next + 1; omega
end

theorem pureRun_ok {α : Type} {P : Program} (e : Sem α) (a : α) (h : pureRun P e = some a) (w : World) : e.run P w = .ok a w := by
  induction e with
  | pure b => simp only [pureRun, Option.some.injEq] at h; subst h; rfl
  | program k ih => exact ih _ h
  | mark m k ih => exact ih h
  | choose q k ih =>
    unfold pureRun at h
    by_cases hq : q.forced = true
    · rw [if_pos hq] at h
      unfold Sem.run
      rw [if_pos hq]
      exact ih _ h
    · rw [if_neg hq] at h; cases h
  | _ => cases h

theorem plainly_some {o : Option Value} {v : Value} : plainly o = some v ↔ o = some v ∧ plain v = true := by
  unfold plainly
  simp only [Option.bind_eq_some_iff, Option.map_eq_some_iff, guardO_some]
  constructor
  · rintro ⟨a, rfl, _, hp, rfl⟩; exact ⟨rfl, hp⟩
  · rintro ⟨rfl, hp⟩; exact ⟨v, rfl, (), hp, rfl⟩

end Go.Cm
namespace Go.Cm
open Go Go.RowKit

section
variable {E : Env} (ok : E.Ok) {base : Nat} {μ : Mu} {w : World} {s s' : St}
include ok

theorem run_convert_str {src dst : TypeId} {t : ByteArray} {sd : TypeDesc} (hs : E.und src = some sd) (hd : E.und dst = some .string) : (convert src dst (.string t)).run E.P w = .ok (.string t) w := by
  unfold convert
  cases sd <;> simp only [Sem.run_bind, ok.run_und w hs, ok.run_und w hd, Result.andThen_ok, Sem.run_pure]

omit ok in
/-- The mark that bytes bear which were a constant's: behind the end of their block. -/
theorem run_marked {P : Program} {base : Nat} {μ : Mu} {w : World} {R R' : Nat → Option Row} {r off : Nat} {es : Nat} {cs : List Value} {L : Place} (hs : SRel base μ R w) (hr : R r = some (.cells false es cs)) (hL : μ r = some L)
    (hR : ∀ q, R' q = if q = r then some (.cells false es cs) else R q) :
    ∃ w', (markStringish ⟨L.b, off, none⟩).run P w = .ok () w' ∧ SRel base μ R' w' ∧ Below base w w' := by
  obtain ⟨L', hL', hrow⟩ := hs.row r _ hr
  rw [hL] at hL'; injection hL' with hL'; subst hL'
  obtain ⟨hc, hext, hfree⟩ := hrow
  obtain ⟨⟨hge, h00, c, e, fr, hat, hsz, hfr, hty⟩, hes, hcells⟩ := hfree rfl
  obtain ⟨lo, hi⟩ := fr
  simp only at hfr
  let fr' : Nat × Nat := if lo == hi then (c.size, c.size + 1) else (min lo c.size, max hi (c.size + 1))
  have hfr' : L.o + L.ext ≤ fr'.1 ∧ fr'.1 < fr'.2 := by
    show L.o + L.ext ≤ (if lo == hi then (c.size, c.size + 1) else (min lo c.size, max hi (c.size + 1))).1 ∧ (if lo == hi then (c.size, c.size + 1) else (min lo c.size, max hi (c.size + 1))).1 < (if lo == hi then (c.size, c.size + 1) else (min lo c.size, max hi (c.size + 1))).2
    by_cases h : lo = hi
    · subst h; simp only [beq_self_eq_true, if_true]; omega
    · have : (lo == hi) = false := by simpa using h
      simp only [this, Bool.false_eq_true, if_false]
      omega
  have hlt : L.b < w.heap.size := hs.dom r _ L hr hL
  let w' : World := w.freeze ⟨L.b, c.size, none⟩ 1
  have hw' : w' = { w with heap := w.heap.modify L.b fun | .cells c' e' (lo, hi) => .cells c' e' (if lo == hi then (c.size, c.size + 1) else (min lo c.size, max hi (c.size + 1))) | o => o } := by
    show World.freeze w ⟨L.b, c.size, none⟩ 1 = _
    unfold World.freeze
    rw [if_neg (by decide)]
    rfl
  have hsize : w'.heap.size = w.heap.size := by rw [hw']; simp
  have hb : ∀ b, b ≠ L.b → w'.heap[b]? = w.heap[b]? := by
    intro b hb
    rw [hw']
    simp only [Array.getElem?_modify]
    rw [if_neg (fun e => hb e.symm)]
  have hat' : w'.heap[L.b]? = some (.cells c e fr') := by
    rw [hw']
    simp only [Array.getElem?_modify, if_true, hat, Option.map_some]
    rfl
  have hcell : ∀ o, w'.cell? ⟨L.b, o, none⟩ = w.cell? ⟨L.b, o, none⟩ := by
    intro o
    unfold World.cell?
    simp only [hat, hat']
  refine ⟨w', ?_, hs.turn r (.cells false es cs) L hr rfl hL hsize hb (some (.cells false es cs)) (fun z hz => ?_) hR, ?_⟩
  · unfold markStringish
    have hsh : w.shape? L.b = some (e, c.size) := by unfold World.shape?; rw [hat]
    simp only [Sem.run_bind, run_shape, Result.andThen_ok, hsh, run_freeze]
    rfl
  · injection hz with hz; subst hz
    refine ⟨fun i v hv => ?_, hext, fun _ => ⟨⟨hge, h00, c, e, fr', hat', hsz, Or.inr hfr', hty⟩, hes, fun i hi => ?_⟩⟩
    · rw [hcell]; exact hc i v hv
    · rw [hcell]
      refine ⟨(hcells i hi).1, ?_⟩
      unfold World.frozen?
      simp only [hat']
      have : ¬ fr'.1 ≤ L.o + i := by omega
      simp [this]
  · refine ⟨?_, ?_, ?_, by rw [hsize]; exact Nat.le_refl _, fun k hk => hb k (by omega)⟩ <;> rw [hw']

theorem does_mark {src dst : TypeId} {sd dd : TypeDesc} {a : Option Addr} {n c : Nat} {x' v : Value} (hsd : E.und src = some sd) (hdd : E.und dst = some dd) (h : markA E src dst dd a n c s = some (v, s')) (hx : VRel μ (.slice a n c) x') (hs : SRel base μ s.rows.get w) :
    Does E base μ w s s' (convert src dst x') fun μ' b => VRel μ' v b := by
  unfold markA at h
  simp only [guard_bind, lift_bind, row_bind, Bool.and_eq_true, sliceT_some] at h
  obtain ⟨⟨h1, h2⟩, e, rfl, _, hu, ad, rfl, _, x, hrow, ec, hown, h⟩ := h
  have hsd' := Nat.eq_of_beq_eq_true h1
  subst hsd'
  have hcpos := blt_lt0 h2
  rw [ownR_some] at hown
  subst hown
  rw [bind_some] at h
  obtain ⟨⟨⟩, s1, h3, h4⟩ := h
  rw [turn_some] at h3
  obtain ⟨_, _, hble, e3⟩ := h3
  rw [pure_some] at h4
  obtain ⟨rfl, rfl⟩ := h4
  have hget : ∀ q, s'.rows.get q = if q = ad.block then some (.cells false ec.1 ec.2) else s.rows.get q := by
    intro q; rw [e3]; exact D.got _ _ _ _ hble
  have fin : ∀ L : Place, μ ad.block = some L → ∀ (off c' : Nat), VRel μ (.slice (some ad) n c) (.slice (some ⟨L.b, off, none⟩) n c') →
      Does E base μ w s s' (convert src src (.slice (some ⟨L.b, off, none⟩) n c')) fun μ' b => VRel μ' (.slice (some ad) n c) b := by
    intro L hL off c' hv
    obtain ⟨w', hr, hs', hbel⟩ := run_marked (P := E.P) (off := off) hs hrow hL hget
    refine ⟨_, w', μ, ?_, hv, hs', ⟨Mu.le_refl _, fun _ a b => absurd a b, fun _ a b => absurd a b, hbel⟩⟩
    unfold convert
    simp only [Sem.run_bind, ok.run_und w hsd, Result.andThen_ok]
    have hsd2 : sd = .slice e := by rw [hsd] at hdd; injection hdd
    subst hsd2
    simp only [Sem.run_bind, u8_some ok hu, Result.andThen_ok, beq_self_eq_true, hr, Sem.run_pure]
  have hx0 := hx
  rcases hx.ofSlice with ⟨L, hsp, hL, rfl⟩ | ⟨L, c2, hsp, hL, hc2, hx2, rfl⟩ | ⟨a2, rfl, rfl, rfl⟩
  · exact fin L hL _ _ hx0
  · exact fin L hL _ _ hx0
  · omega

omit ok in
theorem liesAt_off {P : Program} {e : TypeId} (hc : 0 < P.cellsOf e) (count off n : Nat) (hr : off % P.cellsOf e = 0) (hn : off / P.cellsOf e + n ≤ count) : liesAt P P.depth e count off e n = true := by
  have hd : P.depth = (2 * (P.types.size + Made.depth) + 1) + 1 := rfl
  rw [hd]
  simp only [liesAt, Bool.or_eq_true]
  left
  rw [hd]
  have : ¬ P.cellsOf e = 0 := by omega
  simp [rowAt, hr, hn, sameLayout, this]
omit ok in
/-- The row that an address of one's own points into. -/
theorem own_at {r : Nat} {es : Nat} {cs : List Value} {L : Place} (hs : SRel base μ s.rows.get w) (hr : s.rows.get r = some (.cells false es cs)) (hL : μ r = some L) :
    base ≤ L.b ∧ ((L.es = 0 → L.o = 0) ∧ L.es < tagT) ∧ es = codeE L.es L.ty ∧ L.b < w.heap.size ∧ ∃ (c : Array Value) (e : TypeId) (fr : Nat × Nat), w.heap[L.b]? = some (.cells c e fr) ∧ L.o + cs.length ≤ c.size ∧ cs.length ≤ L.ext ∧ (L.ty = 0 ∨ L.ty = e + 1) ∧
      ∀ (i : Nat) (v : Value), cs[i]? = some v → ∃ v', w.cell? ⟨L.b, L.o + i, none⟩ = some v' ∧ VRel μ v v' := by
  obtain ⟨L2, hL2, hc, hext, hfree⟩ := hs.row r _ hr
  rw [hL] at hL2; injection hL2 with hL2; subst hL2
  obtain ⟨⟨hge, h0, c, e, fr, hat, hsz, _, hty⟩, hes, _⟩ := hfree rfl
  exact ⟨hge, h0, hes, hs.dom r _ L hr hL, c, e, fr, hat, by omega, hext, hty, hc⟩
theorem does_ptr {src dst : TypeId} {sd dd : TypeDesc} {a : Addr} {x' v : Value} (hsd : E.und src = some sd) (hdd : E.und dst = some dd) (h : ptrA E sd dd a s = some (v, s')) (hx : VRel μ (.pointer (some a)) x') (hs : SRel base μ s.rows.get w) :
    Does E base μ w s s' (convert src dst x') fun μ' b => VRel μ' v b := by
  unfold ptrA at h
  simp only [row_bind, lift_bind, guard_bind, pure_some, ownR_some] at h
  obtain ⟨⟨kb, kt⟩, hkt, _, x, hrow, ec, rfl, hsp, _, hcase, rfl, rfl⟩ := h
  obtain ⟨r, off, sp⟩ := a
  have hsp' : sp = none := by cases sp <;> first | rfl | cases hsp
  subst hsp'
  have hx0 := hx
  obtain ⟨L, hL, rfl⟩ := hx.ofPtr
  obtain ⟨hge, h0, hes, hlt, c, e, fr, hat, hsz, hext, hty, hc⟩ := own_at (s := s) hs hrow hL
  have hsh : w.shape? L.b = some (e, c.size) := by unfold World.shape?; rw [hat]
  have key : (convert src dst (.pointer (some ⟨L.b, L.o + off, none⟩))).run E.P w = .ok (.pointer (some ⟨L.b, L.o + off, none⟩)) w := by
    simp only at hcase
    unfold ptrT at hkt
    split at hkt
    · rename_i t
      injection hkt with hkt; injection hkt with k1 k2; subst k1 k2
      rw [cond_true] at hcase
      unfold toUnsafe at hcase
      simp only [Option.bind_eq_some_iff, guardO_some, Bool.and_eq_true] at hcase
      obtain ⟨i, hi, h1, h2⟩ := hcase
      have h1' := blt_lt0 h1
      have h2' := blt_lt0 h2
      exact Lib.run_to_unsafe w _ (ok.und _ _ hsd) (ok.und _ _ hdd) (ok.info _ _ hi) (by omega) hsh (by simp only at h2' ⊢; omega)
    · rename_i u
      injection hkt with hkt; injection hkt with k1 k2; subst k1 k2
      rw [cond_false] at hcase
      unfold ofUnsafe at hcase
      simp only [Option.bind_eq_some_iff, guardO_some, Bool.and_eq_true] at hcase
      obtain ⟨i, hi, ⟨⟨h1, h2⟩, h3⟩, h4⟩ := hcase
      have h1' := Nat.eq_of_beq_eq_true h1
      have h2' := Nat.eq_of_beq_eq_true h2
      have h3' := blt_lt0 h3
      have h4' := Nat.le_of_ble_eq_true h4
      rw [hes] at h1'
      obtain ⟨e1, e2⟩ := codeE_inj h0.2 (by unfold tagT; omega) h1'
      have ho := h0.1 e1
      subst h2'
      have he : e = u := by
        rcases hty with k | k
        · rw [e2] at k; cases k
        · rw [e2] at k; exact (Nat.succ.inj k).symm
      subst he
      have hcell : E.P.cellsOf e = i.size := by simp [Program.cellsOf, ok.info _ _ hi]
      refine Lib.run_from_unsafe w _ (ok.und _ _ hsd) (ok.und _ _ hdd) (ok.info _ _ hi) hsh ?_
      show liesAt E.P E.P.depth e (c.size / E.P.cellsOf e) (L.o + 0) e 1 = true
      rw [ho]
      refine liesAt_off (by omega) _ _ _ (by simp) ?_
      rw [hcell]
      have : 1 ≤ c.size / i.size := (Nat.le_div_iff_mul_le h3').2 (by omega)
      simpa using this
    · cases hkt
  exact ⟨_, w, μ, key, hx0, hs, Grew.refl _ _ _ _ _⟩

theorem does_convert {src dst : TypeId} {x x' v : Value} (h : convertA E src dst x s = some (v, s')) (hx : VRel μ x x') (hs : SRel base μ s.rows.get w) (hf : ∀ r, s.next ≤ r → r < s'.next → μ r = none) (hsy : μ.sy = E.sy) (hez : ∀ b o, E.fz b = some o → μ.fz b = some o) :
    Does E base μ w s s' (convert src dst x') fun μ' b => VRel μ' v b := by
  unfold convertA at h
  cases htk : isTok x with
  | true =>
    rw [htk, cond_true] at h
    obtain ⟨hv, rfl⟩ := lift_some.1 h
    obtain ⟨v', hr, hv'⟩ := ok.askC src dst x v x' w hv (hsy ▸ TokV.of hx (by unfold tokish; rw [htk]; rfl)) (fun b o h => hs.cold b o (hez b o h))
    exact ⟨v', w, μ, hr, (hsy ▸ hv' : TokV μ.sy v v').rel, hs, Grew.refl _ _ _ _ _⟩
  | false =>
  rw [htk, cond_false] at h
  simp only [lift_bind] at h
  obtain ⟨sd, hsd, dd, hdd, h⟩ := h
  split at h
  · exact does_ptr ok hsd hdd h hx hs
  · rename_i t
    have := hx.ofString; subst this
    cases hst : isString dd with
    | true =>
      rw [hst, cond_true, pure_some] at h
      obtain ⟨rfl, rfl⟩ := h
      have : dd = .string := by cases dd <;> first | rfl | cases hst
      subst this
      exact ⟨_, w, μ, run_convert_str ok hsd hdd, .plain _ rfl, hs, Grew.refl _ _ _ _ _⟩
    | false =>
      rw [hst, cond_false] at h
      unfold bytesNew at h
      simp only [lift_bind, fresh_bind, pure_some, sliceT_some] at h
      obtain ⟨e, rfl, _, hu, hb, rfl, e2⟩ := h
      obtain ⟨b, w', μ', hr, hv, h1, h2⟩ := does_bytes (E := E) (e := e) hb e2 hs hf
      refine ⟨b, w', μ', ?_, hv, h1, h2⟩
      unfold convert
      cases sd <;> (simp only [Sem.run_bind, ok.run_und w hsd, ok.run_und w hdd, Result.andThen_ok, u8_some ok hu]; exact hr)
  · rename_i a n c
    cases hst : isString dd with
    | false => rw [hst, cond_false] at h; exact does_mark ok hsd hdd h hx hs
    | true =>
      rw [hst, cond_true] at h
      have : dd = .string := by cases dd <;> first | rfl | cases hst
      subst this
      unfold textOf at h
      simp only [lift_bind, sliceT_some] at h
      obtain ⟨e, rfl, _, hu, h⟩ := h
      rw [bind_some] at h
      obtain ⟨l, s1, hrd, h⟩ := h
      simp only [lift_bind, pure_some] at h
      obtain ⟨bs, hbs, rfl, rfl⟩ := h
      obtain ⟨ns, rfl, rfl⟩ := bytesBack_spec _ _ hbs
      obtain ⟨l', hr, hl, hrun, e1, e2⟩ := read_ok (P := E.P) hrd hx (Nat.le_refl _) hs
      have hl' := VRels.eq (ints_plain ns) hr
      subst hl'
      have hcells := hrun w fun _ => rfl
      have fin : ∀ x'' : Value, x' = x'' → (Conv.bytesToString x'').run E.P w = .ok (.string ⟨⟨ns.map fun n => UInt8.ofNat n.toNat⟩⟩) w →
          (convert src dst x').run E.P w = (Conv.bytesToString x'').run E.P w →
          Does E base μ w s s' (convert src dst x') fun μ' b => VRel μ' (.string ⟨⟨ns.map fun n => UInt8.ofNat n.toNat⟩⟩) b := by
        intro x'' _ h1 h2
        exact ⟨_, w, μ, by rw [h2]; exact h1, .plain _ rfl, by rw [e1]; exact hs, by rw [e2]; exact Grew.refl _ _ _ _ _⟩
      cases a with
      | none =>
        have hx' := hx.ofNilSlice
        subst hx'
        have hns : ns = [] := by
          have : (Builtin.firstCells 1 n (.slice none n c)).run E.P w = .ok #[] w := rfl
          rw [this] at hcells
          injection hcells with hcells
          cases ns with
          | nil => rfl
          | cons => cases hcells
        subst hns
        refine fin _ rfl rfl ?_
        unfold convert
        simp only [Sem.run_bind, ok.run_und w hsd, ok.run_und w hdd, Result.andThen_ok, u8_some ok hu]
      | some a =>
        have key : ∀ (a' : Addr) (c' : Nat), x' = .slice (some a') n c' → Does E base μ w s s' (convert src dst x') fun μ' b => VRel μ' (.string ⟨⟨ns.map fun n => UInt8.ofNat n.toNat⟩⟩) b := by
          intro a' c' hx'
          subst hx'
          have hload : (loadCells a' n).run E.P w = .ok (ns.map (Value.int .u8)).toArray w := by
            have : (loadCells a' (n * 1)).run E.P w = .ok ⟨ns.map (Value.int .u8)⟩ w := hcells
            rw [Nat.mul_one] at this; exact this
          refine fin _ rfl ?_ ?_
          · rw [run_bytesToString w a' n c' ns hload, foldl_push_bytes]
            have he : ByteArray.empty.data = #[] := rfl
            rw [he]; simp
          · unfold convert
            simp only [Sem.run_bind, ok.run_und w hsd, ok.run_und w hdd, Result.andThen_ok, u8_some ok hu]
        rcases hx.ofSlice with ⟨L, _, _, e⟩ | ⟨L, c2, _, _, _, _, e⟩ | ⟨a2, rfl, rfl, e⟩ <;> exact key _ _ e
  · cases hp : plain x with
    | true =>
      rw [hp, cond_true, lift_some, plainly_some] at h
      obtain ⟨⟨hr, hv⟩, rfl⟩ := h
      have := hx.eq hp; subst this
      exact ⟨v, w, μ, pureRun_ok _ _ hr w, .plain v hv, hs, Grew.refl _ _ _ _ _⟩
    | false =>
      rw [hp, cond_false, guard_bind] at h
      obtain ⟨hst, h⟩ := h
      have : dd = .string := by cases dd <;> first | rfl | cases hst
      subst this
      unfold textF at h
      simp only [lift_bind, sliceT_some] at h
      obtain ⟨e, rfl, _, hu, h⟩ := h
      rw [bind_some] at h
      obtain ⟨⟨m, l⟩, s1, hrd, h⟩ := h
      simp only [lift_bind, pure_some] at h
      obtain ⟨bs, hbs, rfl, rfl⟩ := h
      obtain ⟨ns, rfl, rfl⟩ := bytesBack_spec _ _ hbs
      obtain ⟨rfl, n, cs, a, cap, rfl, rfl, rfl, _, l', hr, hl, hrun⟩ := readF_ok (P := E.P) hrd hx hs
      have hl' := VRels.eq (ints_plain ns) hr
      subst hl'
      have hcells := hrun w fun _ => rfl
      have hload : (loadCells a m).run E.P w = .ok (ns.map (Value.int .u8)).toArray w := by
        have : (loadCells a (m * 1)).run E.P w = .ok ⟨ns.map (Value.int .u8)⟩ w := hcells
        rw [Nat.mul_one] at this; exact this
      refine ⟨.string ⟨⟨ns.map fun n => UInt8.ofNat n.toNat⟩⟩, w, μ, ?_, .plain _ rfl, hs, Grew.refl _ _ _ _ _⟩
      have h2 : (convert src dst (.slice (some a) m cap)).run E.P w = (Conv.bytesToString (.slice (some a) m cap)).run E.P w := by
        unfold convert
        simp only [Sem.run_bind, ok.run_und w hsd, ok.run_und w hdd, Result.andThen_ok, u8_some ok hu]
      rw [h2, run_bytesToString w a m cap ns hload, foldl_push_bytes]
      have he : ByteArray.empty.data = #[] := rfl
      rw [he]; simp

theorem does_range {t : TypeId} {x x' v : Value} (h : rangeA E t x s = some (v, s')) (hx : VRel μ x x') (hs : SRel base μ s.rows.get w) (hf : ∀ r, s.next ≤ r → r < s'.next → μ r = none) :
    Does E base μ w s s' (Instr.range t x') fun μ' b => VRel μ' v b := by
  unfold rangeA at h
  simp only [lift_bind, guard_bind, fresh_bind, pure_some, asStr_some] at h
  obtain ⟨d, hd, hst, t', rfl, hb, rfl, e2⟩ := h
  have : d = .string := by cases d <;> first | rfl | cases hst
  subst this
  have := hx.ofString; subst this
  have hn : μ s.next = none := hf s.next (Nat.le_refl _) (by rw [e2]; exact Nat.lt_succ_self _)
  have hbel : Below w.heap.size w (w.alloc (.stringIter t' 0)) := (Below.refl _ _).alloc (Nat.le_refl _) _
  let K : Place := ⟨w.heap.size, 0, 0, 0, 0⟩
  refine ⟨.pointer (some ⟨w.heap.size, 0, none⟩), w.alloc (.stringIter t' 0), μ.with s.next K, ?_, ?_, ?_, Mu.le_with hn _, fun r p q => ?_, fun _ a b => absurd a b, hbel.mono hs.ge⟩
  · unfold Instr.range
    simp only [Sem.run_bind, ok.run_und w hd, Result.andThen_ok, Sem.run_pure, run_newObj, World.alloc_eq]
  · have := VRel.ptr (μ := μ.with s.next K) s.next 0 K (Mu.with_at _ _ _)
    simpa using this
  · refine hs.extend s.next hn (.iter t' 0) K hbel (Nat.le_refl _) (by show w.heap.size < _; simp) ⟨hs.ge, rfl, ?_⟩ (fun r => ?_)
    · show (w.heap.push _)[w.heap.size]? = _; simp
    · rw [e2]; exact D.got _ _ _ _ hb
  · have : r = s.next := by
      rw [Mu.with_eq] at q
      by_cases h : r = s.next
      · exact h
      · rw [if_neg h] at q; exact absurd p q
    rw [e2]; show s.next ≤ r ∧ r < s.next + 1; omega

omit ok in
theorem does_next {x x' v : Value} {b : Bool} {ty : TypeId} (h : nextA x b s = some (v, s')) (hx : VRel μ x x') (hs : SRel base μ s.rows.get w) :
    Does E base μ w s s' (Instr.next x' b ty) fun μ' b => VRel μ' v b := by
  unfold nextA at h
  simp only [guard_bind, lift_bind, row_bind, asRef_some] at h
  obtain ⟨rfl, ⟨r, off⟩, rfl, ho, _, y, hy, ⟨t, pos⟩, hit, h⟩ := h
  simp only at ho hy h hx
  have := Nat.eq_of_beq_eq_true ho; subst this
  have hyr : y = .iter t pos := by
    cases y with
    | iter a b => simp only [asIter, Option.some.injEq, Prod.mk.injEq] at hit; rw [hit.1, hit.2]
    | _ => cases hit
  subst hyr
  obtain ⟨L, hL, rfl⟩ := hx.ofPtr
  obtain ⟨L2, hL2, hge, hzero, hobj⟩ := hs.row r _ hy
  rw [hL] at hL2; injection hL2 with hL2; subst hL2
  have hget : (getObj L.b).run E.P w = .ok (.stringIter t pos) w := run_getObj_some hobj (by intro _ _ _ h; cases h)
  cases hlt : Nat.blt pos t.size with
  | false =>
    rw [hlt, cond_false, pure_some] at h
    obtain ⟨rfl, rfl⟩ := h
    have hnlt : ¬ pos < t.size := by
      intro hh
      have : Nat.blt pos t.size = true := Nat.ble_eq_true_of_le hh
      rw [this] at hlt; cases hlt
    refine ⟨.tuple #[.bool false], w, μ, ?_, .plain _ rfl, hs, Grew.refl _ _ _ _ _⟩
    unfold Instr.next
    simp only [hzero, Nat.add_zero, Sem.run_bind, hget, Result.andThen_ok, hnlt, if_false, Sem.run_pure]
  | true =>
    rw [hlt, cond_true] at h
    have hpl : pos < t.size := Nat.le_of_ble_eq_true hlt
    rw [bind_some] at h
    obtain ⟨⟨⟩, s1, h1, h⟩ := h
    rw [turn_some] at h1
    rw [pure_some] at h
    obtain ⟨_, _, hbr, e1⟩ := h1
    obtain ⟨rfl, rfl⟩ := h
    have hLb : L.b < w.heap.size := hs.dom r _ L hy hL
    let w' : World := { w with heap := w.heap.setIfInBounds L.b (.stringIter t (pos + (Utf8.decode t pos).2)) }
    have hset : (setObj L.b (.stringIter t (pos + (Utf8.decode t pos).2))).run E.P w = .ok () w' := by
      simp only [setObj, Sem.run, hobj]; rfl
    have hb2 : ∀ b, b ≠ L.b → w'.heap[b]? = w.heap[b]? := by
      intro b hb
      show (w.heap.setIfInBounds L.b _)[b]? = _
      rw [Array.getElem?_setIfInBounds, if_neg (Ne.symm hb)]
    refine ⟨.tuple #[.bool true, goInt pos, .int .i32 (Utf8.decode t pos).1], w', μ, ?_, .plain _ rfl, ?_, Mu.le_refl _, fun _ a b => absurd a b, fun _ a b => absurd a b, ?_⟩
    · unfold Instr.next
      simp only [hzero, Nat.add_zero, Sem.run_bind, hget, Result.andThen_ok, hpl, if_true, hset, Sem.run_pure]
    · refine hs.turn r _ L hy rfl hL (by show (w.heap.setIfInBounds _ _).size = _; simp) hb2 (some (.iter t (pos + (Utf8.decode t pos).2))) (fun z hz => ?_) (fun q => ?_)
      · injection hz with hz; subst hz
        refine ⟨hge, hzero, ?_⟩
        show (w.heap.setIfInBounds L.b _)[L.b]? = _
        rw [Array.getElem?_setIfInBounds, if_pos rfl, if_pos hLb]
      · rw [e1]; exact D.got _ _ _ _ hbr
    · exact ⟨rfl, rfl, rfl, by show w.heap.size ≤ (w.heap.setIfInBounds _ _).size; simp, fun k hk => hb2 k (by omega)⟩
end
end Go.Cm
