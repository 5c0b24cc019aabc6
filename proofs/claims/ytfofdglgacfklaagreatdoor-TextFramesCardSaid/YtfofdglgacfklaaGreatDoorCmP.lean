/-
  Any operation, calls too.
-/
import Derived.Test.YtfofdglgacfklaaGreatDoorCmO
namespace Go.Cm
open Go Go.RowKit

def NextRel (μ : Mu) : Nx → Next → Prop
  | .value v, .value v' => VRel μ v v'
  | .skip, .skip => True
  | .enter f args, .enter g args' => f = g ∧ VRels μ args args'.toList
  | _, _ => False

def ExecSim (E : Env) (base : Nat) (μ : Mu) (w : World) (s s' : St) (e : Sem Next) : Nx → Prop
  | .known f _ v => (∃ args v', VRel μ v v' ∧ Known E.P f args v' w ∧ e.run E.P w = (callFunc f args).run E.P w) ∧ s'.rows = s.rows ∧ s'.next = s.next
  | nx => Does E base μ w s s' e fun μ' b => NextRel μ' nx b

section
variable {E : Env} (ok : E.Ok) {base : Nat} {μ : Mu} {w : World} {s s' : St}

theorem sim_value {e : Sem Value} {m : M Value} {nx : Nx} (h : asV m s = some (nx, s')) (hd : ∀ v, m s = some (v, s') → Does E base μ w s s' e fun μ' b => VRel μ' v b) :
    ExecSim E base μ w s s' (do pure (.value (← e))) nx := by
  unfold asV at h
  rw [bind_some] at h
  obtain ⟨v, s1, h1, h2⟩ := h
  rw [pure_some] at h2
  obtain ⟨rfl, rfl⟩ := h2
  obtain ⟨b, w', μ', hr, hv, a, c⟩ := hd v h1
  exact ⟨.value b, w', μ', by simp only [Sem.run_bind, hr, Result.andThen_ok, Sem.run_pure], hv, a, c⟩

theorem sim_unit {e : Sem Unit} {m : M Unit} {nx : Nx} (h : asU m s = some (nx, s')) (hd : m s = some ((), s') → Does E base μ w s s' e fun _ _ => True) :
    ExecSim E base μ w s s' (do e; pure .skip) nx := by
  unfold asU at h
  rw [bind_some] at h
  obtain ⟨⟨⟩, s1, h1, h2⟩ := h
  rw [pure_some] at h2
  obtain ⟨rfl, rfl⟩ := h2
  obtain ⟨b, w', μ', hr, hv, a, c⟩ := hd h1
  exact ⟨.skip, w', μ', by simp only [Sem.run_bind, hr, Result.andThen_ok, Sem.run_pure], trivial, a, c⟩

theorem args_one {x : Value} {args' : Array Value} (hv : VRels μ [x] args'.toList) : ∃ x', args' = #[x'] ∧ VRel μ x x' := by
  obtain ⟨l⟩ := args'
  cases hv with
  | cons _ x' _ l' h hl => cases hl; exact ⟨x', rfl, h⟩
theorem args_two {x y : Value} {args' : Array Value} (hv : VRels μ [x, y] args'.toList) : ∃ x' y', args' = #[x', y'] ∧ VRel μ x x' ∧ VRel μ y y' := by
  obtain ⟨l⟩ := args'
  cases hv with
  | cons _ x' _ l' h hl => cases hl with | cons _ y' _ l'' h2 hl2 => cases hl2; exact ⟨x', y', rfl, h, h2⟩
theorem does_sliceData {ts : Array TypeId} {ty : TypeId} {args : List Value} {args' : Array Value} {v : Value} (h : sliceDataA args = some v) (hv : VRels μ args args'.toList) (hs : SRel base μ s.rows.get w) :
    Does E base μ w s s (Builtin.unsafeSliceData_ ts ty args') fun μ' b => VRel μ' v b := by
  unfold sliceDataA at h
  split at h
  · rename_i n c
    injection h with h; subst h
    obtain ⟨x', rfl, hx⟩ := args_one hv
    have := hx.eq rfl; subst this
    exact ⟨_, w, μ, Lib.run_unsafeSliceData_nil w _ _ _ _, .plain _ rfl, hs, Grew.refl _ _ _ _ _⟩
  · rename_i a n c
    injection h with h; subst h
    obtain ⟨x', rfl, hx⟩ := args_one hv
    rcases hx.ofSlice with ⟨L, hsp, hL, rfl⟩ | ⟨L, c2, hsp, hL, hc2, hx2, rfl⟩ | ⟨a2, h0, h1, e1⟩
    · exact ⟨_, w, μ, Lib.run_unsafeSliceData_row w _ _ _ _ _ (by omega), .ptr _ _ L hL, hs, Grew.refl _ _ _ _ _⟩
    · exact ⟨_, w, μ, Lib.run_unsafeSliceData_row w _ _ _ _ _ (by omega), .ptr _ _ L hL, hs, Grew.refl _ _ _ _ _⟩
    · omega
  · cases h
/-- Freezing: the cells stay what they are. -/
theorem freeze_at {w : World} {b : Nat} {c : Array Value} {e : TypeId} {fr : Nat × Nat} (hat : w.heap[b]? = some (.cells c e fr)) (o n : Nat) :
    (w.freeze ⟨b, o, none⟩ n).heap.size = w.heap.size ∧ (∀ q, q ≠ b → (w.freeze ⟨b, o, none⟩ n).heap[q]? = w.heap[q]?) ∧ (∀ j, (w.freeze ⟨b, o, none⟩ n).cell? ⟨b, j, none⟩ = w.cell? ⟨b, j, none⟩) ∧
      (w.freeze ⟨b, o, none⟩ n).os = w.os ∧ (w.freeze ⟨b, o, none⟩ n).tape = w.tape ∧ (w.freeze ⟨b, o, none⟩ n).output = w.output := by
  unfold World.freeze
  by_cases hn : n = 0
  · rw [if_pos hn]; exact ⟨rfl, fun _ _ => rfl, fun _ => rfl, rfl, rfl, rfl⟩
  · rw [if_neg hn]
    refine ⟨by simp, fun q hq => ?_, fun j => ?_, rfl, rfl, rfl⟩
    · simp only [Array.getElem?_modify]; rw [if_neg (fun e => hq e.symm)]
    · unfold World.cell?
      simp only [Array.getElem?_modify, if_true, hat, Option.map_some]
theorem run_loadB {P : Program} (w : World) : ∀ (l : List Int) (a : Addr) (acc : ByteArray), (∀ j x, l[j]? = some x → w.cell? (a.add j) = some (.int .u8 x)) →
    (loadBytes a acc l.length).run P w = .ok ⟨acc.data ++ (l.map fun n => UInt8.ofNat n.toNat).toArray⟩ w
  | [], a, acc, _ => by simp [loadBytes]
  | x :: l, a, acc, h => by
    have h0 : w.cell? a = some (.int .u8 x) := by
      have := h 0 x rfl
      simpa [Addr.add] using this
    have ih := run_loadB (P := P) w l (a.add 1) (acc.push (UInt8.ofNat x.toNat)) (fun j y hy => by
      have := h (j + 1) y (by simpa using hy)
      have e : (a.add 1).add j = a.add (j + 1) := by
        unfold Addr.add
        by_cases hj : j = 0
        · subst hj; simp
        · simp [hj]; omega
      rw [e]; exact this)
    simp only [List.length_cons, loadBytes, Sem.run_bind, run_load, h0, Result.andThen]
    show (loadBytes (a.add 1) (acc.push (UInt8.ofNat x.toNat)) l.length).run P w = _
    rw [ih]
    congr 1
    apply ByteArray.ext
    simp [ByteArray.push]
include ok in
theorem does_stringAt {t : TypeId} {ts : Array TypeId} {ty : TypeId} {a : Addr} {n : Nat} {x' y' v : Value} (h0 : n ≠ 0) (h : stringAt E t a n s = some (v, s')) (ht : ts[0]? = some t) (hx : VRel μ (.pointer (some a)) x') (hy : VRel μ (.int .i64 (.ofNat n)) y') (hs : SRel base μ s.rows.get w) (hsy : μ.sy = E.sy) :
    Does E base μ w s s' (Builtin.unsafeString_ ts ty #[x', y']) fun μ' b => VRel μ' v b := by
  have := hy.eq rfl; subst this
  unfold stringAt at h
  simp only [lift_bind, row_bind, guard_bind, ownR_some, Option.bind_eq_some_iff, Bool.and_eq_true] at h
  obtain ⟨e, ⟨d, hd, hpt⟩, _, hu8, i, hi, _, x, hrow, ec, rfl, ⟨⟨⟨⟨h1, h2⟩, h3⟩, h4⟩, h5⟩, l, hl, v0, hv0, h⟩ := h
  rw [bind_some] at h
  obtain ⟨⟨⟩, s1, ht1, h⟩ := h
  rw [turn_some] at ht1
  obtain ⟨_, _, hble, e1⟩ := ht1
  rw [pure_some] at h
  obtain ⟨rfl, rfl⟩ := h
  have hd' : d = .pointer e := by
    unfold pointerT at hpt
    split at hpt
    · injection hpt with hpt; subst hpt; rfl
    · cases hpt
  subst hd'
  obtain ⟨r, off, sp⟩ := a
  have e3 : sp = none := by cases sp <;> first | rfl | cases h4
  subst e3
  have e4 := Nat.eq_of_beq_eq_true h3
  simp only at e4
  subst e4
  obtain ⟨L, hL, rfl⟩ := hx.ofPtr
  obtain ⟨hge, hz, hes, hlt, c, e', fr, hat, hsz, hext, hty, hc⟩ := own_at (s := s) hs hrow hL
  have h1' := Nat.eq_of_beq_eq_true h1
  have h2' := Nat.eq_of_beq_eq_true h2
  have h5' := blt_lt h5
  rw [hes] at h1'
  obtain ⟨_, g2⟩ := codeE_inj hz.2 (by unfold tagT; omega) h1'
  have he : e' = e := by
    rcases hty with k | k
    · rw [g2] at k; cases k
    · rw [g2] at k; exact (Nat.succ.inj k).symm
  subst he
  have hcell : E.P.cellsOf e' = 1 := by simp [Program.cellsOf, ok.info _ _ hi, h2']
  obtain ⟨hl1, hl2⟩ := piece_some hl
  have hlen : n ≤ ec.2.length := by
    rw [← hl2, hl1]; simp only [List.length_take, List.length_drop]; omega
  -- the cells, as the model has them
  have hcs : ∃ l', VRels μ l l' ∧ ∀ (j : Nat) (u : Value), l'[j]? = some u → w.cell? ((⟨L.b, L.o + 0, none⟩ : Addr).add j) = some u := by
    refine ⟨(List.range l.length).map fun j => (w.cell? ⟨L.b, L.o + j, none⟩).getD undef, VRels.of_get _ _ (by simp) fun j u hu => ?_, fun j u hu => ?_⟩
    · have hj : j < l.length := by
        rcases Nat.lt_or_ge j l.length with k | k
        · exact k
        · rw [List.getElem?_eq_none k] at hu; cases hu
      have hu2 : ec.2[j]? = some u := by
        rw [hl1, List.getElem?_take, List.getElem?_drop] at hu
        split at hu
        · simpa using hu
        · cases hu
      obtain ⟨u', k1, k2⟩ := hc j _ hu2
      exact ⟨u', by simp [hj, k1], k2⟩
    · rw [List.getElem?_map, Option.map_eq_some_iff] at hu
      obtain ⟨i, hi, rfl⟩ := hu
      have hij : j < l.length ∧ i = j := by
        rcases Nat.lt_or_ge j l.length with k | k
        · rw [List.getElem?_range k] at hi; injection hi with hi; exact ⟨k, hi.symm⟩
        · rw [List.getElem?_eq_none (by simpa using k)] at hi; cases hi
      obtain ⟨hj, rfl⟩ := hij
      obtain ⟨x0, hx0⟩ : ∃ x0, l[i]? = some x0 := ⟨l[i], List.getElem?_eq_getElem hj⟩
      have hu2 : ec.2[i]? = some x0 := by
        rw [hl1, List.getElem?_take, List.getElem?_drop] at hx0
        split at hx0
        · simpa using hx0
        · cases hx0
      obtain ⟨u', k1, _⟩ := hc i _ hu2
      rw [addr_add, Nat.add_zero, k1]; rfl
  obtain ⟨l', hll, hcell'⟩ := hcs
  obtain ⟨ns, hns, htv⟩ : ∃ ns : List Int, l' = ns.map (Value.int .u8) ∧ TokV E.sy v (.string ⟨⟨ns.map fun n => UInt8.ofNat n.toNat⟩⟩) := by
    unfold textB at hv0
    cases hbb : bytesBack l with
    | some b =>
      rw [hbb] at hv0
      injection hv0 with hv0; subst hv0
      obtain ⟨ns, rfl, rfl⟩ := bytesBack_spec _ _ hbb
      have := VRels.eq (ints_plain ns) hll
      subst this
      exact ⟨ns, rfl, Or.inl ⟨rfl, rfl⟩⟩
    | none =>
      rw [hbb] at hv0
      exact ok.askB μ l l' v hv0 hsy hll
  have hnl : ns.length = n := by rw [← hl2, ← hll.length, hns, List.length_map]
  have hget : ∀ (j : Nat) (x : Int), ns[j]? = some x → w.cell? ((⟨L.b, L.o + 0, none⟩ : Addr).add j) = some (.int .u8 x) := by
    intro j x hj
    exact hcell' j _ (by rw [hns, List.getElem?_map, hj]; rfl)
  have hsh : w.shape? L.b = some (e', c.size) := by unfold World.shape?; rw [hat]
  have hload := run_loadB (P := E.P) w ns ⟨L.b, L.o + 0, none⟩ .empty hget
  have hlies : liesAt E.P E.P.depth e' (c.size / E.P.cellsOf e') (L.o + 0) e' n = true :=
    liesAt_off (by omega) _ _ _ (by rw [hcell]; exact Nat.mod_one _) (by rw [hcell, Nat.div_one, Nat.div_one]; omega)
  obtain ⟨f1, f2, f3, f4, f5, f6⟩ := freeze_at hat (L.o + 0) n
  refine ⟨.string ⟨⟨ns.map fun n => UInt8.ofNat n.toNat⟩⟩, w.freeze ⟨L.b, L.o + 0, none⟩ n, μ, ?_, (hsy ▸ htv : TokV μ.sy v _).rel, ?_, Mu.le_refl _, fun _ a b => absurd a b, fun _ a b => absurd a b, Lib.below_freeze (Below.refl base w) hge n⟩
  · have hpos : ¬ (Int.ofNat n < 0) := by simp
    have hmax : ¬ (IntKind.i64.max < Int.ofNat n) := by
      have : IntKind.i64.max = 9223372036854775807 := rfl
      rw [this]; unfold two63 at h5'; simp only [Int.ofNat_eq_natCast]; omega
    have hne : ¬ (Int.ofNat n = 0) := by simp only [Int.ofNat_eq_natCast]; omega
    have ha : (asInt (.int .i64 (Int.ofNat n))).run E.P w = .ok (Int.ofNat n) w := rfl
    have hdef : Builtin.unsafeString_ ts ty #[.pointer (some ⟨L.b, L.o + 0, none⟩), .int .i64 (Int.ofNat n)] =
        (do
          let n ← asInt (.int .i64 (Int.ofNat n))
          let some pt := ts[0]? | stuck "unsafe.String: no argument types"
          if n < 0 then runtimePanic (.error "unsafe.String: len out of range")
          if n > IntKind.i64.max then unsupported (.unsafePointer "String: a length above the largest int")
          if n = 0 then pure (.string .empty)
          else if ← variablesAt ⟨L.b, L.o + 0, none⟩ (← elemOf pt) n.toNat then do
            let s ← loadBytes ⟨L.b, L.o + 0, none⟩ .empty n.toNat
            freeze ⟨L.b, L.o + 0, none⟩ n.toNat
            pure (.string s)
          else unsupported (.unsafePointer "String: not so many bytes at ptr")) := rfl
    rw [hdef, ht]
    have htn : (Int.ofNat n).toNat = n := rfl
    simp only [Sem.run_bind, ha, Result.andThen_ok, hpos, hmax, hne, if_false, gt_iff_lt, Sem.run_pure, variablesAt, run_program, run_shape, hsh, elemOf, ok.run_und w hd, htn, hlies, if_true]
    rw [← hnl]
    simp only [hload, Result.andThen_ok, run_freeze]
    simp
  · refine hs.turn r (.cells false ec.1 ec.2) L hrow rfl hL f1 f2 (some (.cells true ec.1 ec.2)) (fun z hz => ?_) (fun q => by rw [e1]; exact D.got _ _ _ _ hble)
    injection hz with hz; subst hz
    exact ⟨fun i v hv => by rw [f3]; exact hc i v hv, hext, fun hro => by cases hro⟩
include ok in
theorem does_unsafeString {ts : Array TypeId} {ty : TypeId} {args : List Value} {args' : Array Value} {v : Value} (h : unsafeStringA E ts.toList args s = some (v, s')) (hv : VRels μ args args'.toList) (hs : SRel base μ s.rows.get w) (hsy : μ.sy = E.sy) :
    Does E base μ w s s' (Builtin.unsafeString_ ts ty args') fun μ' b => VRel μ' v b := by
  unfold unsafeStringA at h
  split at h
  · rename_i a n
    obtain ⟨x', y', rfl, hx, hy⟩ := args_two hv
    cases htl : ts.toList with
    | nil => rw [htl] at h; have h : (M.fail : M Value) s = some (v, s') := h; rw [fail_some] at h; exact h.elim
    | cons t l =>
      rw [htl] at h
      have h : stringAt E t a (n + 1) s = some (v, s') := h
      exact does_stringAt ok (by omega) h (by rw [← Array.getElem?_toList, htl]; rfl) hx hy hs hsy
  · obtain ⟨x', y', rfl, hx, hy⟩ := args_two hv
    have := hx.eq rfl; subst this
    have := hy.eq rfl; subst this
    cases htl : ts.toList with
    | nil => rw [htl] at h; have h : (M.fail : M Value) s = some (v, s') := h; rw [fail_some] at h; exact h.elim
    | cons t l =>
      rw [htl] at h
      have h : (M.pure (.string .empty) : M Value) s = some (v, s') := h
      rw [pure_some] at h
      obtain ⟨rfl, rfl⟩ := h
      refine ⟨_, w, μ, ?_, .plain _ rfl, hs, Grew.refl _ _ _ _ _⟩
      have h0 : ts[0]? = some t := by rw [← Array.getElem?_toList, htl]; rfl
      have hdef : Builtin.unsafeString_ ts ty #[.pointer none, .int .i64 (Int.ofNat 0)] =
          (do
            let n ← asInt (.int .i64 (Int.ofNat 0))
            let some pt := ts[0]? | stuck "unsafe.String: no argument types"
            if n < 0 then runtimePanic (.error "unsafe.String: len out of range")
            if n > IntKind.i64.max then unsupported (.unsafePointer "String: a length above the largest int")
            if n = 0 then pure (.string .empty)
            else runtimePanic (.error "unsafe.String: ptr is nil and len is not zero")) := rfl
      rw [hdef, h0]
      rfl
  · rw [fail_some] at h; exact h.elim

theorem one_some {f : TypeId → Value → M Value} {ts : List TypeId} {args : List Value} {p : Value × St} (h : one f ts args s = some p) : ∃ t x, ts[0]? = some t ∧ args[0]? = some x ∧ f t x s = some p := by
  unfold one at h
  split at h
  · split at h
    · exact ⟨_, _, rfl, rfl, h⟩
    · rw [fail_some] at h; exact h.elim
  · rw [fail_some] at h; exact h.elim
theorem two_some {f : TypeId → TypeId → Value → Value → M Value} {ts : List TypeId} {args : List Value} {p : Value × St} (h : two f ts args s = some p) :
    ∃ t u x y, ts[0]? = some t ∧ ts[1]? = some u ∧ args[0]? = some x ∧ args[1]? = some y ∧ f t u x y s = some p := by
  unfold two at h
  split at h
  · split at h
    · exact ⟨_, _, _, _, rfl, rfl, rfl, rfl, h⟩
    · rw [fail_some] at h; exact h.elim
  · rw [fail_some] at h; exact h.elim

include ok
theorem sim_builtin {b : Builtin} {ts : Array TypeId} {ty : TypeId} {consts : Array Bool} {args : List Value} {args' : Array Value} {nx : Nx} (h : asV (builtinA E b ts ty args) s = some (nx, s')) (hv : VRels μ args args'.toList)
    (hs : SRel base μ s.rows.get w) (hf : ∀ r, s.next ≤ r → r < s'.next → μ r = none) (hsy : μ.sy = E.sy) : ExecSim E base μ w s s' (builtin b ts ty consts args') nx := by
  have arg : ∀ (i : Nat) (x : Value), args[i]? = some x → ∃ x', args'[i]? = some x' ∧ VRel μ x x' := by
    intro i x hx
    obtain ⟨x', h1, h2⟩ := hv.get i x hx
    exact ⟨x', by rwa [Array.getElem?_toList] at h1, h2⟩
  have pl : ∀ v, Does E base μ w s s' (pure v) (fun μ' b => VRel μ' v b) → True := fun _ _ => trivial
  clear pl
  unfold builtin
  cases b <;> (try (unfold asV builtinA at h; rw [bind_some] at h; obtain ⟨_, _, h, _⟩ := h; rw [fail_some] at h; exact h.elim)) <;> simp only
  · refine sim_value h fun v h => ?_
    obtain ⟨t, u, x, y, h1, h2, h3, h4, h5⟩ := two_some h
    obtain ⟨x', a1, a2⟩ := arg 0 x h3
    obtain ⟨y', b1, b2⟩ := arg 1 y h4
    exact does_append ok h5 (by rwa [Array.getElem?_toList] at h1) (by rwa [Array.getElem?_toList] at h2) a1 b1 a2 b2 hs hf hsy
  · refine sim_value h fun v h => ?_
    obtain ⟨t, x, h1, h2, h3⟩ := one_some h
    obtain ⟨x', a1, a2⟩ := arg 0 x h2
    obtain ⟨hc, rfl⟩ := lift_some.1 h3
    obtain ⟨v', hr, hvr⟩ := does_cap ok (w := w) (ty := ty) hc (by rwa [Array.getElem?_toList] at h1) a1 a2
    exact ⟨v', w, μ, hr, hvr, hs, Grew.refl _ _ _ _ _⟩
  · refine sim_value h fun v h => ?_
    obtain ⟨t, x, h1, h2, h3⟩ := one_some h
    obtain ⟨x', a1, a2⟩ := arg 0 x h2
    exact does_clear ok h3 (by rwa [Array.getElem?_toList] at h1) a1 a2 hs
  · refine sim_value h fun v h => ?_
    obtain ⟨t, u, x, y, h1, h2, h3, h4, h5⟩ := two_some h
    obtain ⟨x', a1, a2⟩ := arg 0 x h3
    obtain ⟨y', b1, b2⟩ := arg 1 y h4
    exact does_copy ok h5 (by rwa [Array.getElem?_toList] at h1) a1 b1 a2 b2 hs
  · refine sim_value h fun v h => ?_
    obtain ⟨t, u, x, y, h1, h2, h3, h4, h5⟩ := two_some h
    obtain ⟨x', a1, a2⟩ := arg 0 x h3
    obtain ⟨y', b1, b2⟩ := arg 1 y h4
    exact does_delete ok h5 (by rwa [Array.getElem?_toList] at h1) a1 b1 a2 b2 hs
  · refine sim_value h fun v h => ?_
    obtain ⟨t, x, h1, h2, h3⟩ := one_some h
    obtain ⟨x', a1, a2⟩ := arg 0 x h2
    exact does_len ok h3 (by rwa [Array.getElem?_toList] at h1) a1 a2 hs hsy
  · refine sim_value h fun v h => ?_
    simp only [builtinA, guard_bind, lift_some, plainly_some] at h
    obtain ⟨hp, ⟨h1, h2⟩, rfl⟩ := h
    have := VRels.eq hp hv
    have he : args' = ⟨args⟩ := by cases args'; simp at this; rw [this]
    subst he
    exact ⟨v, w, μ, pureRun_ok _ _ h1 w, .plain v h2, hs, Grew.refl _ _ _ _ _⟩
  · refine sim_value h fun v h => ?_
    simp only [builtinA, guard_bind, lift_some, plainly_some] at h
    obtain ⟨hp, ⟨h1, h2⟩, rfl⟩ := h
    have := VRels.eq hp hv
    have he : args' = ⟨args⟩ := by cases args'; simp at this; rw [this]
    subst he
    exact ⟨v, w, μ, pureRun_ok _ _ h1 w, .plain v h2, hs, Grew.refl _ _ _ _ _⟩
  · refine sim_value h fun v h => ?_
    obtain ⟨hv1, rfl⟩ := lift_some.1 h
    exact does_sliceData hv1 hv hs
  · refine sim_value h fun v h => ?_
    exact does_unsafeString ok h hv hs hsy

theorem sim_call {f : FuncId} {args : List Value} {args' : Array Value} {nx : Nx} (h : callA E f args s = some (nx, s')) (hv : VRels μ args args'.toList) (hs : SRel base μ s.rows.get w) (hsy : μ.sy = E.sy) :
    ExecSim E base μ w s s' (callFunc f args') nx := by
  unfold callA at h
  cases he : E.ext f with
  | some e =>
    simp only [he, guard_bind, lift_bind, pure_some] at h
    obtain ⟨hp, v, hv2, rfl, rfl⟩ := h
    have := VRels.eq hp hv
    have ha : args' = ⟨args⟩ := by cases args'; simp at this; rw [this]
    subst ha
    obtain ⟨h1, h2⟩ := ok.ext f e args v he hp hv2
    exact ⟨⟨_, v, .plain _ h1, h2 w, rfl⟩, rfl, rfl⟩
  | none =>
    simp only [he] at h
    cases hk : (E.kt f).bind (fun e => e args) with
    | some v =>
      simp only [hk, pure_some] at h
      obtain ⟨rfl, rfl⟩ := h
      rw [Option.bind_eq_some_iff] at hk
      obtain ⟨e, he1, he2⟩ := hk
      obtain ⟨v', h1, h2⟩ := ok.kt f e args v μ args' w he1 he2 hsy hs.cold hv
      exact ⟨⟨_, v', h1, h2, rfl⟩, rfl, rfl⟩
    | none =>
    simp only [hk, lift_bind, pure_some] at h
    obtain ⟨fn, hfn, rfl, rfl⟩ := h
    obtain ⟨h1, h2, h3⟩ := ok.fn f fn hfn
    refine ⟨.enter f args', w, μ, ?_, ⟨rfl, hv⟩, hs, Grew.refl _ _ _ _ _⟩
    unfold callFunc
    have hname : (fn.name == "runtime.NumGoroutine") = false := by simpa using h2
    have hbody : fn.body.isNone = false := by cases hb : fn.body <;> simp_all
    simp only [Sem.run_bind, run_program, Result.andThen_ok, h1, hname, Bool.false_eq_true, if_false, hbody, Sem.run_pure]

theorem does_exec {ρ ρ' : Operand → Value} {o : Oper} {nx : Nx} (h : execA E ρ o s = some (nx, s')) (hρ : ∀ x ∈ o.op.operands, VRel μ (ρ x) (ρ' x)) (hs : SRel base μ s.rows.get w) (hf : ∀ r, s.next ≤ r → r < s'.next → μ r = none) (hsy : μ.sy = E.sy) (hez : ∀ b o, E.fz b = some o → μ.fz b = some o) :
    ExecSim E base μ w s s' (execOp ρ' o) nx := by
  have other : (asV (M.lift (valueA E ρ o.op)) : M Nx) s = some (nx, s') → ExecSim E base μ w s s' (execOp ρ' o) nx := by
    intro h
    unfold asV at h
    simp only [lift_bind, pure_some] at h
    obtain ⟨v, hv, rfl, rfl⟩ := h
    obtain ⟨v', hr, hv'⟩ := does_value ok (w := w) hv hρ hsy
    exact ⟨.value v', w, μ, hr, hv', hs, Grew.refl _ _ _ _ _⟩
  obtain ⟨dst, op, ty, pos, after, guard⟩ := o
  simp only at hρ other
  unfold execA at h
  unfold execOp at other ⊢
  simp only at h other ⊢
  cases op
  case alloc t =>
    exact sim_value h fun v h => does_alloc ok h hs hf
  case box t x =>
    simp only at h
    cases hj : isJunk (ρ x) with
    | true => rw [hj, cond_true, fail_some] at h; exact h.elim
    | false =>
      rw [hj, cond_false] at h
      exact sim_value h fun v h => does_box hj h (hρ x (by simp [Op.operands])) hs hf
  case buildSlice t len ps =>
    refine sim_value h fun v h => does_buildSlice ok h ?_ hs hf
    rw [Array.toList_map]
    exact prels_of ps.toList fun p hp => hρ p.2 (by simp only [Op.operands, List.mem_toArray, List.mem_map]; exact ⟨p, hp, rfl⟩)
  case load t a =>
    exact sim_value h fun v h => does_load ok h (hρ a (by simp [Op.operands])) hs
  case store t a x =>
    exact sim_unit h fun h => does_store ok h (hρ a (by simp [Op.operands])) (hρ x (by simp [Op.operands])) hs
  case lookup t x i c =>
    exact sim_value h fun v h => does_lookup ok h (hρ x (by simp [Op.operands])) (hρ i (by simp [Op.operands])) hs
  case mapUpdate t m k v =>
    exact sim_unit h fun h => does_update ok h (hρ m (by simp [Op.operands])) (hρ k (by simp [Op.operands])) (hρ v (by simp [Op.operands])) hs
  case makeMap t r =>
    cases r with
    | none => exact sim_value h fun v h => does_makeMap h hs hf
    | some r => exact other h
  case convert a d x =>
    exact sim_value h fun v h => does_convert ok h (hρ x (by simp [Op.operands])) hs hf hsy hez
  case makeSlice t l c =>
    refine sim_value h fun v h => ?_
    have h' := h
    unfold makeSliceA at h'
    simp only [lift_bind] at h'
    obtain ⟨e, _, i, _, m, hm, n, hn, _⟩ := h'
    obtain ⟨k1, hk1⟩ := idx_some.1 hm
    obtain ⟨k2, hk2⟩ := idx_some.1 hn
    have e1 := hρ l (by simp [Op.operands])
    have e2 := hρ c (by simp [Op.operands])
    rw [hk1] at e1; rw [hk2] at e2
    rw [e1.ofInt, e2.ofInt]
    rw [hk1, hk2] at h
    exact does_makeSlice ok h hs hf
  case range t x =>
    exact sim_value h fun v h => does_range ok h (hρ x (by simp [Op.operands])) hs hf
  case next it b =>
    exact sim_value h fun v h => does_next h (hρ it (by simp [Op.operands])) hs
  case call c =>
    unfold opCallA at h
    have hargs : VRels μ (c.args.toList.map ρ) (c.args.map ρ').toList := by
      rw [Array.toList_map]
      exact vrels_of _ fun x hx => hρ x (by simp only [Op.operands, Call.operands, Array.mem_append]; exact Or.inr (Array.mem_toList_iff.1 hx))
    cases hb : c.callee with
    | builtin b =>
      simp only [hb] at h
      have hres : resolve ρ' c ty = pure { target := .builtin b c.argTypes ty (c.args.map fun | .const _ => true | _ => false), args := c.args.map ρ' } := by
        unfold resolve; rw [hb]; rfl
      show ExecSim E base μ w s s' (do let d ← resolve ρ' c ty; invoke d.target d.args) nx
      rw [hres]
      exact sim_builtin ok h hargs hs hf hsy
    | value f =>
      simp only [hb, lift_bind] at h
      obtain ⟨⟨g, first, captured⟩, hg, h⟩ := h
      have hfv := hρ f (by simp only [Op.operands, Call.operands, hb, Array.mem_append]; exact Or.inl (by simp))
      have : ∃ a c2, ρ f = .func (.func g) a c2 ∧ first = a.toList ∧ captured = c2.toList := by
        unfold asFunc at hg
        split at hg
        · rename_i g' a c2 he
          simp only [Option.some.injEq, Prod.mk.injEq] at hg
          obtain ⟨rfl, rfl, rfl⟩ := hg
          exact ⟨a, c2, he, rfl, rfl⟩
        · cases hg
      obtain ⟨a, c2, he, rfl, rfl⟩ := this
      rw [he] at hfv
      obtain ⟨a', c', hfv', ha, hc⟩ := hfv.ofFunc
      have hall : VRels μ (a.toList ++ (c.args.toList.map ρ ++ c2.toList)) ((a' ++ c.args.map ρ') ++ c').toList := by
        simp only [Array.toList_append, List.append_assoc]
        exact ha.append (hargs.append hc)
      have hres : resolve ρ' c ty = pure { target := .fn (.func g) c', args := a' ++ c.args.map ρ' } := by
        unfold resolve; rw [hb]; simp only; rw [hfv']; rfl
      show ExecSim E base μ w s s' (do let d ← resolve ρ' c ty; invoke d.target d.args) nx
      rw [hres]
      exact sim_call ok h hall hs hsy
    | invoke r n => simp only [hb] at h; rw [fail_some] at h; exact h.elim
  all_goals exact other h
end
end Go.Cm
