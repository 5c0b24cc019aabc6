/-
  The operations on memory: what the machine does, the model does.
-/
import Derived.Test.YtfofdglgacfklaaGreatDoorCmE
namespace Go.Cm
open Go Go.RowKit

/-- A call of which is known beforehand what it answers, and that of what there was nothing turns. -/
def Known (P : Program) (f : FuncId) (args : Array Value) (v : Value) (w : World) : Prop :=
  (∃ w', (callFunc f args).run P w = .ok (.value v) w' ∧ Below w.heap.size w w') ∨
  ((callFunc f args).run P w = .ok (.enter f args) w ∧ Calls P f args w fun e w' => e = .returned v ∧ Below w.heap.size w w')

/-- What comes of a call of cold things: a value, with rows of its own; all else that it shows is cold. -/
structure DeepRes (fz : Nat → Option Obj) (w w' : World) (μ : Mu) (v v' : Value) (rows : List (Nat × List Value)) : Prop where
  le : ∀ b o, fz b = some o → μ.fz b = some o
  new : ∀ b, fz b = none → μ.fz b ≠ none → w.heap.size ≤ b
  below : Below w.heap.size w w'
  rel : VRel μ v v'
  srel : SRel w.heap.size μ (fun k => (rows[k]?).map fun r => .cells false r.1 r.2) w'
  dom : ∀ k L, μ k = some L → k < rows.length
def DeepOk (P : Program) (f : FuncId) (ds : List Value) (v : Value) (rows : List (Nat × List Value)) : Prop :=
  ∀ (fz : Nat → Option Obj) (w : World) (args' : Array Value), (∀ b o, fz b = some o → w.heap[b]? = some o) → Colds fz ds args'.toList →
    Calls P f args' w fun e w' => ∃ v' μ, e = .returned v' ∧ DeepRes fz w w' μ v v' rows

/-- What a plain value, or a token, stands for. -/
def TokV (sy : Nat → Value → Prop) (v v' : Value) : Prop := (plain v = true ∧ v' = v) ∨ ∃ c, 3802951800684688204490109616128 ≤ c ∧ tokB v' = true ∧ v = .chan (some c) ∧ sy c v'
theorem TokV.rel {μ : Mu} {v v' : Value} (h : TokV μ.sy v v') : VRel μ v v' := by
  rcases h with ⟨hp, rfl⟩ | ⟨c, hc, ho, rfl, h⟩
  · exact .plain _ hp
  · exact .tok c v' hc ho h
theorem isTok_some {v : Value} (h : isTok v = true) : ∃ c, 3802951800684688204490109616128 ≤ c ∧ v = .chan (some c) := by
  unfold isTok at h
  split at h
  · exact ⟨_, Nat.le_of_ble_eq_true h, rfl⟩
  · cases h
theorem TokV.of {μ : Mu} {v v' : Value} (h : VRel μ v v') (ht : tokish v = true) : TokV μ.sy v v' := by
  unfold tokish at ht
  cases hb : isTok v with
  | true =>
    obtain ⟨c, hc, rfl⟩ := isTok_some hb
    right
    cases h with
    | plain _ hp => simp [Cm.plain, plainN] at hp
    | sym _ n hs => have := hs.1; omega
    | tok _ _ _ ho hs => exact ⟨c, hc, ho, rfl, hs⟩
  | false =>
    rw [hb, cond_false] at ht
    exact Or.inl ⟨ht, h.eq ht⟩

/-- What 'f' answers where it is handed the closure 'g' over a cell that holds a map of whole numbers: the keys, sorted, in new memory. -/
def SkOk (P : Program) (f g : FuncId) : Prop := ∀ (w : World) (bp b : Nat) (es : List MapEntry) (clock : Nat) (ks : List Int), w.cell? ⟨bp, 0, none⟩ = some (.map (some b)) → w.heap[b]? = some (.map ⟨es⟩ clock) →
  es.map (·.key) = ks.map (Value.int .i64) → (∀ n, n ∈ ks → -9223372036854775808 ≤ n ∧ n ≤ 9223372036854775807) → ks.Nodup → (es.map (·.born)).Nodup → (∀ x, x ∈ es → x.born < clock) → ks.length ≤ 1000 →
  Calls P f #[.func (.func g) #[] #[.pointer (some ⟨bp, 0, none⟩)]] w fun e w' => ∃ v ss, e = .returned v ∧ Below w.heap.size w w' ∧ ss.Perm ks ∧ ss.Pairwise (· ≤ ·) ∧ ((ss = [] ∧ v = .slice none 0 0) ∨
    ∃ blk cap cur t, ss ≠ [] ∧ v = .slice (some ⟨blk, 0, none⟩) ss.length cap ∧ w.heap.size ≤ blk ∧ w'.heap[blk]? = some (.cells cur t (0, 0)) ∧ ss.length ≤ cap ∧ cur.size = cap ∧ cur.toList.take ss.length = ss.map (Value.int .i64))

/-- An argument that is a slice of these values. -/
def SliceAt (μ : Mu) (w : World) (size : Nat) (l : List Value) (x' : Value) : Prop :=
  ∃ (a' : Option Addr) (n c : Nat) (l' : List Value), x' = .slice a' n c ∧ VRels μ l l' ∧ l'.length = n * size ∧ (n ≠ 0 → ∃ b off, a' = some ⟨b, off, none⟩ ∧ ∀ (j : Nat) (u : Value), l'[j]? = some u → w.cell? ⟨b, off + j, none⟩ = some u)
inductive SlicesAt (μ : Mu) (w : World) (size : Nat) : List (List Value) → List Value → Prop
  | nil : SlicesAt μ w size [] []
  | cons (l : List Value) (x' : Value) (ls : List (List Value)) (xs : List Value) (h : SliceAt μ w size l x') (hl : SlicesAt μ w size ls xs) : SlicesAt μ w size (l :: ls) (x' :: xs)
/-- A function that answers by what its slices hold. -/
def PkOk (P : Program) (sy : Nat → Value → Prop) (f : FuncId) (size : Nat) (F : List (List Value) → Option Value) : Prop :=
  ∀ (ls : List (List Value)) (v : Value) (μ : Mu) (w : World) (args' : Array Value), F ls = some v → plain v = true → μ.sy = sy → SlicesAt μ w size ls args'.toList →
    Calls P f args' w fun e w' => e = .returned v ∧ Below w.heap.size w w'

/-- What is looked up is the program's. -/
structure Env.Ok (E : Env) : Prop where
  und : ∀ t d, E.und t = some d → E.P.underlying t = some d
  info : ∀ t i, E.info t = some i → E.P.info? t = some i
  fn : ∀ f fn, E.fn f = some fn → E.P.funcs[f]? = some fn ∧ fn.name ≠ "runtime.NumGoroutine" ∧ fn.body.isSome = true
  ext : ∀ f e args v, E.ext f = some e → plains args = true → e args = some v → plain v = true ∧ ∀ w, Known E.P f ⟨args⟩ v w
  mixed : E.P.follows .mixedOrders = true
  sk : ∀ f g, E.sk f = some g → SkOk E.P f g
  pk : ∀ f p, E.pk f = some p → PkOk E.P E.sy f p.1 p.2
  askB : ∀ (μ : Mu) (l l' : List Value) (v : Value), E.askB l = some v → μ.sy = E.sy → VRels μ l l' → ∃ ns : List Int, l' = ns.map (Value.int .u8) ∧ TokV E.sy v (.string ⟨⟨ns.map fun n => UInt8.ofNat n.toNat⟩⟩)
  askY : ∀ (x x' : Value) (l : List Value), E.askY x = some l → TokV E.sy x x' → ∃ t : ByteArray, x' = .string t ∧ l.length = t.size ∧ ∀ (i : Nat) (v : Value), l[i]? = some v → ∃ b, t.data.toList[i]? = some b ∧ TokV E.sy v (.int .u8 b.toNat)
  dk : ∀ f F ds v rows, E.dk f = some F → F ds = some (v, rows) → DeepOk E.P f ds v rows
  ask : ∀ op t xo yo x y v x' y' w, E.ask op x y = some v → TokV E.sy x x' → TokV E.sy y y' → ∃ v', (do eqGuard op t xo yo x' y'; binOp op t x' y').run E.P w = .ok v' w ∧ TokV E.sy v v'
  askLen : ∀ (t ty : TypeId) (x v x' : Value) (w : World) (ts : Array TypeId) (args : Array Value), E.askLen t x = some v → TokV E.sy x x' → ts[0]? = some t → args[0]? = some x' → ∃ v', (Builtin.len_ ts ty args).run E.P w = .ok v' w ∧ TokV E.sy v v'
  kt : ∀ f e args v (μ : Mu) args' (w : World), E.kt f = some e → e args = some v → μ.sy = E.sy → (∀ b o, μ.fz b = some o → w.heap[b]? = some o) → VRels μ args args'.toList → ∃ v', VRel μ v v' ∧ Known E.P f args' v' w
  askC : ∀ (s d : TypeId) (x v x' : Value) (w : World), E.askC s d x = some v → TokV E.sy x x' → (∀ b o, E.fz b = some o → w.heap[b]? = some o) → ∃ v', (convert s d x').run E.P w = .ok v' w ∧ TokV E.sy v v'
  askS : ∀ (t : TypeId) (x v x' : Value) (lo hi mx : Option Value) (w : World), E.askS t x lo hi mx = some v → TokV E.sy x x' → ∃ v', (Instr.sliceAt t x' lo hi mx).run E.P w = .ok v' w ∧ TokV E.sy v v'

section
variable {E : Env} (ok : E.Ok) (w : World)
include ok
theorem Env.Ok.run_und {t : TypeId} {d : TypeDesc} (h : E.und t = some d) : (underlying t).run E.P w = .ok d w := run_underlying (ok.und t d h) w
theorem Env.Ok.run_info {t : TypeId} {i : TypeInfo} (h : E.info t = some i) : (typeInfo t).run E.P w = .ok i w := by
  unfold typeInfo; simp only [Sem.run_bind, run_program, Result.andThen_ok, ok.info t i h, Sem.run_pure]
theorem Env.Ok.run_size {t : TypeId} {i : TypeInfo} (h : E.info t = some i) : (sizeOf t).run E.P w = .ok i.size w := by
  unfold Go.sizeOf; simp only [Sem.run_bind, ok.run_info w h, Result.andThen_ok, Sem.run_pure]
theorem Env.Ok.run_zero {t : TypeId} {z : Value} (h : zeroA E t = some z) : (zeroValue t).run E.P w = .ok z w ∧ Cm.plain z = true := by
  unfold zeroA at h
  cases hi : E.info t with
  | none => rw [hi] at h; cases h
  | some i =>
    rw [hi] at h
    cases hz : i.zero with
    | none => simp only [hz, Option.bind_some, Option.bind_none] at h; cases h
    | some y =>
      simp only [hz, Option.bind_some] at h
      cases hp : Cm.plain y with
      | false => rw [hp] at h; cases h
      | true =>
        rw [hp] at h; injection h with h; subst h
        exact ⟨by unfold zeroValue; simp only [Sem.run_bind, ok.run_info w hi, Result.andThen_ok, hz, Sem.run_pure], hp⟩
theorem Env.Ok.run_agg {t : TypeId} {b : Bool} (h : aggT E t = some b) : (isAgg t).run E.P w = .ok b w := by
  unfold aggT at h
  cases hd : E.und t with
  | none => rw [hd] at h; cases h
  | some d =>
    rw [hd] at h
    unfold isAgg
    simp only [Sem.run_bind, ok.run_und w hd, Result.andThen_ok]
    cases d <;> simp_all
end

theorem addr_add (b o n : Nat) : (⟨b, o, none⟩ : Addr).add n = ⟨b, o + n, none⟩ := by unfold Addr.add; split <;> simp_all

theorem piece_some {cs l : List Value} {off n : Nat} (h : piece cs off n = some l) : l = (cs.drop off).take n ∧ l.length = n := by
  unfold piece at h
  simp only at h
  cases hb : Nat.beq ((cs.drop off).take n).length n with
  | false => rw [hb] at h; cases h
  | true => rw [hb] at h; injection h with h; subst h; exact ⟨rfl, Nat.eq_of_beq_eq_true hb⟩

theorem piece_get {cs l : List Value} {off n : Nat} (h : piece cs off n = some l) (i : Nat) (hi : i < n) : l[i]? = cs[off + i]? := by
  have := (piece_some h).1
  subst this
  rw [List.getElem?_take, if_pos hi, List.getElem?_drop]

/-- The cells of a row, read. -/
theorem row_read {base : Nat} {μ : Mu} {w : World} {L : Place} {ro : Bool} {es : Nat} {cs : List Value} (h : RowOk base μ w L (.cells ro es cs)) {off n : Nat} {l : List Value} (hl : piece cs off n = some l) :
    ∃ l' : List Value, VRels μ l l' ∧ l'.length = n ∧ ∀ (j : Nat) (v : Value), l'[j]? = some v → w.cell? ((⟨L.b, L.o + off, none⟩ : Addr).add j) = some v := by
  have hlen := (piece_some hl).2
  have hcell : ∀ i v, l[i]? = some v → ∃ v', w.cell? ⟨L.b, L.o + off + i, none⟩ = some v' ∧ VRel μ v v' := by
    intro i v hv
    have hi : i < n := by
      rcases Nat.lt_or_ge i l.length with h | h
      · omega
      · rw [List.getElem?_eq_none h] at hv; cases hv
    rw [piece_get hl i hi] at hv
    obtain ⟨v', a, b⟩ := h.1 _ v hv
    exact ⟨v', by rw [Nat.add_assoc]; exact a, b⟩
  refine ⟨(List.range n).map fun i => (w.cell? ⟨L.b, L.o + off + i, none⟩).getD undef, ?_, by simp, ?_⟩
  · refine VRels.of_get _ _ (by simp [hlen]) fun i v hv => ?_
    have hi : i < n := by
      rcases Nat.lt_or_ge i l.length with h | h
      · omega
      · rw [List.getElem?_eq_none h] at hv; cases hv
    obtain ⟨v', a, b⟩ := hcell i v hv
    exact ⟨v', by simp [hi, a], b⟩
  · intro j v hv
    rw [addr_add]
    have hj : j < n := by
      rcases Nat.lt_or_ge j n with h | h
      · exact h
      · rw [List.getElem?_eq_none (by simpa using h)] at hv; cases hv
    have hx : ∃ x, l[j]? = some x := ⟨l[j]'(by omega), List.getElem?_eq_getElem (by omega)⟩
    obtain ⟨x, hx⟩ := hx
    obtain ⟨v', a, b⟩ := hcell j x hx
    simp [hj, a] at hv
    rw [a, hv]

theorem splice_nil (cs : List Value) (off : Nat) : splice cs off [] = some cs := by cases cs <;> cases off <;> rfl
theorem splice_spec : ∀ (cs : List Value) (off : Nat) (l cs' : List Value), splice cs off l = some cs' →
    cs'.length = cs.length ∧ (l = [] ∨ off + l.length ≤ cs.length) ∧ ∀ i, cs'[i]? = if off ≤ i ∧ i < off + l.length then l[i - off]? else cs[i]?
  | cs, off, [], cs', h => by
    rw [splice_nil] at h; injection h with h; subst h
    exact ⟨rfl, Or.inl rfl, fun i => by rw [if_neg]; simp⟩
  | [], off, _ :: _, cs', h => by cases off <;> simp [splice] at h
  | c :: cs, 0, v :: l, cs', h => by
    simp only [splice, Option.map_eq_some_iff] at h
    obtain ⟨ds, h, rfl⟩ := h
    obtain ⟨h1, h2, h3⟩ := splice_spec cs 0 l ds h
    refine ⟨by simp [h1], Or.inr ?_, fun i => ?_⟩
    · rcases h2 with h2 | h2
      · subst h2; simp
      · simp; omega
    · cases i with
      | zero => simp
      | succ i =>
        have := h3 i
        simp at this ⊢
        exact this
  | c :: cs, off + 1, v :: l, cs', h => by
    simp only [splice, Option.map_eq_some_iff] at h
    obtain ⟨ds, h, rfl⟩ := h
    obtain ⟨h1, h2, h3⟩ := splice_spec cs off (v :: l) ds h
    refine ⟨by simp [h1], Or.inr ?_, fun i => ?_⟩
    · rcases h2 with h2 | h2
      · cases h2
      · simp at h2 ⊢; omega
    · cases i with
      | zero => simp
      | succ i =>
        have := h3 i
        simp only [List.getElem?_cons_succ, this, List.length_cons]
        by_cases c : off ≤ i ∧ i < off + (l.length + 1)
        · rw [if_pos c, if_pos (by omega), show i + 1 - (off + 1) = i - off by omega]
        · rw [if_neg c, if_neg (by omega)]

/-- What a piece of the model's does in the world that stands to the machine's state. -/
def Does {β : Type} (E : Env) (base : Nat) (μ : Mu) (w : World) (s s' : St) (e : Sem β) (Q : Mu → β → Prop) : Prop :=
  ∃ b w' μ', e.run E.P w = .ok b w' ∧ Q μ' b ∧ SRel base μ' s'.rows.get w' ∧ Grew base μ μ' s.next s'.next w w'

section
variable {E : Env} (ok : E.Ok) {base : Nat} {μ : Mu} {w : World} {s s' : St}
include ok

theorem does_part {t : TypeId} {cs l' : List Value} {off : Nat} {v : Value} (h : partA E t cs off = some v) (hv : VRels μ cs l') :
    ∃ v', (part t ⟨l'⟩ off).run E.P w = .ok v' w ∧ VRel μ v v' := by
  unfold partA at h
  simp only [Option.bind_eq_some_iff] at h
  obtain ⟨g, hg, i, hi, h⟩ := h
  cases g with
  | true =>
    simp only [cond_true, Option.map_eq_some_iff] at h
    obtain ⟨l, hl, rfl⟩ := h
    obtain ⟨e, hlen⟩ := piece_some hl
    refine ⟨.agg ⟨(l'.drop off).take i.size⟩, ?_, .agg _ _ (by subst e; exact (hv.drop off).take _)⟩
    unfold part
    simp only [Sem.run_bind, ok.run_agg w hg, Result.andThen_ok, if_true, ok.run_size w hi, Sem.run_pure]
    congr 2
    apply Array.ext'
    simp only [Array.toList_extract]
    rw [List.extract_eq_take_drop]
    congr 2
    omega
  | false =>
    simp only [cond_false] at h
    obtain ⟨v', hc, hr⟩ := hv.get _ _ h
    refine ⟨v', ?_, hr⟩
    unfold part
    simp only [Sem.run_bind, ok.run_agg w hg, Result.andThen_ok]
    simp [hc]

omit ok in
theorem objAt_cell (hs : SRel base μ s.rows.get w) {b o : Nat} {v : Value} (h : objAt μ.fz b o = some v) : w.cell? ⟨b, o, none⟩ = some v := by
  unfold objAt at h
  split at h
  · rename_i c e f hb
    unfold World.cell?
    simp only [hs.cold b _ hb]
    simpa using h
  · cases h
omit ok in
theorem objAt_drop {fz : Nat → Option Obj} {b z : Nat} {l' : List Value} (hm : ∀ (i : Nat) (v : Value), l'[i]? = some v → objAt fz b (z + i) = some v) (off n : Nat) :
    ∀ (i : Nat) (v : Value), ((l'.drop off).take n)[i]? = some v → objAt fz b (z + off + i) = some v := by
  intro i v h
  rw [List.getElem?_take] at h
  split at h
  · rw [List.getElem?_drop] at h; rw [Nat.add_assoc]; exact hm _ v h
  · cases h
theorem load_cold {t : TypeId} {o b z : Nat} {cs l' : List Value} {v : Value} (hp : partA E t cs o = some v) (hl : Colds μ.fz cs l') (hm : ∀ (i : Nat) (v : Value), l'[i]? = some v → objAt μ.fz b (z + i) = some v)
    (hs : SRel base μ s.rows.get w) : ∃ v', (loadVar t ⟨b, z + o, none⟩).run E.P w = .ok v' w ∧ VRel μ v v' := by
  unfold partA at hp
  simp only [Option.bind_eq_some_iff] at hp
  obtain ⟨g, hg, i, hi, hp⟩ := hp
  cases g with
  | true =>
    simp only [cond_true, Option.map_eq_some_iff] at hp
    obtain ⟨l, hl', rfl⟩ := hp
    obtain ⟨e, hlen⟩ := piece_some hl'
    subst e
    refine ⟨.agg ⟨(l'.drop o).take i.size⟩, ?_, .agg _ _ ((hl.drop o).take _).rel⟩
    unfold loadVar
    have hlc := run_loadCells_list (P := E.P) w ⟨b, z + o, none⟩ ((l'.drop o).take i.size) (fun j v hv => by
      rw [addr_add]; exact objAt_cell hs (objAt_drop hm o i.size j v hv))
    have hlen' : ((l'.drop o).take i.size).length = i.size := by rw [← hlen]; simp [hl.length]
    rw [hlen'] at hlc
    simp only [Sem.run_bind, ok.run_agg w hg, Result.andThen_ok, if_true, Sem.run_pure, ok.run_size w hi, hlc]
  | false =>
    simp only [cond_false] at hp
    obtain ⟨v', hc, hv⟩ := hl.get _ _ hp
    refine ⟨v', ?_, hv.rel⟩
    unfold loadVar
    simp only [Sem.run_bind, ok.run_agg w hg, Result.andThen_ok]
    simp [objAt_cell hs (hm _ _ hc)]

theorem load_var {t : TypeId} {a a' v : Value} (h : loadA E t a s = some (v, s')) (ha : VRel μ a a') (hs : SRel base μ s.rows.get w) :
    ∃ ad v', a' = .pointer (some ad) ∧ (loadVar t ad).run E.P w = .ok v' w ∧ VRel μ v v' ∧ s'.rows = s.rows ∧ s'.next = s.next := by
  unfold loadA at h
  cases hfz : asFz a with
  | some p =>
    rw [asFz_some] at hfz
    obtain ⟨k, o, cs⟩ := p
    subst hfz
    have hh : asFz (.func (.yield k) ⟨cs⟩ #[.int .i64 (.ofNat o)]) = some (k, o, cs) := rfl
    simp only [hh, guard_bind, lift_some] at h
    obtain ⟨hk, hp, e⟩ := h
    have hk' := Nat.eq_of_beq_eq_true hk
    subst hk'; subst e
    obtain ⟨b, z, l', rfl, hl, hm⟩ := ha.ofRef
    obtain ⟨v', h1, h2⟩ := load_cold ok hp hl hm hs
    exact ⟨_, v', rfl, h1, h2, rfl, rfl⟩
  | none =>
  simp only [hfz, lift_bind, row_bind, lift_some] at h
  obtain ⟨⟨r, off⟩, hr, _, x, hx, cs, hcs, hp, e⟩ := h
  rw [asRef_some] at hr; subst hr
  rw [cellsR_some] at hcs
  obtain ⟨ro, es, rfl⟩ := hcs
  obtain ⟨L, hL, rfl⟩ := ha.ofPtr
  obtain ⟨L', hL', hrow⟩ := hs.row r _ hx
  rw [hL] at hL'; injection hL' with hL'; subst hL'
  unfold partA at hp
  simp only [Option.bind_eq_some_iff] at hp
  obtain ⟨g, hg, i, hi, hp⟩ := hp
  refine ⟨⟨L.b, L.o + off, none⟩, ?_⟩
  subst e
  cases g with
  | true =>
    simp only [cond_true, Option.map_eq_some_iff] at hp
    obtain ⟨l, hl, rfl⟩ := hp
    obtain ⟨m, hm, hlen, hcell⟩ := row_read hrow hl
    refine ⟨.agg ⟨m⟩, rfl, ?_, .agg _ _ hm, rfl, rfl⟩
    unfold loadVar
    have hlc := run_loadCells_list (P := E.P) w ⟨L.b, L.o + off, none⟩ m hcell
    rw [hlen] at hlc
    simp only [Sem.run_bind, ok.run_agg w hg, Result.andThen_ok, if_true, Sem.run_pure, ok.run_size w hi, hlc]
  | false =>
    simp only [cond_false] at hp
    obtain ⟨v', hc, hv⟩ := hrow.1 _ _ hp
    refine ⟨v', rfl, ?_, hv, rfl, rfl⟩
    unfold loadVar
    simp only [Sem.run_bind, ok.run_agg w hg, Result.andThen_ok]
    simp [hc]

theorem does_load {t : TypeId} {a a' v : Value} (h : loadA E t a s = some (v, s')) (ha : VRel μ a a') (hs : SRel base μ s.rows.get w) :
    Does E base μ w s s' (Instr.loadAt t a') fun μ' b => VRel μ' v b := by
  obtain ⟨ad, v', rfl, hr, hv, e1, e2⟩ := load_var ok h ha hs
  refine ⟨v', w, μ, ?_, hv, by rw [e1]; exact hs, Grew.refl _ _ _ _ _⟩
  unfold Instr.loadAt Instr.sureAddr
  simp only [Sem.run_bind, Sem.run_pure, Result.andThen_ok]
  exact hr
end

/-- Cells written into a row of one's own. -/
theorem write_ok {base : Nat} {μ : Mu} {w : World} {s s' : St} {P : Program} {r off : Nat} {l l' : List Value} (h : writeA r off l s = some ((), s')) (hl : VRels μ l l') (hs : SRel base μ s.rows.get w) {L : Place} (hL : μ r = some L) :
    (storeCells ⟨L.b, L.o + off, none⟩ l').run P w = .ok () (w.setCells L.b (L.o + off) l') ∧ SRel base μ s'.rows.get (w.setCells L.b (L.o + off) l') ∧
      Below base w (w.setCells L.b (L.o + off) l') ∧ s'.next = s.next := by
  unfold writeA at h
  simp only [lift_bind, row_bind, guard_bind, turn_some] at h
  obtain ⟨_, x, hx, ⟨es, cs⟩, hown, hone, cs', hsp, _, _, hble, e2⟩ := h
  rw [ownR_some] at hown
  simp only at hown hsp e2
  subst hown
  obtain ⟨L', hL', hrow⟩ := hs.row r _ hx
  rw [hL] at hL'; injection hL' with hL'; subst hL'
  obtain ⟨hlen, hin, hget⟩ := splice_spec cs off l cs' hsp
  obtain ⟨hc, hext, hfree⟩ := hrow
  obtain ⟨⟨hge, hmk⟩, hes, hcells⟩ := hfree rfl
  have hll := hl.length
  have hroom : ∀ j, j < l'.length → L.o + off + j < L.o + L.ext := by
    intro j hj
    rcases hin with e | e
    · have : l'.length = 0 := by rw [hll, e]; rfl
      omega
    · omega
  have hw1 : ∀ j, j < l'.length → (w.cell? ⟨L.b, L.o + off + j, none⟩).isSome = true := by
    intro j hj
    have := hroom j hj
    have := (hcells (off + j) (by omega)).1
    rwa [← Nat.add_assoc] at this
  have hw2 : ∀ j, j < l'.length → w.frozen? ⟨L.b, L.o + off + j, none⟩ = false := by
    intro j hj
    have := hroom j hj
    have := (hcells (off + j) (by omega)).2
    rwa [← Nat.add_assoc] at this
  have hsize : ∀ (vs : List Value) (o : Nat) (w : World), (w.setCells L.b o vs).heap.size = w.heap.size := by
    intro vs
    induction vs with
    | nil => intro o w; rfl
    | cons v vs ih => intro o w; rw [World.setCells, ih, World.size_setCell]
  have hblock : ∀ (vs : List Value) (o : Nat) (w : World) (b : Nat), b ≠ L.b → (w.setCells L.b o vs).heap[b]? = w.heap[b]? := by
    intro vs
    induction vs with
    | nil => intro o w b _; rfl
    | cons v vs ih => intro o w b hb; rw [World.setCells, ih _ _ _ hb, Below.heap_setCell _ _ _ _ hb]
  have hos : ∀ (vs : List Value) (o : Nat) (w : World), (w.setCells L.b o vs).os = w.os ∧ (w.setCells L.b o vs).tape = w.tape ∧ (w.setCells L.b o vs).output = w.output := by
    intro vs
    induction vs with
    | nil => intro o w; exact ⟨rfl, rfl, rfl⟩
    | cons v vs ih => intro o w; rw [World.setCells]; have := ih (o + 1) (w.setCell ⟨L.b, o, none⟩ v); exact this
  refine ⟨?_, ?_, ?_, ?_⟩
  · have := run_storeCells_cells (P := P) L.b (L.o + off) l' 0 w (by simpa using hw1) (by simpa using hw2) (hl.oneCells hone)
    simpa using this
  · refine hs.turn r (.cells false es cs) L hx rfl hL (hsize _ _ _) (hblock _ _ _) (some (.cells false es cs')) (fun z hz => ?_) (fun q => ?_)
    · injection hz with hz; subst hz
      refine ⟨fun i v hv => ?_, by omega, fun _ => ⟨⟨hge, hmk.setCells _ _ _⟩, hes, fun i hi => ?_⟩⟩
      · rw [hget] at hv
        by_cases c : off ≤ i ∧ i < off + l.length
        · rw [if_pos c] at hv
          obtain ⟨v', hv', hr⟩ := hl.get _ v hv
          have hj : i - off < l'.length := by omega
          have := World.cell?_setCells_in L.b l' (L.o + off) w hw1 (i - off) hj
          rw [show L.o + off + (i - off) = L.o + i by omega] at this
          refine ⟨v', ?_, hr⟩
          rw [this, ← List.getElem?_eq_getElem hj]; exact hv'
        · rw [if_neg c] at hv
          obtain ⟨v', a, b⟩ := hc i v hv
          refine ⟨v', ?_, b⟩
          rw [World.cell?_setCells_out]
          · exact a
          · intro _ _
            show L.o + i < L.o + off ∨ L.o + off + l'.length ≤ L.o + i
            omega
      · refine ⟨?_, ?_⟩
        · by_cases c : off ≤ i ∧ i < off + l'.length
          · have hj : i - off < l'.length := by omega
            have := World.cell?_setCells_in L.b l' (L.o + off) w hw1 (i - off) hj
            rw [show L.o + off + (i - off) = L.o + i by omega] at this
            rw [this]; rfl
          · rw [World.cell?_setCells_out]
            · exact (hcells i hi).1
            · intro _ _
              show L.o + i < L.o + off ∨ L.o + off + l'.length ≤ L.o + i
              omega
        · rw [World.frozen?_setCells]; exact (hcells i hi).2
    · rw [e2]; exact D.got _ _ _ _ hble
  · obtain ⟨a, b, c⟩ := hos l' (L.o + off) w
    exact ⟨a, b, c, by rw [hsize]; exact Nat.le_refl _, fun k hk => hblock _ _ _ _ (by omega)⟩
  · rw [e2]

section
variable {E : Env} (ok : E.Ok) {base : Nat} {μ : Mu} {w : World} {s s' : St}
include ok

theorem does_store {t : TypeId} {a a' v v' : Value} (h : storeA E t a v s = some ((), s')) (ha : VRel μ a a') (hv : VRel μ v v') (hs : SRel base μ s.rows.get w) :
    Does E base μ w s s' (Instr.storeAt t a' v') fun _ _ => True := by
  unfold storeA at h
  simp only [lift_bind, guard_bind] at h
  obtain ⟨⟨r, off⟩, hr, i, hinfo, hsz, h⟩ := h
  rw [asRef_some] at hr; subst hr
  obtain ⟨L, hL, rfl⟩ := ha.ofPtr
  have hj : isJunk v = false := by cases hj : isJunk v <;> simp [hj] at hsz ⊢
  rw [hj, cond_false] at hsz
  obtain ⟨h1, h2, h3, h4⟩ := write_ok (P := E.P) h (hv.cells hj) hs hL
  refine ⟨(), _, μ, ?_, trivial, h2, ⟨Mu.le_refl _, fun _ a b => absurd a b, fun _ a b => absurd a b, h3⟩⟩
  unfold Instr.storeAt Instr.sureAddr storeVar
  have hl := (hv.cells hj).length
  have hsz' := Nat.eq_of_beq_eq_true hsz
  have hn : v'.cells.size = i.size := by simp only [Array.length_toList] at hl; omega
  simp only [Sem.run_bind, Sem.run_pure, Result.andThen_ok, ok.run_size w hinfo, hn, ne_eq, not_true_eq_false, if_false]
  exact h1
omit ok

/-- A new row of cells. -/
theorem does_new {cs : List Value} {es ty : Nat} {t : TypeId} {c' : Array Value} (hes : es < tagT) (hty : ty = 0 ∨ ty = t + 1) (hb : Nat.ble s.next 1000000000 = true) (e2 : s' = { s with rows := D.put (some (.cells false (codeE es ty) cs)) deep s.rows s.next, next := Nat.succ s.next }) (hc : VRels μ cs c'.toList) (hs : SRel base μ s.rows.get w) (hf : ∀ r, s.next ≤ r → r < s'.next → μ r = none) :
    SRel base (μ.with s.next ⟨w.heap.size, 0, c'.size, es, ty⟩) s'.rows.get (w.alloc (.cells c' t)) ∧ Grew base μ (μ.with s.next ⟨w.heap.size, 0, c'.size, es, ty⟩) s.next s'.next w (w.alloc (.cells c' t)) := by
  have hn : μ s.next = none := hf s.next (Nat.le_refl _) (by rw [e2]; exact Nat.lt_succ_self _)
  have hbel : Below w.heap.size w (w.alloc (.cells c' t)) := (Below.refl _ _).alloc (Nat.le_refl _) _
  refine ⟨?_, Mu.le_with hn _, fun r a b => ?_, fun _ a b => absurd a b, hbel.mono hs.ge⟩
  · refine hs.extend s.next hn (.cells false (codeE es ty) cs) _ hbel (Nat.le_refl _) (by simp) ⟨fun i v hv => ?_, ?_, fun _ => ⟨⟨hs.ge, Marked.alloc _ _ _ _ _ _ (Nat.le_refl _) hes hty⟩, rfl, fun i hi => ?_⟩⟩ (fun r => ?_)
    · obtain ⟨v', hv', hr⟩ := hc.get i v hv
      refine ⟨v', ?_, hr.mono (Mu.le_with hn _)⟩
      show (w.alloc (.cells c' t)).cell? ⟨w.heap.size, 0 + i, none⟩ = some v'
      rw [Nat.zero_add, World.cell?_alloc_new]; simpa using hv'
    · have := hc.length; simp at this; show cs.length ≤ c'.size; omega
    · show ((w.alloc (.cells c' t)).cell? ⟨w.heap.size, 0 + i, none⟩).isSome = true ∧ (w.alloc (.cells c' t)).frozen? ⟨w.heap.size, 0 + i, none⟩ = false
      have hi' : i < c'.size := hi
      rw [Nat.zero_add, World.cell?_alloc_new, World.frozen?_alloc_new]
      exact ⟨by simp [hi'], rfl⟩
    · rw [e2]; exact D.got _ _ _ _ hb
  · have : r = s.next := by
      rw [Mu.with_eq] at b
      by_cases e : r = s.next
      · exact e
      · rw [if_neg e] at b; exact absurd a b
    rw [e2]; show s.next ≤ r ∧ r < s.next + 1; omega

theorem does_newVar {cs : List Value} {es ty : Nat} {t : TypeId} {u v : Value} (hes : es < tagT) (hty : ty = 0 ∨ ty = t + 1) (h : newA (codeE es ty) cs s = some (v, s')) (hc : VRels μ cs u.cells.toList) (hs : SRel base μ s.rows.get w) (hf : ∀ r, s.next ≤ r → r < s'.next → μ r = none) :
    Does E base μ w s s' (do pure (.pointer (some (← newVar t u)))) fun μ' b => VRel μ' v b := by
  unfold newA at h
  rw [fresh_bind, pure_some] at h
  obtain ⟨hb, e1, e2⟩ := h
  subst e1
  obtain ⟨hs', hg⟩ := does_new (t := t) hes hty hb e2 hc hs hf
  refine ⟨.pointer (some ⟨w.heap.size, 0, none⟩), w.alloc (.cells u.cells t), _, ?_, ?_, hs', hg⟩
  · unfold newVar newRow
    simp only [Sem.run_bind, run_newObj, Result.andThen_ok, Sem.run_pure, World.alloc_eq]
  · have := VRel.ptr (μ := μ.with s.next ⟨w.heap.size, 0, u.cells.size, es, ty⟩) s.next 0 _ (Mu.with_at _ _ _)
    simpa using this
end
end Go.Cm
