/-
  The arguments of a law, as cold things; and what a law's row asks, of a call that answers true.
-/
import Derived.Test.YtfofdglgacfklaaGreatDoorCmHt
import Derived.ReadAgain
import Derived.Handed
import Derived.OpenShut
namespace Go.Cm
open Go Go.RowKit Go.ChangeShapes Go.WideShapes

/-- The types of arguments. -/
inductive Ty where
  | bool
  | int (k : IntKind)
  | float (k : FloatKind)
  | string
  | slice (e : Ty)
  | unit
  | pair (a b : Ty)
  | agg (a : Ty)

def Ty.Has : Ty → List Value → Prop
  | .bool, cs => ∃ b, cs = [.bool b]
  | .int k, cs => ∃ i, cs = [.int k i] ∧ (Lit.int k i).wf = true
  | .float k, cs => ∃ b, cs = [.float k b] ∧ (Lit.float k b).wf = true
  | .string, cs => ∃ s, cs = [.string s] ∧ s.size ≤ maxLen
  | .slice e, cs => cs = [.slice none 0 0] ∨ ∃ els : List (List Value), els.length ≤ maxLen ∧ (∀ x ∈ els, e.Has x) ∧ cs = [fzs els.length els.flatten]
  | .unit, cs => cs = []
  | .pair a b, cs => ∃ x y, a.Has x ∧ b.Has y ∧ cs = x ++ y
  | .agg a, cs => a.Has cs

def reifyL (r : TypeId → Option Ty) : List Field → Option Ty
  | [] => some .unit
  | f :: fs => (r f.type).bind fun a => (reifyL r fs).map fun b => .pair a b
def reify (P : Program) : Nat → TypeId → Option Ty
  | 0, _ => none
  | d + 1, t =>
    match P.underlying t with
    | some .bool => some .bool
    | some (.int k) => some (.int k)
    | some (.float k) => some (.float k)
    | some .string => some .string
    | some (.slice e) => (reify P d e).map .slice
    | some (.struct fs) => (reifyL (reify P d) fs.toList).map .agg
    | _ => none

section
variable {H : Type} {enc : TypeId × Value → H} {P : Program} {w : World} {base : Nat} {spare : Nat → Bool} {held : Bool}

theorem Colds.app {fz : Nat → Option Obj} : ∀ {a a' b b' : List Value}, Colds fz a a' → Colds fz b b' → Colds fz (a ++ b) (a' ++ b')
  | [], _, _, _, h, k => by cases h; exact k
  | _ :: _, _, _, _, h, k => by cases h with | cons _ _ _ _ h hl => exact .cons _ _ _ _ h (hl.app k)

theorem cells_obj {a : Addr} {n : Nat} {cs : List Value} (h : w.cells? base a n = some cs) : cs.length = n ∧ (0 < n → a.spot = none) ∧ ∀ (j : Nat) (v : Value), cs[j]? = some v → objAt (fun b => w.heap[b]?) a.block (a.off + j) = some v := by
  unfold World.cells? at h
  split at h
  · have hl : cs.length = n := by simpa using mapM_some_length h
    have hg : ∀ (j : Nat) (v : Value), cs[j]? = some v → w.cell? (a.add j) = some v := fun j v hj => by
      have hjn : j < n := by
        rcases Nat.lt_or_ge j cs.length with h | h
        · omega
        · rw [List.getElem?_eq_none h] at hj; cases hj
      have := mapM_some_get h j j (by simp [hjn])
      rw [hj] at this
      exact this
    refine ⟨hl, fun h0 => ?_, fun j v hj => ?_⟩
    · obtain ⟨v, hv⟩ : ∃ v, cs[0]? = some v := ⟨cs[0], List.getElem?_eq_getElem (by omega)⟩
      have := hg 0 v hv
      unfold World.cell? at this
      split at this
      · split at this
        · cases this
        · rename_i hs
          simpa [Addr.add] using hs
      · cases this
    · have := hg j v hj
      unfold World.cell? at this
      unfold objAt
      by_cases hj0 : j = 0
      · subst hj0
        simp only [Addr.add, if_true] at this
        split at this
        · rename_i c _ _ hc
          show (match w.heap[a.block]? with | some (Obj.cells c _ _) => c[a.off + 0]? | _ => none) = _
          rw [hc]
          split at this
          · cases this
          · simpa using this
        · cases this
      · simp only [Addr.add, if_neg hj0] at this
        split at this
        · rename_i c _ _ hc
          show (match w.heap[a.block]? with | some (Obj.cells c _ _) => c[a.off + j]? | _ => none) = _
          rw [hc]
          simpa using this
        · cases this
  · cases h

theorem block_add (a : Addr) (n : Nat) : (a.add n).block = a.block ∧ (a.add n).off = a.off + n := by
  unfold Addr.add
  split
  · rename_i h; subst h; simp
  · simp

/-- The elements of a slice, one behind the other. -/
theorem cold_elems {e : Ty} {a : Addr} {es : Nat} : ∀ (len : Nat), (∀ i, i < len → ∃ cs ds, w.cells? base (a.add (i * es)) es = some cs ∧ Colds (fun b => w.heap[b]?) ds cs ∧ e.Has ds) →
    ∃ (els : List (List Value)) (l' : List Value), els.length = len ∧ l'.length = len * es ∧ Colds (fun b => w.heap[b]?) els.flatten l' ∧ (∀ x ∈ els, e.Has x) ∧
      ∀ (k : Nat) (v : Value), l'[k]? = some v → objAt (fun b => w.heap[b]?) a.block (a.off + k) = some v
  | 0, _ => ⟨[], [], rfl, by simp, .nil, by simp, by simp⟩
  | len + 1, h => by
    obtain ⟨els, l', h1, h2, h3, h4, h5⟩ := cold_elems len fun i hi => h i (by omega)
    obtain ⟨cs, ds, k1, k2, k3⟩ := h len (by omega)
    obtain ⟨c1, c2, c3⟩ := cells_obj k1
    refine ⟨els ++ [ds], l' ++ cs, by simp [h1], by simp [h2, c1, Nat.add_mul], ?_, ?_, ?_⟩
    · simpa using h3.app k2
    · intro x hx
      rw [List.mem_append, List.mem_singleton] at hx
      rcases hx with hx | rfl
      · exact h4 x hx
      · exact k3
    · intro k v hk
      rw [List.getElem?_append] at hk
      split at hk
      · exact h5 k v hk
      · have := c3 _ v hk
        rw [(block_add _ _).1, (block_add _ _).2] at this
        rw [show a.off + k = a.off + len * es + (k - l'.length) by omega]
        exact this

theorem fields_has {r : TypeId → Option Ty} (T : TypeId → Prop) (ih : ∀ t ty, T t → r t = some ty → ∀ n cs x, DataW.trod enc P w base spare held n t cs = some x → ∃ ds, Colds (fun b => w.heap[b]?) ds cs ∧ ty.Has ds ∧ cs.length = P.cellsOf t) :
    ∀ (fs : List Field) (ty : Ty) (n : Nat) (cs : List Value) (o : Nat), (∀ f ∈ fs, T f.type) → reifyL r fs = some ty → cs.length = o + (fs.map fun f => P.cellsOf f.type).sum →
      (∀ (j : Nat) f, fs[j]? = some f → f.offset = o + ((fs.take j).map fun f => P.cellsOf f.type).sum) → (∀ f ∈ fs, ∃ x, DataW.trod enc P w base spare held n f.type ((cs.drop f.offset).take (P.cellsOf f.type)) = some x) →
      ∃ ds, Colds (fun b => w.heap[b]?) ds (cs.drop o) ∧ ty.Has ds
  | [], ty, n, cs, o, _, hr, hl, _, _ => by
    injection hr with hr; subst hr
    have : cs.drop o = [] := List.drop_eq_nil_of_le (by simp at hl; omega)
    rw [this]
    exact ⟨[], .nil, rfl⟩
  | f :: fs, ty, n, cs, o, hT, hr, hl, ho, hx => by
    unfold reifyL at hr
    rw [Option.bind_eq_some_iff] at hr
    obtain ⟨a, ha, hr⟩ := hr
    rw [Option.map_eq_some_iff] at hr
    obtain ⟨b, hb, rfl⟩ := hr
    have ho0 : f.offset = o := by have := ho 0 f rfl; simpa using this
    obtain ⟨x, hx0⟩ := hx f (by simp)
    obtain ⟨d1, e1, e2, e3⟩ := ih f.type a (hT f (by simp)) ha n _ x hx0
    simp only [List.map_cons, List.sum_cons] at hl
    obtain ⟨d2, g1, g2⟩ := fields_has T ih fs b n cs (o + P.cellsOf f.type) (fun g hg => hT g (by simp [hg])) hb (by omega)
      (fun j g hg => by
        have := ho (j + 1) g (by simpa using hg)
        simp only [List.take_succ_cons, List.map_cons, List.sum_cons] at this
        omega) (fun g hg => hx g (by simp [hg]))
    refine ⟨d1 ++ d2, ?_, d1, d2, e2, g2, rfl⟩
    have : cs.drop o = (cs.drop o).take (P.cellsOf f.type) ++ cs.drop (o + P.cellsOf f.type) := by
      rw [← List.drop_drop]
      exact (List.take_append_drop _ _).symm
    rw [this]
    rw [ho0] at e1
    exact e1.app g1

theorem has_of_trod (K : Kids P (· < P.types.size)) (hz : ∀ t e, t < P.types.size → P.underlying t = some (.slice e) → 0 < P.cellsOf e) (h1 : ∀ t, t < P.types.size → (match P.underlying t with | some .bool | some (.int _) | some (.float _) | some .string | some (.slice _) => P.cellsOf t = 1 | _ => True)) : ∀ (d : Nat) (t : TypeId) (ty : Ty), t < P.types.size → reify P d t = some ty →
    ∀ n cs x, DataW.trod enc P w base spare held n t cs = some x → ∃ ds, Colds (fun b => w.heap[b]?) ds cs ∧ ty.Has ds ∧ cs.length = P.cellsOf t
  | 0, _, _, _, h, _, _, _, _ => by cases h
  | d + 1, t, ty, ht, h, n, cs, x, hx => by
    have hone := h1 t ht
    unfold reify at h
    split at h
    · rename_i hu
      injection h with h; subst h
      obtain ⟨b, rfl, _⟩ := DataW.trod_bool hu hx
      rw [hu] at hone
      exact ⟨_, .cons _ _ _ _ (.plain _ rfl) .nil, ⟨b, rfl⟩, hone.symm⟩
    · rename_i k hu
      injection h with h; subst h
      obtain ⟨i, rfl, _, hw⟩ := DataW.trod_int hu hx
      rw [hu] at hone
      exact ⟨_, .cons _ _ _ _ (.plain _ rfl) .nil, ⟨i, rfl, hw⟩, hone.symm⟩
    · rename_i k hu
      injection h with h; subst h
      have hfl : ∃ b, cs = [.float k b] ∧ (Lit.float k b).wf = true := by
        cases n with
        | zero => simp [DataW.trod] at hx
        | succ n =>
          unfold DataW.trod at hx
          rw [hu] at hx
          split at hx <;> simp_all
      obtain ⟨b, rfl, hw⟩ := hfl
      rw [hu] at hone
      exact ⟨_, .cons _ _ _ _ (.plain _ rfl) .nil, ⟨b, rfl, hw⟩, hone.symm⟩
    · rename_i hu
      injection h with h; subst h
      obtain ⟨s, rfl, _, hs⟩ := DataW.trod_string hu hx
      rw [hu] at hone
      exact ⟨_, .cons _ _ _ _ (.plain _ rfl) .nil, ⟨s, rfl, hs⟩, hone.symm⟩
    · rename_i e hu
      rw [Option.map_eq_some_iff] at h
      obtain ⟨te, he, rfl⟩ := h
      rw [hu] at hone
      rcases DataW.trod_slice hu hx with ⟨rfl, _⟩ | ⟨a, len, cap, elems, rest, m, rfl, rfl, _, hb, hle, hcap, hlen, hel, _, _⟩
      · exact ⟨_, .cons _ _ _ _ (.plain _ rfl) .nil, Or.inl rfl, hone.symm⟩
      · have hes := hz t e ht hu
        have hall : ∀ i, i < len → ∃ cs ds, w.cells? base (a.add (i * P.cellsOf e)) (P.cellsOf e) = some cs ∧ Colds (fun b => w.heap[b]?) ds cs ∧ te.Has ds := by
          intro i hi
          have := hel i hi
          rw [List.getElem?_eq_getElem (by omega), Option.bind_eq_some_iff] at this
          obtain ⟨cs, hc, hy⟩ := this
          obtain ⟨ds, g1, g2, _⟩ := has_of_trod K hz h1 d e te (K.slice ht hu) he m cs _ hy
          exact ⟨cs, ds, hc, g1, g2⟩
        obtain ⟨els, l', g1, g2, g3, g4, g5⟩ := cold_elems len hall
        refine ⟨[fzs els.length els.flatten], .cons _ _ _ _ ?_ .nil, Or.inr ⟨els, by omega, g4, rfl⟩, hone.symm⟩
        rw [g1]
        refine Cold.arr len els.flatten a cap l' ?_ hle g3 g5
        rcases Nat.eq_zero_or_pos len with h0 | h0
        · exact Or.inl h0
        · obtain ⟨cs, ds, hc, _, _⟩ := hall 0 h0
          have := (cells_obj hc).2.1 hes
          simp only [Nat.zero_mul, Addr.add, if_true] at this
          exact Or.inr this
    · rename_i fs hu
      rw [Option.map_eq_some_iff] at h
      obtain ⟨ta, ha, rfl⟩ := h
      obtain ⟨xs, m, rfl, _, hl, hlen, hf⟩ := DataW.trod_struct hu hx
      obtain ⟨k1, k2, k3⟩ := K.struct ht hu
      obtain ⟨ds, g1, g2⟩ := fields_has (enc := enc) (spare := spare) (held := held) (· < P.types.size) (fun t ty hT hr n cs x hx => has_of_trod K hz h1 d t ty hT hr n cs x hx) fs.toList ta m cs 0 k1 ha (by rw [hl, k2]; simp) (fun j f hj => by rw [k3 j f hj]; simp)
        (fun f hfm => by
          obtain ⟨j, hj, rfl⟩ := List.mem_iff_getElem.1 hfm
          simp only [Array.length_toList] at hj
          have := hf j fs[j] (by simp [hj])
          rw [List.getElem?_eq_getElem (by omega)] at this
          exact ⟨_, this⟩)
      exact ⟨ds, by simpa using g1, g2, hl⟩
    · cases h

/-- The arguments of a call. -/
def HasArgs : List Ty → List Value → Prop
  | [], vs => vs = []
  | .agg a :: ts, vs => ∃ cs r, a.Has cs ∧ HasArgs ts r ∧ vs = .agg ⟨cs⟩ :: r
  | t :: ts, vs => ∃ v r, t.Has [v] ∧ HasArgs ts r ∧ vs = v :: r

/-- What a program's table of types must be. -/
structure Tidy (P : Program) : Prop where
  kids : Kids P (· < P.types.size)
  full : ∀ t e, t < P.types.size → P.underlying t = some (.slice e) → 0 < P.cellsOf e
  ones : ∀ t, t < P.types.size → (match P.underlying t with | some .bool | some (.int _) | some (.float _) | some .string | some (.slice _) => P.cellsOf t = 1 | _ => True)

theorem tidy_of (P : Program) (h1 : laidOutB P = true) (h2 : mapsRowed P = true) (h3 : ((List.range P.types.size).all fun t => match P.underlying t with | some (.slice e) => decide (0 < P.cellsOf e) | _ => true) = true)
    (h4 : ((List.range P.types.size).all fun t => match P.underlying t with | some .bool | some (.int _) | some (.float _) | some .string | some (.slice _) => Nat.beq (P.cellsOf t) 1 | _ => true) = true) : Tidy P where
  kids := kids_rows h1 h2
  full := slices_full_of P h3
  ones := fun t ht => by
    have := List.all_eq_true.1 h4 t (List.mem_range.2 ht)
    revert this
    split <;> first | exact fun h => Nat.eq_of_beq_eq_true h | exact fun _ => trivial

theorem reify_agg {d : Nat} {t : TypeId} {ty : Ty} (h : reify P d t = some ty) : (∃ a fs, ty = .agg a ∧ P.underlying t = some (.struct fs)) ∨ ((∀ a, ty ≠ .agg a) ∧ ∀ fs n e, P.underlying t ≠ some (.struct fs) ∧ P.underlying t ≠ some (.array n e)) := by
  cases d with
  | zero => cases h
  | succ d =>
    unfold reify at h
    split at h
    case h_1 hu | h_2 hu | h_3 hu | h_4 hu => injection h with h; subst h; right; rw [hu]; exact ⟨by simp, by simp⟩
    case h_5 hu => rw [Option.map_eq_some_iff] at h; obtain ⟨te, he, rfl⟩ := h; right; rw [hu]; exact ⟨by simp, by simp⟩
    case h_6 fs hu => rw [Option.map_eq_some_iff] at h; obtain ⟨te, he, rfl⟩ := h; exact Or.inl ⟨te, fs, rfl, hu⟩
    case h_7 => cases h

theorem args_has (td : Tidy P) : ∀ (ts : List TypeId) (tys : List Ty) (vs : List Value) (ds : List (DataW H)) (ps : List MemPlace), DataW.TrodAll enc P w base spare held ts vs ds ps → (∀ t ∈ ts, t < P.types.size) → ts.map (reify P 6) = tys.map some →
    (∀ (j : Nat) t v, ts[j]? = some t → vs[j]? = some v → Value.okWide P w .any base t v) → ∃ cs, Colds (fun b => w.heap[b]?) cs vs ∧ HasArgs tys cs
  | [], tys, vs, ds, ps, h, _, hr, _ => by
    obtain rfl : tys = [] := by cases tys with | nil => rfl | cons => cases hr
    obtain ⟨rfl, rfl, rfl⟩ := trodAll_nil h
    exact ⟨[], .nil, rfl⟩
  | t :: ts, tys, vs, ds, ps, h, hT, hr, hok => by
    match tys, hr with
    | ty :: tys, hr =>
      have h0 : reify P 6 t = some ty := by injection hr
      have hr : ts.map (reify P 6) = tys.map some := by injection hr
      obtain ⟨v, vs1, d, ds1, a, b, rfl, rfl, rfl, k1, k2⟩ := trodAll_cons h
      obtain ⟨cs, g1, g2⟩ := args_has td ts tys vs1 ds1 b k2 (fun t ht => hT t (by simp [ht])) hr (fun j t v h1 h2 => hok (j + 1) t v (by simpa using h1) (by simpa using h2))
      obtain ⟨n, hn⟩ := k1
      obtain ⟨es, e1, e2, e3⟩ := has_of_trod td.kids td.full td.ones 6 t ty (hT t (by simp)) h0 n _ _ hn
      have hv := hok 0 t v rfl rfl
      unfold Value.okWide at hv
      rcases reify_agg h0 with ⟨ta, fs, rfl, hu⟩ | ⟨hna, hnu⟩
      · rw [hu] at hv
        obtain ⟨c, rfl, _, _⟩ := hv
        exact ⟨.agg ⟨es⟩ :: cs, .cons _ _ _ _ (.agg _ _ e1) g1, es, cs, e2, g2, rfl⟩
      · have hone : es.length = 1 := by
          have hl : es.length = v.cells.toList.length := by
            have : ∀ {l l' : List Value}, Colds (fun b => w.heap[b]?) l l' → l.length = l'.length := fun h => by
              induction h using Colds.rec (motive_1 := fun _ _ _ => True) <;> simp_all
            exact this e1
          rw [hl, e3]
          have h1 := td.ones t (hT t (by simp))
          cases n with
          | zero => simp [DataW.trod] at hn
          | succ n => 
            unfold reify at h0
            revert h1
            split at h0 <;> first | (rename_i hu; rw [hu]; exact id) | cases h0 | (rename_i fs hu; exact absurd hu (hnu fs 0 0).1)
        obtain ⟨u, rfl⟩ : ∃ u, es = [u] := by
          match es, hone with
          | [u], _ => exact ⟨u, rfl⟩
        have hcell : v.cells.toList = [v] := by
          cases v with
          | agg c =>
            exfalso
            unfold reify at h0
            split at h0
            case h_1 hu | h_2 hu | h_3 hu | h_4 hu | h_5 hu => rw [hu] at hv; simp [Cell.okWide, hu, Cell.ok] at hv
            case h_6 fs hu => exact (hnu fs 0 0).1 hu
            case h_7 => cases h0
          | _ => rfl
        rw [hcell] at e1
        cases e1 with
        | cons _ _ _ _ hc _ =>
          refine ⟨u :: cs, .cons _ _ _ _ hc g1, ?_⟩
          cases ty with
          | agg a => exact absurd rfl (hna a)
          | _ => exact ⟨u, cs, e2, g2, rfl⟩

theorem trodAll_below (td : Tidy P) {W W' : World} (hb : Below W.heap.size W W') : ∀ (ts : List TypeId) (vs : List Value) (ds : List (DataW H)) (ps : List MemPlace), (∀ t ∈ ts, t < P.types.size) → (∀ p ∈ ps, p.block < W.heap.size) →
    DataW.TrodAll enc P W 0 (fun _ => true) true ts vs ds ps → DataW.TrodAll enc P W' 0 (fun b => decide (b < W.heap.size)) true ts vs ds ps := by
  intro ts vs ds ps hT hlt h
  have h2 := DataW.TrodAll.respare (spare' := fun b => decide (b < W.heap.size)) td.kids td.full hT h (fun p hp => by simpa using hlt p hp)
  clear h
  induction ts generalizing vs ds ps with
  | nil => obtain ⟨rfl, rfl, rfl⟩ := trodAll_nil h2; exact rfl
  | cons t ts ih =>
    obtain ⟨v, vs1, d, ds1, a, b, rfl, rfl, rfl, k1, k2⟩ := trodAll_cons h2
    obtain ⟨n, hn⟩ := k1
    exact ⟨a, b, ⟨n, DataW.trod_carry n _ _ _ hn fun p hp => hb.same (hlt p (by simp at hp ⊢; exact Or.inl hp))⟩, ih _ _ _ (fun t ht => hT t (by simp [ht])) (fun p hp => hlt p (by simp [hp])) k2, rfl⟩

/-- A law that returns true, whatever its arguments (of types that are no pointers), as a contract of its row asks. -/
theorem law_post (td : Tidy P) {f : Func} {fn : FuncId} {sp : ChangeSpec} {tb : TypeId} (tys : List Ty) (hvars : sp.vars = []) (hfn : ∀ ds : List (DataW H), ds.length = f.params.size → sp.fn H ds = { results := [.lit (.bool true)], args := ds })
    (hres : f.resultTypes = #[tb]) (hb : P.underlying tb = some .bool) (hT : (f.params.toList.all fun t => Nat.blt t P.types.size) = true) (hty : f.params.toList.map (reify P 6) = tys.map some)
    (walk : ∀ (cs : List Value), HasArgs tys cs → ∀ (W : World) (args : Array Value), Colds (fun b => W.heap[b]?) cs args.toList → Calls P fn args W fun e W' => e = .returned (.bool true) ∧ Below W.heap.size W W')
    {apart fresh handsOn : Bool} (W : World) (base : Nat) (args : Array Value) (ds gs : List (DataW H)) (before : List MemPlace)
    (hval : ∀ (j : Nat) t v, f.params[j]? = some t → args[j]? = some v → Value.okWide P W .any base t v)
    (hW : DataW.Whole enc P f.params.toList sp.vars apart W args.toList ds gs before) :
    Calls P fn args W fun e W' => ∃ v, e = .returned v ∧ sp.post enc P f apart fresh handsOn false W args v W' := by
  have hW' := hW
  have hlt : ∀ p ∈ before, p.block < W.heap.size := fun p hp => hW.lt p hp
  obtain ⟨p, q, hA, hV, rfl, hfz, hnd⟩ := hW
  have hTT : ∀ t ∈ f.params.toList, t < P.types.size := fun t ht => by
    have := List.all_eq_true.1 hT t ht
    exact Nat.le_of_ble_eq_true this
  obtain ⟨cs, h1, h2⟩ := args_has td f.params.toList tys args.toList ds p hA hTT hty (fun j t v ht hv => hval j t v (by simpa using ht) (by simpa using hv))
  have hlen : ds.length = f.params.size := by
    have : ∀ (ts : List TypeId) (vs : List Value) (ds : List (DataW H)) (p : List MemPlace), DataW.TrodAll enc P W 0 (fun _ => true) true ts vs ds p → ds.length = ts.length := by
      intro ts
      induction ts with
      | nil => intro vs ds p h; obtain ⟨rfl, rfl, rfl⟩ := trodAll_nil h; rfl
      | cons t ts ih =>
        intro vs ds p h
        obtain ⟨v, vs1, d, ds1, a, b, rfl, rfl, rfl, k1, k2⟩ := trodAll_cons h
        simp [ih _ _ _ k2]
    simpa using this _ _ _ _ hA
  rw [hvars] at hV
  obtain ⟨rfl, rfl⟩ := trodVars_none hV
  refine (walk cs h2 W args h1).mono fun e W' ⟨he, hg⟩ => ?_
  subst he
  refine ⟨_, rfl, ds, [], p ++ [], [], p, [], hW', ?_, ?_, ?_, hg.frame _, fun h => by cases h⟩
  · rw [List.append_nil, hfn ds hlen, hres]
    exact trodAll_cons_mk (shut_bool hb _) trodAll_mk0
  · rw [List.append_nil, hfn ds hlen]
    exact trodAll_below td hg _ _ _ _ hTT (fun x hx => hlt x (by simp [hx])) hA
  · rw [hvars, List.append_nil, hfn ds hlen]
    rfl

/-- The walk of a law: out of a call of cold things. -/
theorem walk_of_deep {P : Program} {fn : FuncId} {cs : List Value} (h : DeepOk P fn cs (.bool true) []) (W : World) (args : Array Value) (hc : Colds (fun b => W.heap[b]?) cs args.toList) :
    Calls P fn args W fun e W' => e = .returned (.bool true) ∧ Below W.heap.size W W' := by
  refine (h _ W args (fun b o hb => hb) hc).mono fun e W' ⟨v, μ, he, hr⟩ => ⟨?_, hr.below⟩
  subst he
  have := hr.rel
  cases this with
  | plain _ _ => rfl
end
end Go.Cm
