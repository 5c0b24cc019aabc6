/-
  Trees of panes, as plain data: their nodes in a row, their panes, sizes and places. Rows that are read, and appended to a row of one's own. Plain laws of trees of panes: least sizes, places, fitting, splitting, removing, swapping. Rows of rows, one behind the other. Rows of nodes, of places and of rectangles, as cells.
-/
import Derived.Below
import Derived.WalkKit
import Derived.ProofKit
import Derived.Maps.AppendAt
import Derived.Lib.AppendZeros
import Derived.Laws.OwnMore
namespace Tp
open Go Go.RowKit

/-- A tree of panes: a leaf, or two parts with a direction and a first. -/
inductive Tr where
  | leaf (p : Int)
  | node (d f : Int) (a b : Tr)
deriving Repr, DecidableEq

/-- A node's five numbers: pane, direction, first, and where its parts stand. -/
structure Nd where
  (p d f a b : Int)
deriving Repr, DecidableEq, Inhabited

namespace Tr
/-- How many nodes. -/
def size : Tr → Nat
  | leaf _ => 1
  | node _ _ a b => 1 + a.size + b.size
/-- The row of nodes, the first one at a place. -/
def nodes : Tr → Nat → List Nd
  | leaf p, _ => [⟨p, 0, 0, 0, 0⟩]
  | node d f a b, k => ⟨0, d, f, (k + 1 : Nat), (k + 1 + a.size : Nat)⟩ :: (a.nodes (k + 1) ++ b.nodes (k + 1 + a.size))
/-- The panes in their order. -/
def panes : Tr → List Int
  | leaf p => [p]
  | node _ _ a b => a.panes ++ b.panes
/-- What each number may be. -/
def good : Tr → Prop
  | leaf p => 1 ≤ p ∧ p ≤ 1000000
  | node d f a b => (d = 1 ∨ d = 2) ∧ 1 ≤ f ∧ f ≤ 1000 ∧ a.good ∧ b.good
theorem size_pos : ∀ T : Tr, 1 ≤ T.size
  | leaf _ => by simp [size]
  | node _ _ a b => by simp only [size]; omega
theorem nodes_length : ∀ (T : Tr) (k : Nat), (T.nodes k).length = T.size
  | leaf _, _ => rfl
  | node _ _ a b, k => by simp only [nodes, size, List.length_cons, List.length_append, nodes_length a, nodes_length b]; omega
theorem panes_length : ∀ T : Tr, 2 * T.panes.length = T.size + 1
  | leaf _ => rfl
  | node _ _ a b => by have := panes_length a; have := panes_length b; simp only [panes, size, List.length_append]; omega
end Tr

/-- A node's cells. -/
def Nd.cells (x : Nd) : List Value := [.int .i64 x.p, .int .i64 x.d, .int .i64 x.f, .int .i64 x.a, .int .i64 x.b]

/-- A row of nodes lies behind a slice, from an element on (others lie before and behind). -/
def NodesFrom (w : World) (l : List Nd) (b off : Nat) (at' : Nat) : Prop :=
  ∀ j, j < l.length → w.cell? ⟨b, off + (at' + j) * 5, none⟩ = some (.int .i64 l[j]!.p) ∧ w.cell? ⟨b, off + (at' + j) * 5 + 1, none⟩ = some (.int .i64 l[j]!.d) ∧
    w.cell? ⟨b, off + (at' + j) * 5 + 2, none⟩ = some (.int .i64 l[j]!.f) ∧ w.cell? ⟨b, off + (at' + j) * 5 + 3, none⟩ = some (.int .i64 l[j]!.a) ∧ w.cell? ⟨b, off + (at' + j) * 5 + 4, none⟩ = some (.int .i64 l[j]!.b)

theorem NodesFrom.left {w : World} {l m : List Nd} {b off at' : Nat} (h : NodesFrom w (l ++ m) b off at') : NodesFrom w l b off at' := fun j hj => by
  have := h j (by simp only [List.length_append]; omega)
  rwa [show (l ++ m)[j]! = l[j]! by simp [List.getElem!_eq_getElem?_getD, List.getElem?_append_left hj]] at this
theorem NodesFrom.right {w : World} {l m : List Nd} {b off at' : Nat} (h : NodesFrom w (l ++ m) b off at') : NodesFrom w m b off (at' + l.length) := fun j hj => by
  have := h (l.length + j) (by simp only [List.length_append]; omega)
  rw [show (l ++ m)[l.length + j]! = m[j]! by rw [List.getElem!_eq_getElem?_getD, List.getElem!_eq_getElem?_getD, List.getElem?_append_right (by omega), Nat.add_sub_cancel_left], ← Nat.add_assoc] at this
  exact this
theorem NodesFrom.below {w w' : World} {l : List Nd} {b off at' : Nat} (h : NodesFrom w l b off at') {B : Nat} (hb : b < B) (hW : Below B w w') : NodesFrom w' l b off at' := fun j hj => by
  obtain ⟨h0, h1, h2, h3, h4⟩ := h j hj
  exact ⟨(hW.cell (p := ⟨b, _, none⟩) hb).trans h0, (hW.cell (p := ⟨b, _, none⟩) hb).trans h1, (hW.cell (p := ⟨b, _, none⟩) hb).trans h2, (hW.cell (p := ⟨b, _, none⟩) hb).trans h3, (hW.cell (p := ⟨b, _, none⟩) hb).trans h4⟩

/-- A part in memory, at a block: a block for each of its nodes. -/
def PartAt (ty : TypeId) (w : World) : Tr → Nat → List Nat → Prop
  | .leaf p, k, S => S = [k] ∧ w.heap[k]? = some (.cells #[.int .i64 p, .int .i64 0, .int .i64 0, .pointer none, .pointer none] ty)
  | .node d f a b, k, S => ∃ ka kb Sa Sb, S = k :: (Sa ++ Sb) ∧ w.heap[k]? = some (.cells #[.int .i64 0, .int .i64 d, .int .i64 f, .pointer (some ⟨ka, 0, none⟩), .pointer (some ⟨kb, 0, none⟩)] ty) ∧ PartAt ty w a ka Sa ∧ PartAt ty w b kb Sb

theorem PartAt.same {ty : TypeId} {w w' : World} : ∀ {T : Tr} {k : Nat} {S : List Nat}, PartAt ty w T k S → (∀ k ∈ S, w'.heap[k]? = w.heap[k]?) → PartAt ty w' T k S
  | .leaf p, k, S, ⟨e2, h⟩, hs => ⟨e2, (hs k (by rw [e2]; exact List.mem_singleton.2 rfl)).trans h⟩
  | .node d f a b, k, S, ⟨ka, kb, Sa, Sb, e2, h, ha, hb⟩, hs => by
    subst e2
    exact ⟨ka, kb, Sa, Sb, rfl, (hs k (List.mem_cons_self ..)).trans h, ha.same fun i hi => hs i (List.mem_cons_of_mem _ (List.mem_append_left _ hi)), hb.same fun i hi => hs i (List.mem_cons_of_mem _ (List.mem_append_right _ hi))⟩
theorem PartAt.lt {ty : TypeId} {w : World} : ∀ {T : Tr} {k : Nat} {S : List Nat}, PartAt ty w T k S → ∀ i ∈ S, i < w.heap.size
  | .leaf p, k, S, ⟨e2, h⟩, i, hi => by
    rw [e2, List.mem_singleton] at hi; subst hi
    exact (Array.getElem?_eq_some_iff.1 h).1
  | .node d f a b, k, S, ⟨ka, kb, Sa, Sb, e2, h, ha, hb⟩, i, hi => by
    rw [e2] at hi
    rcases List.mem_cons.1 hi with rfl | hi
    · exact (Array.getElem?_eq_some_iff.1 h).1
    · rcases List.mem_append.1 hi with hi | hi
      · exact ha.lt i hi
      · exact hb.lt i hi
theorem PartAt.below {ty : TypeId} {w w' : World} {T : Tr} {k : Nat} {S : List Nat} (h : PartAt ty w T k S) (hW : Below w.heap.size w w') : PartAt ty w' T k S :=
  h.same fun k hk => hW.block k (h.lt k hk)
theorem PartAt.self {ty : TypeId} {w : World} {T : Tr} {k : Nat} {S : List Nat} (h : PartAt ty w T k S) : k ∈ S := by
  cases T with
  | leaf p => rw [h.1]; exact List.mem_singleton.2 rfl
  | node d f a b => obtain ⟨_, _, _, _, e, _⟩ := h; rw [e]; exact List.mem_cons_self ..

theorem cell_block {w : World} {k : Nat} {c : Array Value} {ty : TypeId} {fr} (h : w.heap[k]? = some (.cells c ty fr)) (j : Nat) : w.cell? ⟨k, j, none⟩ = c[j]? := by
  simp [World.cell?, h]
end Tp
namespace Tp
open Go Go.RowKit

/-- What a slice reads: so many cells an element. -/
def Rd (w : World) (size : Nat) (v : Value) (n : Nat) (xs : List Value) : Prop :=
  xs.length = n * size ∧ ((v = .slice none 0 0 ∧ n = 0) ∨ ∃ b off c, v = .slice (some ⟨b, off, none⟩) n c ∧ b < w.heap.size ∧ ∀ j u, xs[j]? = some u → w.cell? ⟨b, off + j, none⟩ = some u)

theorem Rd.below {w w' : World} {size : Nat} {v : Value} {n : Nat} {xs : List Value} (h : Rd w size v n xs) {B : Nat} (hW : Below B w w') (hB : w.heap.size ≤ B) : Rd w' size v n xs := by
  refine ⟨h.1, ?_⟩
  rcases h.2 with h | ⟨b, off, c, e, hb, h⟩
  · exact .inl h
  · exact .inr ⟨b, off, c, e, Nat.lt_of_lt_of_le hb hW.size, fun j u hu => (hW.cell (p := ⟨b, off + j, none⟩) (Nat.lt_of_lt_of_le hb hB)).trans (h j u hu)⟩
/-- A row in a block of its own stays where another block, and what is new, is written. -/
theorem Rd.grown {w w' : World} {size : Nat} {v : Value} {n : Nat} {xs : List Value} {row : Option Nat} (h : Rd w size v n xs) (hW : w.grownBy w' row) (hr : v.ownBlock = none ∨ v.ownBlock ≠ row) : Rd w' size v n xs := by
  refine ⟨h.1, ?_⟩
  rcases h.2 with h0 | ⟨b, off, c, e, hb, hc⟩
  · exact .inl h0
  · subst e
    have hr : some b ≠ row := by simpa [Value.ownBlock] using hr
    exact .inr ⟨b, off, c, rfl, Nat.lt_of_lt_of_le hb hW.size, fun j u hu => (World.cell?_of_block (hW.block b hb hr)).trans (hc j u hu)⟩
theorem Rd.own {w : World} {base : Nat} {e : TypeId} {size : Nat} {v : Value} {n : Nat} {xs : List Value} (h : w.ownsRow base e size v n xs) : Rd w size v n xs := by
  refine ⟨h.1, ?_⟩
  rcases h.2 with h | ⟨g, cap, cur, e1, e2, e3, r⟩
  · exact .inl h
  · subst e1
    refine .inr ⟨g, 0, cap, rfl, (Array.getElem?_eq_some_iff.1 e3).1, fun j u hu => ?_⟩
    have := World.ownsRow.cells (w := w) (base := base) (e := e) (size := size) (n := n) (v := .slice (some ⟨g, 0, none⟩) n cap) (xs := xs) h (g := g) rfl j u hu
    rw [Addr.add_lit] at this
    exact this
/-- A literal of elements. -/
theorem Rd.new (w : World) (size n : Nat) (cs : Array Value) (t : TypeId) (hs : cs.size = n * size) : Rd (w.alloc (.cells cs t)) size (.slice (some ⟨w.heap.size, 0, none⟩) n n) n cs.toList :=
  ⟨by simpa using hs, .inr ⟨w.heap.size, 0, n, rfl, by simp, fun j u hu => by rw [Nat.zero_add, cell_block (heap_alloc_new w _)]; simpa using hu⟩⟩

/-- A block that is known whole. -/
theorem Rd.of_block {w : World} {size n c g : Nat} {cs : Array Value} {t : TypeId} {fr} (h : w.heap[g]? = some (.cells cs t fr)) (hs : cs.size = n * size) : Rd w size (.slice (some ⟨g, 0, none⟩) n c) n cs.toList :=
  ⟨by simpa using hs, .inr ⟨g, 0, c, rfl, (Array.getElem?_eq_some_iff.1 h).1, fun j u hu => by rw [Nat.zero_add, cell_block h]; simpa using hu⟩⟩

/-- Two new blocks, one behind the other. -/
theorem two_new (w : World) (L R : Obj) : ((w.alloc L).alloc R).heap[w.heap.size + 1]? = some R ∧ ((w.alloc L).alloc R).heap[w.heap.size]? = some L ∧ Below w.heap.size w ((w.alloc L).alloc R) ∧ ((w.alloc L).alloc R).heap.size = w.heap.size + 2 := by
  have e : (w.alloc L).heap.size = w.heap.size + 1 := by simp
  refine ⟨?_, ?_, ((Below.refl _ w).alloc (Nat.le_refl _) _).alloc (by omega) _, by simp⟩
  · rw [← e]; exact heap_alloc_new _ _
  · rw [Below.heap_alloc _ _ _ (by omega)]; exact heap_alloc_new _ _

theorem app_run {P : Program} (w : World) (base : Nat) (t ty e : TypeId) (i : TypeInfo) (z : Value) (size bytes : Nat) (ht : P.underlying t = some (.slice e)) (hi : P.info? e = some i) (hz : i.zero = some z)
    (hsize : i.size = size) (hby : i.bytes = bytes) (hzs : z.cells.size = size) (hsz : 0 < size)
    (v : Value) (n : Nat) (xs : List Value) (hown : w.ownsRow base e size v n xs) (x : Value) (m : Nat) (news : List Value) (hr : Rd w size x m news) (h1 : ∀ u ∈ news, u.oneCell' = true)
    (h63 : n + m ≤ maxLen) (hbytes : (n + m) * bytes ≤ 140737488355328) (hbase : base ≤ w.heap.size) :
    ∃ v' w', (Builtin.append_ #[t, t] ty #[v, x]).run P w = .ok v' w' ∧ w'.ownsRow base e size v' (n + m) (xs ++ news) ∧ w.grownBy w' v.ownBlock ∧ (v'.ownBlock = v.ownBlock ∨ v'.ownBlock = some w.heap.size) := by
  rcases hr.2 with ⟨e1, e2⟩ | ⟨b, off, c, e1, hb, h⟩
  · subst e1 e2
    have hn : news = [] := List.eq_nil_of_length_eq_zero (by simpa using hr.1)
    subst hn
    exact ⟨v, w, run_append_owned_none w base t ty e i size ht hi v n xs hown, by simpa using hown, ⟨rfl, rfl, rfl, Nat.le_refl _, fun _ _ _ => rfl⟩, .inl rfl⟩
  · subst e1
    obtain ⟨v', w', hrun, h2, h3, _, h5⟩ := run_append_own_at (P := P) w base t ty e i z size bytes ht hi hz hsize hby hzs hsz v n xs hown ⟨b, off, none⟩ m c news hr.1 (fun j u hu => by rw [Addr.add_lit]; exact h j u hu) h1 h63 hbytes hbase
    exact ⟨v', w', hrun, h2, h3, h5⟩
end Tp
namespace Tp

/-- A rectangle. -/
structure Rc where
  (x y w h : Int)
deriving DecidableEq, Inhabited
/-- A pane's place. -/
structure Sp where
  pane : Int
  r : Rc
deriving DecidableEq, Inhabited

def held (n lo hi : Int) : Int := min (max n lo) hi
theorem held_in {n lo hi : Int} (h : lo ≤ hi) : lo ≤ held n lo hi ∧ held n lo hi ≤ hi := by unfold held; omega
theorem held_eq {n lo hi : Int} (h1 : lo ≤ n) (h2 : n ≤ hi) : held n lo hi = n := by unfold held; omega

def cutA (r : Rc) (d f : Int) : Rc := if d = 1 then ⟨r.x, r.y, f, r.h⟩ else ⟨r.x, r.y, r.w, f⟩
def cutM (r : Rc) (d f : Int) : Rc := if d = 1 then ⟨r.x + f, r.y, 1, r.h⟩ else ⟨r.x, r.y + f, r.w, 1⟩
def cutB (r : Rc) (d f : Int) : Rc := if d = 1 then ⟨r.x + f + 1, r.y, r.w - f - 1, r.h⟩ else ⟨r.x, r.y + f + 1, r.w, r.h - f - 1⟩

namespace Tr
/-- How wide at least. -/
def lw : Tr → Int
  | leaf _ => 1
  | node d _ a b => if d = 1 then a.lw + 1 + b.lw else max a.lw b.lw
/-- How high at least. -/
def lh : Tr → Int
  | leaf _ => 1
  | node d _ a b => if d = 1 then max a.lh b.lh else a.lh + 1 + b.lh
/-- Each part has room. -/
def fits : Tr → Int → Int → Prop
  | leaf _, w, h => 1 ≤ w ∧ 1 ≤ h
  | node d f a b, w, h => 1 ≤ f ∧ (if d = 1 then f ≤ w - 2 ∧ a.fits f h ∧ b.fits (w - f - 1) h else f ≤ h - 2 ∧ a.fits w f ∧ b.fits w (h - f - 1))
/-- The panes' places. -/
def spots : Tr → Rc → List Sp
  | leaf p, r => [⟨p, r⟩]
  | node d f a b, r => a.spots (cutA r d f) ++ b.spots (cutB r d f)
/-- The borders between them. -/
def borders : Tr → Rc → List Rc
  | leaf _, _ => []
  | node d f a b, r => cutM r d f :: (a.borders (cutA r d f) ++ b.borders (cutB r d f))
/-- Firsts that fit. -/
def fit : Tr → Int → Int → Tr
  | leaf p, _, _ => leaf p
  | node d f a b, w, h =>
    if d = 1 then node d (held f a.lw (w - 1 - b.lw)) (a.fit (held f a.lw (w - 1 - b.lw)) h) (b.fit (w - 1 - held f a.lw (w - 1 - b.lw)) h)
    else node d (held f a.lh (h - 1 - b.lh)) (a.fit w (held f a.lh (h - 1 - b.lh))) (b.fit w (h - 1 - held f a.lh (h - 1 - b.lh)))
/-- A leaf gives way to two. -/
def put (at' fresh d f : Int) : Tr → Tr
  | leaf p => if p = at' then node d f (leaf p) (leaf fresh) else leaf p
  | node e g a b => node e g (a.put at' fresh d f) (b.put at' fresh d f)
/-- Other names. -/
def ren (s : Int → Int) : Tr → Tr
  | leaf p => leaf (s p)
  | node d f a b => node d f (a.ren s) (b.ren s)
/-- One pane less. -/
def without (p : Int) : Tr → Tr
  | leaf q => leaf q
  | node d f a b => if a = leaf p then b else if b = leaf p then a else node d f (a.without p) (b.without p)

theorem least_pos : ∀ T : Tr, 1 ≤ T.lw ∧ 1 ≤ T.lh
  | leaf _ => by simp [lw, lh]
  | node d _ a b => by
    have := least_pos a; have := least_pos b
    simp only [lw, lh]
    split <;> omega

theorem fits_least : ∀ {T : Tr} {w h : Int}, T.fits w h → T.lw ≤ w ∧ T.lh ≤ h
  | leaf _, w, h, hf => hf
  | node d f a b, w, h, hf => by
    simp only [fits] at hf
    obtain ⟨_, hf⟩ := hf
    by_cases hd : d = 1
    · rw [if_pos hd] at hf
      obtain ⟨h1, ha, hb⟩ := hf
      have := fits_least ha; have := fits_least hb
      simp only [lw, lh, if_pos hd]
      omega
    · rw [if_neg hd] at hf
      obtain ⟨h1, ha, hb⟩ := hf
      have := fits_least ha; have := fits_least hb
      simp only [lw, lh, if_neg hd]
      omega

theorem fits_pos : ∀ {T : Tr} {w h : Int}, T.fits w h → 1 ≤ w ∧ 1 ≤ h := fun hf => by
  have := fits_least hf; rename_i T _ _; have := least_pos T; omega

theorem fit_least : ∀ (T : Tr) (w h : Int), (T.fit w h).lw = T.lw ∧ (T.fit w h).lh = T.lh
  | leaf _, _, _ => ⟨rfl, rfl⟩
  | node d f a b, w, h => by
    by_cases hd : d = 1
    · simp only [fit, lw, lh, if_pos hd, fit_least a, fit_least b, and_self]
    · simp only [fit, lw, lh, if_neg hd, fit_least a, fit_least b, and_self]
theorem fit_panes : ∀ (T : Tr) (w h : Int), (T.fit w h).panes = T.panes
  | leaf _, _, _ => rfl
  | node d f a b, w, h => by
    by_cases hd : d = 1
    · simp only [fit, panes, if_pos hd, fit_panes a, fit_panes b]
    · simp only [fit, panes, if_neg hd, fit_panes a, fit_panes b]
theorem fit_size : ∀ (T : Tr) (w h : Int), (T.fit w h).size = T.size
  | leaf _, _, _ => rfl
  | node d f a b, w, h => by
    by_cases hd : d = 1
    · simp only [fit, size, if_pos hd, fit_size a, fit_size b]
    · simp only [fit, size, if_neg hd, fit_size a, fit_size b]
theorem fit_fits : ∀ {T : Tr} {w h : Int}, T.lw ≤ w → T.lh ≤ h → (T.fit w h).fits w h
  | leaf _, w, h, h1, h2 => ⟨h1, h2⟩
  | node d f a b, w, h, h1, h2 => by
    have ha := least_pos a; have hb := least_pos b
    by_cases hd : d = 1
    · simp only [lw, lh, if_pos hd] at h1 h2
      have hh := held_in (n := f) (lo := a.lw) (hi := w - 1 - b.lw) (by omega)
      simp only [fit, if_pos hd, fits]
      refine ⟨by omega, by omega, fit_fits (by omega) (by omega), ?_⟩
      rw [show w - held f a.lw (w - 1 - b.lw) - 1 = w - 1 - held f a.lw (w - 1 - b.lw) by omega]
      exact fit_fits (by omega) (by omega)
    · simp only [lw, lh, if_neg hd] at h1 h2
      have hh := held_in (n := f) (lo := a.lh) (hi := h - 1 - b.lh) (by omega)
      simp only [fit, if_neg hd, fits]
      refine ⟨by omega, by omega, fit_fits (by omega) (by omega), ?_⟩
      rw [show h - held f a.lh (h - 1 - b.lh) - 1 = h - 1 - held f a.lh (h - 1 - b.lh) by omega]
      exact fit_fits (by omega) (by omega)
theorem fit_same : ∀ {T : Tr} {w h : Int}, T.fits w h → T.fit w h = T
  | leaf _, _, _, _ => rfl
  | node d f a b, w, h, hf => by
    simp only [fits] at hf
    obtain ⟨_, hf⟩ := hf
    by_cases hd : d = 1
    · rw [if_pos hd] at hf
      obtain ⟨h1, ha, hb⟩ := hf
      have la := fits_least ha; have lb := fits_least hb
      simp only [fit, if_pos hd]
      rw [held_eq (by omega) (by omega), fit_same ha, show w - 1 - f = w - f - 1 by omega, fit_same hb]
    · rw [if_neg hd] at hf
      obtain ⟨h1, ha, hb⟩ := hf
      have la := fits_least ha; have lb := fits_least hb
      simp only [fit, if_neg hd]
      rw [held_eq (by omega) (by omega), fit_same ha, show h - 1 - f = h - f - 1 by omega, fit_same hb]
theorem fit_good : ∀ {T : Tr} {w h : Int}, T.good → T.lw ≤ w → T.lh ≤ h → w ≤ 1000 → h ≤ 1000 → (T.fit w h).good
  | leaf _, _, _, hg, _, _, _, _ => hg
  | node d f a b, w, h, hg, h1, h2, h3, h4 => by
    obtain ⟨hd', hf1, hf2, hga, hgb⟩ := hg
    have ha := least_pos a; have hb := least_pos b
    by_cases hd : d = 1
    · simp only [lw, lh, if_pos hd] at h1 h2
      have hh := held_in (n := f) (lo := a.lw) (hi := w - 1 - b.lw) (by omega)
      simp only [fit, if_pos hd, good]
      exact ⟨hd', by omega, by omega, fit_good hga (by omega) (by omega) (by omega) (by omega), fit_good hgb (by omega) (by omega) (by omega) (by omega)⟩
    · simp only [lw, lh, if_neg hd] at h1 h2
      have hh := held_in (n := f) (lo := a.lh) (hi := h - 1 - b.lh) (by omega)
      simp only [fit, if_neg hd, good]
      exact ⟨hd', by omega, by omega, fit_good hga (by omega) (by omega) (by omega) (by omega), fit_good hgb (by omega) (by omega) (by omega) (by omega)⟩

theorem spots_panes : ∀ (T : Tr) (r : Rc), (T.spots r).map (·.pane) = T.panes
  | leaf _, _ => rfl
  | node d f a b, r => by simp only [spots, panes, List.map_append, spots_panes a, spots_panes b]
theorem spots_length (T : Tr) (r : Rc) : (T.spots r).length = T.panes.length := by rw [← spots_panes T r, List.length_map]
theorem borders_length : ∀ (T : Tr) (r : Rc), (T.borders r).length + 1 = T.panes.length
  | leaf _, _ => rfl
  | node d f a b, r => by
    have := borders_length a (cutA r d f); have := borders_length b (cutB r d f)
    simp only [borders, panes, List.length_cons, List.length_append]; omega

theorem ren_panes (s : Int → Int) : ∀ T : Tr, (T.ren s).panes = T.panes.map s
  | leaf _ => rfl
  | node d f a b => by simp only [ren, panes, List.map_append, ren_panes s a, ren_panes s b]
theorem ren_size (s : Int → Int) : ∀ T : Tr, (T.ren s).size = T.size
  | leaf _ => rfl
  | node d f a b => by simp only [ren, size, ren_size s a, ren_size s b]
theorem ren_spots (s : Int → Int) : ∀ (T : Tr) (r : Rc), (T.ren s).spots r = (T.spots r).map fun x => ⟨s x.pane, x.r⟩
  | leaf _, _ => rfl
  | node d f a b, r => by simp only [ren, spots, List.map_append, ren_spots s a, ren_spots s b]
theorem ren_borders (s : Int → Int) : ∀ (T : Tr) (r : Rc), (T.ren s).borders r = T.borders r
  | leaf _, _ => rfl
  | node d f a b, r => by simp only [ren, borders, ren_borders s a, ren_borders s b]
theorem ren_fits (s : Int → Int) : ∀ (T : Tr) (w h : Int), (T.ren s).fits w h ↔ T.fits w h
  | leaf _, _, _ => Iff.rfl
  | node d f a b, w, h => by simp only [ren, fits, ren_fits s a, ren_fits s b]
theorem ren_ren (s t : Int → Int) : ∀ T : Tr, (T.ren s).ren t = T.ren (fun p => t (s p))
  | leaf _ => rfl
  | node d f a b => by simp only [ren, ren_ren s t a, ren_ren s t b]
theorem ren_id {s : Int → Int} : ∀ {T : Tr}, (∀ p ∈ T.panes, s p = p) → T.ren s = T
  | leaf p, h => by simp only [ren]; rw [h p (by simp [panes])]
  | node d f a b, h => by
    simp only [ren]
    rw [ren_id (T := a) fun p hp => h p (by simp [panes, hp]), ren_id (T := b) fun p hp => h p (by simp [panes, hp])]
theorem ren_good {s : Int → Int} : ∀ {T : Tr}, T.good → (∀ p ∈ T.panes, 1 ≤ s p ∧ s p ≤ 1000000) → (T.ren s).good
  | leaf p, _, h => h p (by simp [panes])
  | node d f a b, hg, h => by
    obtain ⟨h1, h2, h3, ha, hb⟩ := hg
    exact ⟨h1, h2, h3, ren_good ha fun p hp => h p (by simp [panes, hp]), ren_good hb fun p hp => h p (by simp [panes, hp])⟩

theorem put_none {at' fresh d f : Int} : ∀ {T : Tr}, at' ∉ T.panes → T.put at' fresh d f = T
  | leaf p, h => by simp only [panes, List.mem_singleton] at h; simp only [put]; rw [if_neg (fun e => h e.symm)]
  | node _ _ a b, h => by
    simp only [panes, List.mem_append, not_or] at h
    simp only [put, put_none h.1, put_none h.2]
theorem put_panes {at' fresh d f : Int} : ∀ (T : Tr), (T.put at' fresh d f).panes = T.panes.flatMap fun p => if p = at' then [p, fresh] else [p]
  | leaf p => by
    simp only [put, panes, List.flatMap_cons, List.flatMap_nil, List.append_nil]
    split <;> rfl
  | node _ _ a b => by simp only [put, panes, List.flatMap_append, put_panes a, put_panes b]
theorem put_good {at' fresh d f : Int} (hd : d = 1 ∨ d = 2) (h1 : 1 ≤ f) (h2 : f ≤ 1000) (h3 : 1 ≤ fresh ∧ fresh ≤ 1000000) : ∀ {T : Tr}, T.good → (T.put at' fresh d f).good
  | leaf p, hg => by
    simp only [put]
    split
    · exact ⟨hd, h1, h2, hg, h3⟩
    · exact hg
  | node _ _ a b, ⟨g1, g2, g3, ha, hb⟩ => ⟨g1, g2, g3, put_good hd h1 h2 h3 ha, put_good hd h1 h2 h3 hb⟩
theorem put_fits {at' fresh d f : Int} (hd : d = 1 ∨ d = 2) (h1 : 1 ≤ f) : ∀ {T : Tr} {r : Rc}, T.fits r.w r.h →
    (∀ s ∈ T.spots r, s.pane = at' → f ≤ (if d = 1 then s.r.w else s.r.h) - 2) → (T.put at' fresh d f).fits r.w r.h
  | leaf p, r, hf, hs => by
    simp only [put]
    by_cases e : p = at'
    · rw [if_pos e]
      have := hs ⟨p, r⟩ (by simp [spots]) e
      obtain ⟨hw, hh⟩ := hf
      rcases hd with rfl | rfl
      · simp only [fits, if_true] at this ⊢; omega
      · simp only [fits] at this ⊢; simp at this ⊢; omega
    · rw [if_neg e]; exact hf
  | node e g a b, r, hf, hs => by
    simp only [fits] at hf
    obtain ⟨hg, hf⟩ := hf
    have sa : ∀ s ∈ a.spots (cutA r e g), s.pane = at' → f ≤ (if d = 1 then s.r.w else s.r.h) - 2 := fun s h => hs s (by simp only [spots, List.mem_append]; exact .inl h)
    have sb : ∀ s ∈ b.spots (cutB r e g), s.pane = at' → f ≤ (if d = 1 then s.r.w else s.r.h) - 2 := fun s h => hs s (by simp only [spots, List.mem_append]; exact .inr h)
    simp only [put, fits]
    refine ⟨hg, ?_⟩
    by_cases he : e = 1
    · rw [if_pos he] at hf ⊢
      obtain ⟨h2, ha, hb⟩ := hf
      refine ⟨h2, ?_, ?_⟩
      · have := put_fits hd h1 (T := a) (r := cutA r e g) (fresh := fresh) (by simpa only [cutA, if_pos he] using ha) sa
        simpa only [cutA, if_pos he] using this
      · have := put_fits hd h1 (T := b) (r := cutB r e g) (fresh := fresh) (by simpa only [cutB, if_pos he] using hb) sb
        simpa only [cutB, if_pos he] using this
    · rw [if_neg he] at hf ⊢
      obtain ⟨h2, ha, hb⟩ := hf
      refine ⟨h2, ?_, ?_⟩
      · have := put_fits hd h1 (T := a) (r := cutA r e g) (fresh := fresh) (by simpa only [cutA, if_neg he] using ha) sa
        simpa only [cutA, if_neg he] using this
      · have := put_fits hd h1 (T := b) (r := cutB r e g) (fresh := fresh) (by simpa only [cutB, if_neg he] using hb) sb
        simpa only [cutB, if_neg he] using this
theorem put_size {at' fresh d f : Int} : ∀ {T : Tr}, T.panes.Nodup → at' ∈ T.panes → (T.put at' fresh d f).size = T.size + 2
  | leaf p, _, h => by
    simp only [panes, List.mem_singleton] at h
    simp [put, h, size]
  | node _ _ a b, hn, h => by
    simp only [panes, List.nodup_append, List.mem_append] at hn h
    rcases h with h | h
    · rw [put, size, put_size hn.1 h, put_none (T := b) (fun h' => hn.2.2 _ h _ h' rfl), size]; omega
    · rw [put, size, put_size hn.2.1 h, put_none (T := a) (fun h' => hn.2.2 _ h' _ h rfl), size]; omega

theorem put_ne_leaf {at' fresh d f : Int} {T : Tr} (h : fresh ∉ T.panes) : T.put at' fresh d f ≠ leaf fresh := by
  cases T with
  | leaf p =>
    simp only [panes, List.mem_singleton] at h
    simp only [put]
    split
    · simp
    · simp only [ne_eq, leaf.injEq]; exact fun e => h e.symm
  | node => simp [put]
theorem put_without {at' fresh d f : Int} : ∀ {T : Tr}, fresh ∉ T.panes → (T.put at' fresh d f).without fresh = T
  | leaf p, h => by
    simp only [panes, List.mem_singleton] at h
    simp only [put]
    split
    · simp only [without]; rw [if_neg (by simp only [leaf.injEq]; exact fun e => h e.symm)]; simp
    · rfl
  | node _ _ a b, h => by
    simp only [panes, List.mem_append, not_or] at h
    simp only [put, without]
    rw [if_neg (put_ne_leaf h.1), if_neg (put_ne_leaf h.2), put_without h.1, put_without h.2]
end Tr
end Tp
namespace Tp
open Go Go.RowKit
/-- A row behind a slice: its address, length, capacity and cells. -/
structure Rw where
  a : Option Addr
  n : Nat
  c : Nat
  xs : List Value
deriving Inhabited
namespace Rw
def tot : List Rw → Nat
  | [] => 0
  | r :: l => r.n + tot l
def all : List Rw → List Value
  | [] => []
  | r :: l => r.xs ++ all l
theorem tot_append : ∀ l m : List Rw, tot (l ++ m) = tot l + tot m
  | [], m => by simp [tot]
  | r :: l, m => by simp only [List.cons_append, tot, tot_append l m]; omega
theorem all_append : ∀ l m : List Rw, all (l ++ m) = all l ++ all m
  | [], m => by simp [all]
  | r :: l, m => by simp only [List.cons_append, all, all_append l m, List.append_assoc]
theorem tot_succ (l : List Rw) (k : Nat) (h : k < l.length) : tot (l.take (k + 1)) = tot (l.take k) + l[k]!.n := by
  rw [List.take_succ_eq_append_getElem h, tot_append, getElem!_pos l k h]; simp [tot]
theorem all_succ (l : List Rw) (k : Nat) (h : k < l.length) : all (l.take (k + 1)) = all (l.take k) ++ l[k]!.xs := by
  rw [List.take_succ_eq_append_getElem h, all_append, getElem!_pos l k h]; simp [all]
theorem tot_take_le (l : List Rw) (k : Nat) : tot (l.take k) ≤ tot l := by
  have := tot_append (l.take k) (l.drop k)
  rw [List.take_append_drop] at this; omega
theorem tot_get_le (l : List Rw) (k : Nat) (h : k < l.length) : l[k]!.n ≤ tot l := by
  have h1 := tot_succ l k h; have h2 := tot_take_le l (k + 1); omega
end Rw
/-- What a call that lays rows one behind the other answers. -/
def CatPost (e : TypeId) (size n : Nat) (xs : List Value) (w : World) (x : Ending) (w' : World) : Prop :=
  ∃ v, x = .returned v ∧ w'.ownsRow w.heap.size e size v n xs ∧ Below w.heap.size w w'
end Tp
namespace Tp
open Go Go.RowKit

/-- A cell of a row of elements of one size. -/
theorem flat_get {α : Type} {f : α → List Value} {s : Nat} (hs : ∀ x, (f x).length = s) : ∀ (l : List α) (j i : Nat) (hj : j < l.length), i < s → (l.flatMap f)[j * s + i]? = (f l[j])[i]?
  | [], j, i, hj, _ => absurd hj (Nat.not_lt_zero _)
  | x :: l, 0, i, _, hi => by
    rw [Nat.zero_mul, Nat.zero_add, List.flatMap_cons, List.getElem?_append_left (by rw [hs]; exact hi)]; rfl
  | x :: l, j + 1, i, hj, hi => by
    rw [List.flatMap_cons, List.getElem?_append_right (by rw [hs, Nat.succ_mul]; omega), hs,
      show (j + 1) * s + i - s = j * s + i by rw [Nat.succ_mul]; omega, flat_get hs l j i (by simpa using hj) hi]
    rfl
theorem flat_length {α : Type} {f : α → List Value} {s : Nat} (hs : ∀ x, (f x).length = s) : ∀ l : List α, (l.flatMap f).length = l.length * s
  | [] => by simp
  | x :: l => by rw [List.flatMap_cons, List.length_append, hs, flat_length hs l, List.length_cons, Nat.succ_mul]; omega

/-- A slice that reads as a row of nodes. -/
def NodesAt (w : World) (v : Value) (l : List Nd) : Prop := ∃ b off c, v = .slice (some ⟨b, off, none⟩) l.length c ∧ b < w.heap.size ∧ NodesFrom w l b off 0

theorem NodesAt.below {w w' : World} {v : Value} {l : List Nd} (h : NodesAt w v l) (hW : Below w.heap.size w w') : NodesAt w' v l := by
  obtain ⟨b, off, c, e, hb, h⟩ := h
  exact ⟨b, off, c, e, Nat.lt_of_lt_of_le hb hW.size, h.below hb hW⟩
theorem Nd.cells_length (x : Nd) : x.cells.length = 5 := rfl
theorem NodesAt.of {w : World} {v : Value} {l : List Nd} (h : Rd w 5 v l.length (l.flatMap Nd.cells)) (h0 : 0 < l.length) : NodesAt w v l := by
  rcases h.2 with ⟨_, e⟩ | ⟨b, off, c, e, hb, hc⟩
  · omega
  · refine ⟨b, off, c, e, hb, fun j hj => ?_⟩
    have H : ∀ i (hi : i < 5), w.cell? ⟨b, off + (j * 5 + i), none⟩ = some ((l[j].cells)[i]'(by rw [Nd.cells_length]; exact hi)) := fun i hi =>
      hc _ _ (by rw [flat_get Nd.cells_length l j i hj hi]; exact List.getElem?_eq_getElem _)
    have h0 := H 0 (by omega); have h1 := H 1 (by omega); have h2 := H 2 (by omega); have h3 := H 3 (by omega); have h4 := H 4 (by omega)
    simp only [Nat.zero_add, getElem!_pos l j hj]
    simp only [Nd.cells, ← Nat.add_assoc, Nat.add_zero, List.getElem_cons_zero, List.getElem_cons_succ] at h0 h1 h2 h3 h4
    exact ⟨h0, h1, h2, h3, h4⟩

def Rc.cells (r : Rc) : List Value := [.int .i64 r.x, .int .i64 r.y, .int .i64 r.w, .int .i64 r.h]
def Sp.cells (s : Sp) : List Value := .int .i64 s.pane :: s.r.cells
theorem Rc.cells_length (x : Rc) : x.cells.length = 4 := rfl
theorem Sp.cells_length (x : Sp) : x.cells.length = 5 := rfl

/-- A slice that reads as a row of places, or of rectangles (nil where there is none). -/
def SpotsAt (w : World) (v : Value) (l : List Sp) : Prop := Rd w 5 v l.length (l.flatMap Sp.cells)
def RectsAt (w : World) (v : Value) (l : List Rc) : Prop := Rd w 4 v l.length (l.flatMap Rc.cells)
/-- A slice that reads as a row of numbers. -/
def IntsAt (w : World) (v : Value) (l : List Int) : Prop := Rd w 1 v l.length (l.map (Value.int .i64))

theorem SpotsAt.at {w : World} {v : Value} {l : List Sp} (h : SpotsAt w v l) (h0 : 0 < l.length) : ∃ b off c, v = .slice (some ⟨b, off, none⟩) l.length c ∧ b < w.heap.size ∧
    ∀ j, (hj : j < l.length) → w.cell? ⟨b, off + j * 5, none⟩ = some (.int .i64 l[j].pane) ∧ w.cell? ⟨b, off + j * 5 + 1, none⟩ = some (.int .i64 l[j].r.x) ∧ w.cell? ⟨b, off + j * 5 + 2, none⟩ = some (.int .i64 l[j].r.y) ∧
      w.cell? ⟨b, off + j * 5 + 3, none⟩ = some (.int .i64 l[j].r.w) ∧ w.cell? ⟨b, off + j * 5 + 4, none⟩ = some (.int .i64 l[j].r.h) := by
  rcases h.2 with ⟨_, e⟩ | ⟨b, off, c, e, hb, hc⟩
  · omega
  · refine ⟨b, off, c, e, hb, fun j hj => ?_⟩
    have H : ∀ i (hi : i < 5), w.cell? ⟨b, off + (j * 5 + i), none⟩ = some ((l[j].cells)[i]'(by rw [Sp.cells_length]; exact hi)) := fun i hi =>
      hc _ _ (by rw [flat_get Sp.cells_length l j i hj hi]; exact List.getElem?_eq_getElem _)
    have h0 := H 0 (by omega); have h1 := H 1 (by omega); have h2 := H 2 (by omega); have h3 := H 3 (by omega); have h4 := H 4 (by omega)
    simp only [Sp.cells, Rc.cells, ← Nat.add_assoc, Nat.add_zero, List.getElem_cons_zero, List.getElem_cons_succ] at h0 h1 h2 h3 h4
    exact ⟨h0, h1, h2, h3, h4⟩
theorem RectsAt.at {w : World} {v : Value} {l : List Rc} (h : RectsAt w v l) (h0 : 0 < l.length) : ∃ b off c, v = .slice (some ⟨b, off, none⟩) l.length c ∧ b < w.heap.size ∧
    ∀ j, (hj : j < l.length) → w.cell? ⟨b, off + j * 4, none⟩ = some (.int .i64 l[j].x) ∧ w.cell? ⟨b, off + j * 4 + 1, none⟩ = some (.int .i64 l[j].y) ∧
      w.cell? ⟨b, off + j * 4 + 2, none⟩ = some (.int .i64 l[j].w) ∧ w.cell? ⟨b, off + j * 4 + 3, none⟩ = some (.int .i64 l[j].h) := by
  rcases h.2 with ⟨_, e⟩ | ⟨b, off, c, e, hb, hc⟩
  · omega
  · refine ⟨b, off, c, e, hb, fun j hj => ?_⟩
    have H : ∀ i (hi : i < 4), w.cell? ⟨b, off + (j * 4 + i), none⟩ = some ((l[j].cells)[i]'(by rw [Rc.cells_length]; exact hi)) := fun i hi =>
      hc _ _ (by rw [flat_get Rc.cells_length l j i hj hi]; exact List.getElem?_eq_getElem _)
    have h0 := H 0 (by omega); have h1 := H 1 (by omega); have h2 := H 2 (by omega); have h3 := H 3 (by omega)
    simp only [Rc.cells, ← Nat.add_assoc, Nat.add_zero, List.getElem_cons_zero, List.getElem_cons_succ] at h0 h1 h2 h3
    exact ⟨h0, h1, h2, h3⟩
theorem IntsAt.at {w : World} {v : Value} {l : List Int} (h : IntsAt w v l) (h0 : 0 < l.length) : ∃ b off c, v = .slice (some ⟨b, off, none⟩) l.length c ∧ b < w.heap.size ∧
    ∀ j, (hj : j < l.length) → w.cell? ⟨b, off + j, none⟩ = some (.int .i64 l[j]) := by
  rcases h.2 with ⟨_, e⟩ | ⟨b, off, c, e, hb, hc⟩
  · omega
  · exact ⟨b, off, c, e, hb, fun j hj => hc j _ (by simp [hj])⟩
theorem Rd.val {w : World} {size : Nat} {v : Value} {n : Nat} {xs : List Value} (h : Rd w size v n xs) : ∃ A c, v = .slice A n c ∧ (n ≠ 0 → ∃ a, A = some a) := by
  rcases h.2 with ⟨e, en⟩ | ⟨b, off, c, e, _, _⟩
  · exact ⟨none, 0, by rw [e, en], fun h => absurd en h⟩
  · exact ⟨_, c, e, fun _ => ⟨_, rfl⟩⟩
end Tp
