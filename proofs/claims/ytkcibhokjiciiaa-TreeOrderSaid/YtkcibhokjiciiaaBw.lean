/-
  Plain laws of trees of panes: the row of nodes, as the document's answer goes through it. The document's answer for trees: One, whether a rectangle is none, shares, nodes that move, where a pane's leaf stands.
-/
import Derived.Test.YtkcibhokjiciiaaBn
import Derived.Test.YtkcibhokjiciiaaBv
namespace Tp

/-- A node whose parts stand farther behind a place. -/
def Nd.moved (x : Nd) (k by' : Nat) : Nd := ⟨x.p, x.d, x.f, if (k : Int) < x.a then x.a + by' else x.a, if (k : Int) < x.b then x.b + by' else x.b⟩
/-- What a row becomes, where the node at k gives way to two: i is the first one's place. -/
def splitRow (k : Nat) (d f fresh : Int) : Nat → List Nd → List Nd
  | _, [] => []
  | i, x :: l => (if i = k then [⟨0, d, f, (k : Int) + 1, (k : Int) + 2⟩, x, ⟨fresh, 0, 0, 0, 0⟩] else [x.moved k 2]) ++ splitRow k d f fresh (i + 1) l
theorem splitRow_append (k : Nat) (d f fresh : Int) : ∀ (i : Nat) (l m : List Nd), splitRow k d f fresh i (l ++ m) = splitRow k d f fresh i l ++ splitRow k d f fresh (i + l.length) m
  | i, [], m => by simp [splitRow]
  | i, x :: l, m => by
    simp only [List.cons_append, splitRow, splitRow_append k d f fresh (i + 1) l m, List.append_assoc, List.length_cons]
    rw [show i + 1 + l.length = i + (l.length + 1) by omega]

namespace Tr
/-- Where a pane's leaf stands in the row, the first node at a place. -/
def pos (p : Int) : Tr → Nat → Option Nat
  | leaf q, k => if q = p then some k else none
  | node _ _ a b, k => (a.pos p (k + 1)).or (b.pos p (k + 1 + a.size))
theorem pos_in {p : Int} : ∀ {T : Tr} {o k : Nat}, T.pos p o = some k → o ≤ k ∧ k < o + T.size
  | leaf q, o, k, h => by
    simp only [pos] at h
    split at h
    · cases h; simp [size]
    · cases h
  | node d f a b, o, k, h => by
    simp only [pos] at h
    cases ha : a.pos p (o + 1) with
    | some j =>
      rw [ha] at h; simp only [Option.some_or, Option.some.injEq] at h; subst h
      have := pos_in ha; simp only [size]; omega
    | none =>
      rw [ha] at h; simp only [Option.none_or] at h
      have := pos_in h; simp only [size]; omega
theorem pos_none {p : Int} : ∀ {T : Tr} {o : Nat}, p ∉ T.panes → T.pos p o = none
  | leaf q, o, h => by simp only [panes, List.mem_singleton] at h; simp only [pos]; rw [if_neg (fun e => h e.symm)]
  | node d f a b, o, h => by
    simp only [panes, List.mem_append, not_or] at h
    simp only [pos, pos_none h.1, pos_none h.2, Option.none_or]
theorem pos_some {p : Int} : ∀ {T : Tr} {o : Nat}, p ∈ T.panes → ∃ k, T.pos p o = some k
  | leaf q, o, h => by simp only [panes, List.mem_singleton] at h; exact ⟨o, by simp [pos, h]⟩
  | node d f a b, o, h => by
    simp only [panes, List.mem_append] at h
    by_cases ha : p ∈ a.panes
    · obtain ⟨k, hk⟩ := pos_some (o := o + 1) ha; exact ⟨k, by simp [pos, hk]⟩
    · obtain ⟨k, hk⟩ := pos_some (o := o + 1 + a.size) (h.resolve_left ha)
      exact ⟨k, by simp only [pos, pos_none ha, Option.none_or, hk]⟩
/-- The node at that place is the leaf, and none ahead of it names the pane. -/
theorem pos_node {p : Int} (hp : 1 ≤ p) : ∀ {T : Tr} {o k : Nat}, T.good → T.pos p o = some k → ∃ l m, T.nodes o = l ++ ⟨p, 0, 0, 0, 0⟩ :: m ∧ o + l.length = k ∧ ∀ x ∈ l, x.p ≠ p
  | leaf q, o, k, _, h => by
    simp only [pos] at h
    split at h
    · rename_i e; cases h; exact ⟨[], [], by simp [nodes, e], by simp, by simp⟩
    · cases h
  | node d f a b, o, k, hg, h => by
    obtain ⟨_, _, _, hga, hgb⟩ := hg
    simp only [pos] at h
    cases ha : a.pos p (o + 1) with
    | some j =>
      rw [ha] at h; simp only [Option.some_or, Option.some.injEq] at h; subst h
      obtain ⟨l, m, e, el, hl⟩ := pos_node hp hga ha
      refine ⟨⟨0, d, f, (o + 1 : Nat), (o + 1 + a.size : Nat)⟩ :: l, m ++ b.nodes (o + 1 + a.size), by simp [nodes, e], by simp only [List.length_cons]; omega, fun x hx => ?_⟩
      rcases List.mem_cons.1 hx with rfl | hx
      · show (0 : Int) ≠ p; omega
      · exact hl x hx
    | none =>
      rw [ha] at h; simp only [Option.none_or] at h
      obtain ⟨l, m, e, el, hl⟩ := pos_node hp hgb h
      have hn := noname hga ha
      refine ⟨⟨0, d, f, (o + 1 : Nat), (o + 1 + a.size : Nat)⟩ :: (a.nodes (o + 1) ++ l), m, by simp [nodes, e], by simp only [List.length_cons, List.length_append, nodes_length]; omega, fun x hx => ?_⟩
      rcases List.mem_cons.1 hx with rfl | hx
      · show (0 : Int) ≠ p; omega
      · rcases List.mem_append.1 hx with hx | hx
        · exact hn x hx
        · exact hl x hx
where
  noname : ∀ {T : Tr} {o : Nat}, T.good → T.pos p o = none → ∀ x ∈ T.nodes o, x.p ≠ p
  | leaf q, o, _, h, x, hx => by
    simp only [pos] at h
    simp only [nodes, List.mem_singleton] at hx; subst hx
    split at h
    · cases h
    · rename_i e; exact e
  | node d f a b, o, hg, h, x, hx => by
    obtain ⟨_, _, _, hga, hgb⟩ := hg
    simp only [pos, Option.or_eq_none_iff] at h
    simp only [nodes] at hx
    rcases List.mem_cons.1 hx with rfl | hx
    · show (0 : Int) ≠ p; omega
    · rcases List.mem_append.1 hx with hx | hx
      · exact noname hga h.1 x hx
      · exact noname hgb h.2 x hx

/-- What stands behind the place moves, what stands ahead of it stays. -/
theorem split_behind (k : Nat) (d f fresh : Int) : ∀ (T : Tr) (o : Nat), k < o → splitRow k d f fresh o (T.nodes o) = T.nodes (o + 2)
  | leaf q, o, h => by
    simp only [nodes, splitRow, if_neg (Nat.ne_of_gt h), Nd.moved, List.append_nil]
    rw [if_neg (by omega)]
  | node e g a b, o, h => by
    simp only [nodes, splitRow, if_neg (Nat.ne_of_gt h), splitRow_append, nodes_length, split_behind k d f fresh a (o + 1) (by omega), split_behind k d f fresh b (o + 1 + a.size) (by omega), Nd.moved, List.singleton_append]
    rw [if_pos (by omega), if_pos (by omega), show o + 1 + 2 = o + 2 + 1 by omega, show o + 1 + a.size + 2 = o + 2 + 1 + a.size by omega]
    congr 2 <;> omega
theorem split_ahead (k : Nat) (d f fresh : Int) : ∀ (T : Tr) (o : Nat), o + T.size ≤ k → splitRow k d f fresh o (T.nodes o) = T.nodes o
  | leaf q, o, h => by
    simp only [size] at h
    simp only [nodes, splitRow, Nd.moved, List.append_nil]
    rw [if_neg (by omega), if_neg (by omega)]
  | node e g a b, o, h => by
    simp only [size] at h
    have := b.size_pos
    simp only [nodes, splitRow, splitRow_append, nodes_length, split_ahead k d f fresh a (o + 1) (by omega), split_ahead k d f fresh b (o + 1 + a.size) (by omega), Nd.moved]
    rw [if_neg (by omega), if_neg (by omega), if_neg (by omega)]; rfl
theorem split_at {p : Int} (k : Nat) (d f fresh : Int) : ∀ {T : Tr} {o : Nat}, T.panes.Nodup → T.pos p o = some k → splitRow k d f fresh o (T.nodes o) = (T.put p fresh d f).nodes o
  | leaf q, o, _, h => by
    simp only [pos] at h
    split at h
    · rename_i e; cases h
      simp only [nodes, splitRow, put, if_pos e, size]
      simp; omega
    · cases h
  | node e g a b, o, hn, h => by
    simp only [panes, List.nodup_append] at hn
    have hk := pos_in h
    simp only [pos] at h
    cases ha : a.pos p (o + 1) with
    | some j =>
      rw [ha] at h; simp only [Option.some_or, Option.some.injEq] at h; subst h
      have hj := pos_in ha
      have hm : p ∈ a.panes := Classical.byContradiction fun hx => by rw [pos_none hx] at ha; cases ha
      have hb : p ∉ b.panes := fun hx => hn.2.2 p hm p hx rfl
      simp only [nodes, splitRow, splitRow_append, nodes_length, split_at j d f fresh hn.1 ha, split_behind j d f fresh b (o + 1 + a.size) (by omega), put, put_none hb, put_size hn.1 hm, Nd.moved]
      rw [if_neg (by omega), if_neg (by omega), if_pos (by omega), show o + 1 + a.size + 2 = o + 1 + (a.size + 2) by omega]
      simp; omega
    | none =>
      rw [ha] at h; simp only [Option.none_or] at h
      have hj := pos_in h
      have hm : p ∉ a.panes := fun hx => by obtain ⟨i, hi⟩ := pos_some (o := o + 1) hx; rw [hi] at ha; cases ha
      simp only [nodes, splitRow, splitRow_append, nodes_length, split_ahead k d f fresh a (o + 1) (by omega), split_at k d f fresh hn.2.1 h, put, put_none hm, Nd.moved]
      rw [if_neg (by omega), if_neg (by omega), if_neg (by omega)]; rfl

/-- The panes are what the nodes name. -/
def named (x : Nd) : List Int := if 0 < x.p then [x.p] else []
theorem nodes_panes : ∀ {T : Tr} (o : Nat), T.good → (T.nodes o).flatMap named = T.panes
  | leaf p, o, hg => by
    have h : 0 < p := by have := hg.1; omega
    simp [nodes, panes, named, h]
  | node d f a b, o, hg => by
    simp only [nodes, panes, List.flatMap_cons, List.flatMap_append, nodes_panes _ hg.2.2.2.1, nodes_panes _ hg.2.2.2.2, named]
    simp
end Tr
end Tp
namespace Go.Proofs
open Go.RowKit Go.Lib Go.Sort Tp
attribute [local go_sem ↓] Go.wp_at_zero Go.wp_at_succ

/-- A tree's value. -/
def TreeVal (T : Tr) (w : World) (e : Ending) (w' : World) : Prop :=
  ∃ b off c, e = .returned (.agg #[.slice (some ⟨b, off, none⟩) T.size c]) ∧ w.heap.size ≤ b ∧ NodesAt w' (.slice (some ⟨b, off, none⟩) T.size c) (T.nodes 0) ∧ Below w.heap.size w w'

set_option maxRecDepth 100000 in
theorem Try.rone_ok (w : World) : Calls Try.prog 24 #[.int .i64 1] w (TreeVal (.leaf 1) w) := by
  go_enter Try.func24, Try.ntmps24
  go_wp2
  refine bodyPost_ret (v := .agg #[.slice (some ⟨w.heap.size + 1, 0, none⟩) 1 1]) (by simp [results, Try.results24, go_sem]) rfl ⟨_, _, _, rfl, by omega, ?_, ?_⟩
  · refine NodesAt.of (l := (Tr.leaf 1).nodes 0) ?_ (by simp [Tr.nodes])
    exact Rd.of_block (cs := #[.int .i64 1, .int .i64 0, .int .i64 0, .int .i64 0, .int .i64 0]) (t := 73) (fr := (0, 0)) (two_new w _ _).1 rfl
  · repeat (first | with_reducible exact Below.refl _ _ | with_reducible refine Below.drew ?_ | (with_reducible refine Below.setCell ?_ ?_ _; rotate_left; (first | omega | (simp <;> omega))) | (with_reducible refine Below.alloc ?_ ?_ _; rotate_left; (first | omega | (simp <;> omega))))

theorem Try.rheld_ok (n lo hi : Int) (w : World) : Calls Try.prog 44 #[.int .i64 n, .int .i64 lo, .int .i64 hi] w fun e w' => e = .returned (.int .i64 (held n lo hi)) ∧ w = w' := by
  go_enter Try.func44, Try.ntmps44
  go_wp2
  all_goals (go_ret; refine ⟨?_, rfl⟩; simp [held]; try omega)

set_option maxRecDepth 100000 in
theorem Try.rnone_ok (x y rw rh : Int) (h0 : 0 ≤ x) (h1 : 0 ≤ y) (h2 : 0 ≤ rw) (h3 : 0 ≤ rh) (h4 : x ≤ 1000) (h5 : y ≤ 1000) (h6 : rw ≤ 1000) (h7 : rh ≤ 1000) (w : World) :
    Calls Try.prog 35 #[.agg #[.int .i64 x, .int .i64 y, .int .i64 rw, .int .i64 rh]] w fun e w' => e = .returned (.bool false) ∧ w.alloc (.cells #[.int .i64 x, .int .i64 y, .int .i64 rw, .int .i64 rh] 37) = w' := by
  have e0 : decide (x < 0) = false := by simp; omega
  have e1 : decide (y < 0) = false := by simp; omega
  have e2 : decide (rw < 0) = false := by simp; omega
  have e3 : decide (rh < 0) = false := by simp; omega
  have e4 : decide (1000 < x) = false := by simp; omega
  have e5 : decide (1000 < y) = false := by simp; omega
  have e6 : decide (1000 < rw) = false := by simp; omega
  have e7 : decide (1000 < rh) = false := by simp; omega
  go_enter Try.func35, Try.ntmps35
  go_wp2
  go_ret
  exact ⟨rfl, rfl⟩

def PartTop (n : Int) (w : World) (e : Ending) (w' : World) : Prop := ∃ m : Int, m ≤ n ∧ e = .returned (.int .i64 m) ∧ Below w.heap.size w w'
set_option maxRecDepth 100000 in
theorem Try.rpart_ok (n : Int) (b : Nat) (w : World) (h0 : 0 ≤ n) (h1 : n ≤ 10000) : Calls Try.prog 45 #[.int .i64 n, .float .f64 b] w (PartTop n w) := by
  obtain ⟨r, w1, hr, hw1⟩ := arith_any (P := Try.prog) .mul (.inl rfl) 31 b (floatOfInt FloatKind.f64 n) w
  obtain ⟨z, w2, hz, hw2⟩ := conv_any (P := Try.prog) 31 3 Try.underlying31 Try.underlying3 r w1
  have W1 := Lib.hid hw1; have W2 := Lib.hid hw2
  clear hw1 hw2
  have m1 : max n 0 = n := by omega
  have m2 : min n 10000 = n := by omega
  go_enter Try.func45, Try.ntmps45
  go_wp2
  all_goals go_ret
  · exact ⟨n / 2, by omega, rfl, Below.refl _ _⟩
  · exact ⟨0, by omega, rfl, Below.refl _ _⟩
  · exact ⟨n, by omega, rfl, Below.refl _ _⟩
  · exact ⟨min z n, by omega, rfl, W1.out.trans (W2.out.mono W1.out.size)⟩

/-- A node that stands farther behind. -/
def MovedPost (x : Nd) (w : World) (e : Ending) (w' : World) : Prop := e = .returned (.agg #[.int .i64 x.p, .int .i64 x.d, .int .i64 x.f, .int .i64 x.a, .int .i64 x.b]) ∧ Below w.heap.size w w'
set_option maxRecDepth 100000 in
theorem Try.moved_ok (x : Nd) (k : Nat) (w : World) (_hk : k ≤ 1000) (h1 : 0 ≤ x.a) (h2 : x.a ≤ 1000) (h3 : 0 ≤ x.b) (h4 : x.b ≤ 1000) :
    Calls Try.prog 46 #[.agg #[.int .i64 x.p, .int .i64 x.d, .int .i64 x.f, .int .i64 x.a, .int .i64 x.b], .int .i64 (k : Int), .int .i64 2] w (MovedPost (x.moved k 2) w) := by
  obtain ⟨p, d, f, a, b⟩ := x
  simp only at h1 h2 h3 h4
  simp only [Nd.moved]
  by_cases ha : (k : Int) < a
  · by_cases hb : (k : Int) < b
    · go_enter Try.func46, Try.ntmps46
      go_wp2
      refine bodyPost_ret (v := .agg #[.int .i64 p, .int .i64 d, .int .i64 f, .int .i64 (a + 2), .int .i64 (b + 2)]) (by simp [results, Try.results46, go_sem]) rfl ⟨by simp, ?_⟩
      repeat (first | with_reducible exact Below.refl _ _ | with_reducible refine Below.drew ?_ | (with_reducible refine Below.setCell ?_ ?_ _; rotate_left; (first | omega | (simp <;> omega))) | (with_reducible refine Below.alloc ?_ ?_ _; rotate_left; (first | omega | (simp <;> omega))))
    · go_enter Try.func46, Try.ntmps46
      go_wp2
      refine bodyPost_ret (v := .agg #[.int .i64 p, .int .i64 d, .int .i64 f, .int .i64 (a + 2), .int .i64 b]) (by simp [results, Try.results46, go_sem]) rfl ⟨by simp, ?_⟩
      repeat (first | with_reducible exact Below.refl _ _ | with_reducible refine Below.drew ?_ | (with_reducible refine Below.setCell ?_ ?_ _; rotate_left; (first | omega | (simp <;> omega))) | (with_reducible refine Below.alloc ?_ ?_ _; rotate_left; (first | omega | (simp <;> omega))))
  · by_cases hb : (k : Int) < b
    · go_enter Try.func46, Try.ntmps46
      go_wp2
      refine bodyPost_ret (v := .agg #[.int .i64 p, .int .i64 d, .int .i64 f, .int .i64 a, .int .i64 (b + 2)]) (by simp [results, Try.results46, go_sem]) rfl ⟨by simp, ?_⟩
      repeat (first | with_reducible exact Below.refl _ _ | with_reducible refine Below.drew ?_ | (with_reducible refine Below.setCell ?_ ?_ _; rotate_left; (first | omega | (simp <;> omega))) | (with_reducible refine Below.alloc ?_ ?_ _; rotate_left; (first | omega | (simp <;> omega))))
    · go_enter Try.func46, Try.ntmps46
      go_wp2
      refine bodyPost_ret (v := .agg #[.int .i64 p, .int .i64 d, .int .i64 f, .int .i64 a, .int .i64 b]) (by simp [results, Try.results46, go_sem]) rfl ⟨by simp, ?_⟩
      repeat (first | with_reducible exact Below.refl _ _ | with_reducible refine Below.drew ?_ | (with_reducible refine Below.setCell ?_ ?_ _; rotate_left; (first | omega | (simp <;> omega))) | (with_reducible refine Below.alloc ?_ ?_ _; rotate_left; (first | omega | (simp <;> omega))))
end Go.Proofs
