/-
  tree.Swap.
-/
import Derived.Test.YtkcibhokjiciiaaBb
import Derived.RegionTactic
import Derived.BigRegion
namespace Tp
open Go
/-- Two names that change places. -/
def sw (a b p : Int) : Int := if p = a then b else if p = b then a else p

/-- The blocks of a part's inner nodes. -/
def inn : Tr → List Nat → List Nat
  | .leaf _, _ => []
  | .node _ _ a b, S => S.take 1 ++ (inn a ((S.drop 1).take a.size) ++ inn b ((S.drop 1).drop a.size))
theorem inn_node {ty : TypeId} {w : World} {d f : Int} {a b : Tr} {k ka : Nat} {Sa Sb : List Nat} (ha : PartAt ty w a ka Sa) : inn (.node d f a b) (k :: (Sa ++ Sb)) = k :: (inn a Sa ++ inn b Sb) := by
  simp only [inn, List.take_succ_cons, List.take_zero, List.drop_succ_cons, List.drop_zero, List.singleton_append]
  rw [← ha.length, List.take_left, List.drop_left]
/-- Leaves that give way to parts. -/
def bind (g : Int → Tr) : Tr → Tr
  | .leaf q => g q
  | .node d f a b => .node d f (bind g a) (bind g b)
theorem bind_part {ty : TypeId} {w w' : World} {g : Int → Tr} : ∀ {T : Tr} {k : Nat} {S : List Nat}, PartAt ty w T k S → (∀ i ∈ inn T S, w'.heap[i]? = w.heap[i]?) → (∀ x ∈ lv T S, ∃ R, PartAt ty w' (g x.1) x.2 R) → ∃ R, PartAt ty w' (bind g T) k R
  | .leaf q, k, S, ⟨e, h⟩, _, hl => by subst e; exact hl (q, k) (List.mem_singleton.2 rfl)
  | .node d f a b, k, S, ⟨ka, kb, Sa, Sb, e, h, ha, hb⟩, hi, hl => by
    subst e
    rw [inn_node ha] at hi; rw [lv_node ha] at hl
    obtain ⟨Ra, pa⟩ := bind_part ha (fun i h => hi i (by simp [h])) (fun x h => hl x (by simp [h]))
    obtain ⟨Rb, pb⟩ := bind_part hb (fun i h => hi i (by simp [h])) (fun x h => hl x (by simp [h]))
    exact ⟨_, ka, kb, Ra, Rb, rfl, (hi k (by simp)).trans h, pa, pb⟩
theorem bind_ren (s : Int → Int) : ∀ T : Tr, bind (fun q => .leaf (s q)) T = T.ren s
  | .leaf _ => rfl
  | .node _ _ a b => by simp only [bind, Tr.ren, bind_ren s a, bind_ren s b]
theorem bind_put (p fresh d f : Int) : ∀ T : Tr, bind (fun q => if q = p then .node d f (.leaf q) (.leaf fresh) else .leaf q) T = T.put p fresh d f
  | .leaf _ => rfl
  | .node _ _ a b => by simp only [bind, Tr.put, bind_put p fresh d f a, bind_put p fresh d f b]
theorem lv_mem {ty : TypeId} {w : World} : ∀ {T : Tr} {k : Nat} {S : List Nat}, PartAt ty w T k S → ∀ x ∈ lv T S, x.2 ∈ S ∧ w.heap[x.2]? = some (.cells #[.int .i64 x.1, .int .i64 0, .int .i64 0, .pointer none, .pointer none] ty)
  | .leaf q, k, S, ⟨e, h⟩, x, hx => by subst e; simp only [lv, List.map_cons, List.map_nil, List.mem_singleton] at hx; subst hx; exact ⟨List.mem_singleton.2 rfl, h⟩
  | .node d f a b, k, S, ⟨ka, kb, Sa, Sb, e, h, ha, hb⟩, x, hx => by
    subst e
    rw [lv_node ha, List.mem_append] at hx
    rcases hx with hx | hx
    · have := lv_mem ha x hx; exact ⟨by simp [this.1], this.2⟩
    · have := lv_mem hb x hx; exact ⟨by simp [this.1], this.2⟩
theorem inn_mem {ty : TypeId} {w : World} : ∀ {T : Tr} {k : Nat} {S : List Nat}, PartAt ty w T k S → ∀ i ∈ inn T S, i ∈ S
  | .leaf q, k, S, _, i, hi => by simp [inn] at hi
  | .node d f a b, k, S, ⟨ka, kb, Sa, Sb, e, h, ha, hb⟩, i, hi => by
    subst e
    rw [inn_node ha] at hi
    simp only [List.mem_cons, List.mem_append] at hi ⊢
    rcases hi with hi | hi | hi
    · exact .inl hi
    · exact .inr (.inl (inn_mem ha i hi))
    · exact .inr (.inr (inn_mem hb i hi))
/-- A leaf's block is no inner node's, and no other leaf's. -/
theorem lv_apart {ty : TypeId} {w : World} : ∀ {T : Tr} {k : Nat} {S : List Nat}, PartAt ty w T k S → S.Nodup → (∀ x ∈ lv T S, x.2 ∉ inn T S) ∧ (∀ x ∈ lv T S, ∀ y ∈ lv T S, x.2 = y.2 → x.1 = y.1)
  | .leaf q, k, S, ⟨e, h⟩, _ => by
    subst e
    refine ⟨fun x _ => by simp [inn], fun x hx y hy _ => ?_⟩
    simp only [lv, List.map_cons, List.map_nil, List.mem_singleton] at hx hy
    rw [hx, hy]
  | .node d f a b, k, S, ⟨ka, kb, Sa, Sb, e, h, ha, hb⟩, hS => by
    subst e
    rw [List.nodup_cons, List.nodup_append, List.mem_append, not_or] at hS
    obtain ⟨⟨hka, hkb⟩, hnA, hnB, hAB⟩ := hS
    obtain ⟨a1, a2⟩ := lv_apart ha hnA
    obtain ⟨b1, b2⟩ := lv_apart hb hnB
    rw [lv_node ha, inn_node ha]
    refine ⟨fun x hx hi => ?_, fun x hx y hy e => ?_⟩
    · simp only [List.mem_append, List.mem_cons] at hx hi
      rcases hx with hx | hx
      · have hm := (lv_mem ha x hx).1
        rcases hi with hi | hi | hi
        · rw [hi] at hm; exact hka hm
        · exact a1 x hx hi
        · exact hAB _ hm _ (inn_mem hb _ hi) rfl
      · have hm := (lv_mem hb x hx).1
        rcases hi with hi | hi | hi
        · rw [hi] at hm; exact hkb hm
        · exact hAB _ (inn_mem ha _ hi) _ hm rfl
        · exact b1 x hx hi
    · rw [List.mem_append] at hx hy
      rcases hx with hx | hx <;> rcases hy with hy | hy
      · exact a2 x hx y hy e
      · exact absurd e (hAB _ (lv_mem ha x hx).1 _ (lv_mem hb y hy).1)
      · exact absurd e.symm (hAB _ (lv_mem ha y hy).1 _ (lv_mem hb x hx).1)
      · exact b2 x hx y hy e
theorem inj_map {α β : Type} {f : α → β} : ∀ {l : List α}, (l.map f).Nodup → ∀ x ∈ l, ∀ y ∈ l, f x = f y → x = y
  | [], _, x, hx, _, _, _ => by cases hx
  | z :: l, h, x, hx, y, hy, e => by
    rw [List.map_cons, List.nodup_cons] at h
    rcases List.mem_cons.1 hx with e1 | hx <;> rcases List.mem_cons.1 hy with e2 | hy
    · exact e1.trans e2.symm
    · exact absurd (List.mem_map.2 ⟨y, hy, by rw [← e, e1]⟩) h.1
    · exact absurd (List.mem_map.2 ⟨x, hx, by rw [e, e2]⟩) h.1
    · exact inj_map h.2 x hx y hy e
/-- Two leaves' names change places. -/
theorem swap_part {ty : TypeId} {w : World} {T : Tr} {k : Nat} {S : List Nat} (h : PartAt ty w T k S) (hS : S.Nodup) (hn : T.panes.Nodup) {a b : Int} {ia ib : Nat} (la : (a, ia) ∈ lv T S) (lb : (b, ib) ∈ lv T S) :
    ∃ R, PartAt ty ((w.setCell ⟨ia, 0, none⟩ (.int .i64 b)).setCell ⟨ib, 0, none⟩ (.int .i64 a)).drew (T.ren (sw a b)) k R := by
  obtain ⟨h1, h2⟩ := lv_apart h hS
  rw [← lv_panes h] at hn
  rw [← bind_ren]
  refine bind_part h (fun i hi => ?_) (fun x hx => ?_)
  · have e1 : i ≠ ia := fun e => h1 _ la (by rw [← e]; exact hi)
    have e2 : i ≠ ib := fun e => h1 _ lb (by rw [← e]; exact hi)
    show ((w.setCell ⟨ia, 0, none⟩ (.int .i64 b)).setCell ⟨ib, 0, none⟩ (.int .i64 a)).heap[i]? = _
    rw [Go.RowKit.Below.heap_setCell _ _ _ _ e2, Go.RowKit.Below.heap_setCell _ _ _ _ e1]
  · have hc := (lv_mem h x hx).2
    obtain ⟨p, i⟩ := x
    refine ⟨[i], rfl, ?_⟩
    show ((w.setCell ⟨ia, 0, none⟩ (.int .i64 b)).setCell ⟨ib, 0, none⟩ (.int .i64 a)).heap[i]? = _
    simp only at hc ⊢
    by_cases e2 : i = ib
    · subst e2
      have := h2 _ hx _ lb rfl
      simp only at this; subst this
      have hs : sw a p p = a := by unfold sw; split <;> simp_all
      rw [hs]
      by_cases e1 : i = ia
      · subst e1
        exact heap_set (heap_set hc _) _
      · exact heap_set ((Go.RowKit.Below.heap_setCell _ _ _ _ e1).trans hc) _
    · rw [Go.RowKit.Below.heap_setCell _ _ _ _ e2]
      by_cases e1 : i = ia
      · subst e1
        have := h2 _ hx _ la rfl
        simp only at this; subst this
        rw [show sw p b p = b by simp [sw]]
        exact heap_set hc _
      · rw [Go.RowKit.Below.heap_setCell _ _ _ _ e1]
        have n1 : p ≠ a := fun e => e1 (congrArg Prod.snd (inj_map hn _ hx _ la e))
        have n2 : p ≠ b := fun e => e2 (congrArg Prod.snd (inj_map hn _ hx _ lb e))
        rw [show sw a b p = p by simp [sw, n1, n2]]
        exact hc
end Tp
namespace Go.Proofs
open Go.RowKit Go.Lib Go.Sort Tp
attribute [local go_sem ↓] Go.wp_at_zero Go.wp_at_succ

set_option maxRecDepth 100000 in
theorem Try.tswap_no (T : Tr) (hT : Whole T) (v : Value) (a b : Int) (w : World) (ha : a ∈ T.panes) (hb : b ∉ T.panes) (hv : NodesAt w v (T.nodes 0)) :
    Calls Try.prog 18 #[.agg #[v], .int .i64 a, .int .i64 b] w (NoTree w.heap.size w) := by
  have hP := Lib.hid (fun w' (hW : Below w.heap.size w w') => Try.parse_ok T hT v w' (hv.below hW))
  have hF := Lib.hid (fun w' k S p (h : PartAt 66 w' T k S) => Try.find_ok T k S p w' h)
  have hN := Lib.hid (fun w' k S (h : PartAt 66 w' T k S) => fnd_none h hb)
  have hA := Lib.hid (fun w' k S (h : PartAt 66 w' T k S) => fnd_some h ha)
  obtain ⟨b0, off, c, rfl, hb0⟩ := nodes_slice hv
  clear hv hT hb ha
  go_enter Try.func18, Try.ntmps18
  go_wp2_with fail
  go_at_call 27
  refine (hP.out _ (((Below.refl _ _).alloc (Nat.le_refl _) _).alloc (by simp) _)).mono ?_
  rintro e w1 ⟨k, S, rfl, hpa, hS, hSl, hb1⟩
  obtain ⟨hc1, hz1⟩ := bcell hb1
  have hs1 : w.heap.size + 2 ≤ w1.heap.size := by have := hb1.size; simp at this; omega
  have fa := hF.out w1 k S a hpa
  obtain ⟨ia, hia, _⟩ := hA.out _ _ _ hpa
  rw [hia] at fa
  have Fa := Lib.hid fa
  have fb := hF.out w1 k S b hpa
  rw [hN.out _ _ _ hpa] at fb
  have Fb := Lib.hid fb
  have q1 : w.heap.size + 1 < w1.heap.size := by omega
  clear hpa hS hSl fa fb hia
  go_wp2_with (first
    | (go_at_call_of 30 (Value.int .i64 b); refine (Fb.out).mono ?_; rintro e w2 ⟨rfl, rfl⟩; unfold ptr)
    | (go_at_call 30; refine (Fa.out).mono ?_; rintro e w2 ⟨rfl, rfl⟩; unfold ptr))
  refine bodyPost_ret (v := .tuple #[.agg #[.slice none 0 0], .bool false]) (by simp [results, Try.results18, go_sem, hc1]) rfl ⟨rfl, ?_⟩
  exact ((((Below.refl _ w).alloc (Nat.le_refl _) _).alloc (by simp) _).trans (hb1.mono (by simp; omega))).setCell (by simp) _

set_option maxRecDepth 100000 in
set_option maxHeartbeats 1000000 in
theorem Try.tswap_ok (T : Tr) (hT : Whole T) (v : Value) (a b : Int) (w : World) (ha : a ∈ T.panes) (hb : b ∈ T.panes) (hv : NodesAt w v (T.nodes 0)) :
    Calls Try.prog 18 #[.agg #[v], .int .i64 a, .int .i64 b] w (TreePost (T.ren (sw a b)) w.heap.size w) := by
  have ND := Lib.hid hT.nodup
  have hP := Lib.hid (fun w' (hW : Below w.heap.size w w') => Try.parse_ok T hT v w' (hv.below hW))
  have hF := Lib.hid (fun w' k S p (h : PartAt 66 w' T k S) => Try.find_ok T k S p w' h)
  have hA := Lib.hid (fun w' k S (h : PartAt 66 w' T k S) => fnd_some h ha)
  have hB := Lib.hid (fun w' k S (h : PartAt 66 w' T k S) => fnd_some h hb)
  have hM := Lib.hid (fun w' k S (h : PartAt 66 w' (T.ren (sw a b)) k S) => Try.made_new (T.ren (sw a b)) k S w' (by rw [Tr.ren_size]; have := hT.size; omega) h)
  obtain ⟨b0, off, c, rfl, hb0⟩ := nodes_slice hv
  clear hv hT hb ha
  go_enter Try.func18, Try.ntmps18
  go_wp2_with fail
  go_at_call 27
  refine (hP.out _ (((Below.refl _ _).alloc (Nat.le_refl _) _).alloc (by simp) _)).mono ?_
  rintro e w1 ⟨k, S, rfl, hpa, hS, hSl, hb1⟩
  obtain ⟨hc1, hz1⟩ := bcell hb1
  have hs1 : w.heap.size + 2 ≤ w1.heap.size := by have := hb1.size; simp at this; omega
  have fa := hF.out w1 k S a hpa
  obtain ⟨ia, hia, hla⟩ := hA.out _ _ _ hpa
  rw [hia] at fa
  have fb := hF.out w1 k S b hpa
  obtain ⟨ib, hib, hlb⟩ := hB.out _ _ _ hpa
  rw [hib] at fb
  have Fa := Lib.hid fa
  have Fb := Lib.hid fb
  have q1 : w.heap.size + 1 < w1.heap.size := by omega
  obtain ⟨ma, ba⟩ := lv_mem hpa _ hla
  obtain ⟨mb, bb⟩ := lv_mem hpa _ hlb
  simp only at ma mb ba bb
  have ra : w.heap.size + 2 ≤ ia := by have := hSl _ ma; simp at this; omega
  have rb : w.heap.size + 2 ≤ ib := by have := hSl _ mb; simp at this; omega
  have xa : ia < w1.heap.size := hpa.lt _ ma
  have xb : ib < w1.heap.size := hpa.lt _ mb
  have c0 : w1.cell? ⟨ia, 0, none⟩ = some (.int .i64 a) := cell_block ba 0
  have z0 : w1.frozen? ⟨ia, 0, none⟩ = false := free_block ba 0
  have d0 : w1.cell? ⟨ib, 0, none⟩ = some (.int .i64 b) := cell_block bb 0
  have y0 : w1.frozen? ⟨ib, 0, none⟩ = false := free_block bb 0
  have HP := Lib.hid hpa
  have BA := Lib.hid ba; have BB := Lib.hid bb; have LA := Lib.hid hla; have LB := Lib.hid hlb; have HS := Lib.hid hS; have SL := Lib.hid hSl; have MA := Lib.hid ma; have MB := Lib.hid mb
  clear hpa fa fb ba bb hia hib hla hlb hS hSl ma mb
  go_wp2_with (first
    | (go_at_call_of 30 (Value.int .i64 b); refine (Fb.out).mono ?_; rintro e w2 ⟨rfl, rfl⟩; unfold ptr)
    | (go_at_call 30; refine (Fa.out).mono ?_; rintro e w2 ⟨rfl, rfl⟩; unfold ptr))
  have g1 : (w1.setCell ⟨ia, 0, none⟩ (.int .i64 b)).cell? ⟨ib, 0, none⟩ = some (.int .i64 b) := by
    by_cases e : ib = ia
    · subst e; exact cell_block (heap_set BA.out (j := 0) (.int .i64 b)) 0
    · exact (World.cell?_of_block (Below.heap_setCell _ _ _ _ e)).trans d0
  have g2 : (w1.setCell ⟨ib, 0, none⟩ (.int .i64 a)).cell? ⟨ia, 0, none⟩ = some (.int .i64 a) := by
    by_cases e : ia = ib
    · subst e; exact cell_block (heap_set BB.out (j := 0) (.int .i64 a)) 0
    · exact (World.cell?_of_block (Below.heap_setCell _ _ _ _ e)).trans c0
  have HQ := Lib.hid (swap_part HP.out HS.out ND.out LA.out LB.out)
  go_region
  have HB2 : Below (w.heap.size + 2) w1 ((w1.setCell ⟨ia, 0, none⟩ (.int .i64 b)).setCell ⟨ib, 0, none⟩ (.int .i64 a)).drew := (((Below.refl _ w1).setCell (p := ⟨ia, 0, none⟩) ra _).setCell (p := ⟨ib, 0, none⟩) rb _).drew
  obtain ⟨R, HR⟩ := HQ.out
  have hm := hM.out _ k R HR
  clear HQ HR
  generalize ((w1.setCell ⟨ia, 0, none⟩ (.int .i64 b)).setCell ⟨ib, 0, none⟩ (.int .i64 a)).drew = w2 at *
  have HM := Lib.hid hm
  obtain ⟨hc2, hz2⟩ := bcellB HB2
  have hs2 := HB2.size
  clear hm g1 g2 c0 z0 d0 y0
  go_wp2_with fail
  go_at_call 33
  refine (HM.out).mono ?_
  rintro e w4 ⟨g, off4, c4, rfl, hg4, hN, hb4⟩
  obtain ⟨hc4, hz4⟩ := bcell hb4
  have hs4 := hb4.size
  have HN := Lib.hid hN
  clear hN
  have q2 : w.heap.size + 1 < w2.heap.size := by omega
  have q4 : w.heap.size + 1 < w4.heap.size := by omega
  go_wp2
  refine bodyPost_ret (v := .tuple #[.agg #[.slice (some ⟨g, off4, none⟩) (T.ren (sw a b)).size c4], .bool true]) (by simp [results, Try.results18, go_sem, hc4, hc2, hc1, q2]) rfl ⟨_, _, _, rfl, by omega, ?_, ?_⟩
  · refine nodes_set HN.out (fun b o c' e => ?_) _ _
    injection e with e1 e2 e3; injection e1 with e1; injection e1 with e1
    rw [← e1]; omega
  · exact (((((Below.refl _ w).alloc (Nat.le_refl _) _).alloc (by simp) _).trans (hb1.mono (by simp; omega))).trans ((HB2.mono (by omega)).trans (hb4.mono (by omega)))).setCell (by simp) _
end Go.Proofs
