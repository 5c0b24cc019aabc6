/-
  OperOthers: the law, of whatever two ops.
-/
import Derived.Test.YtoloiegahmehkaaUOoD
namespace Go.Proofs.Ytoloiegahmehkaa.Oo
open Go Go.Cm Go.RowKit

theorem op_toks {μ : Mu} {say : List (Value → Prop)} (hs : μ.sy = sayAt say) {i0 i1 i2 i3 i4 i5 i6 i7 i8 i9 : Nat} {o : OpT} {n : Nat}
    (h0 : say[i0]? = some (· = .int .i64 o.k)) (h1 : say[i1]? = some (· = .string o.nm)) (h2 : say[i2]? = some (· = .int .i64 o.wi)) (h3 : say[i3]? = some (· = .int .i64 o.pa)) (h4 : say[i4]? = some (· = .int .i64 o.ot)) (h5 : say[i5]? = some (· = .int .i64 o.w)) (h6 : say[i6]? = some (· = .int .i64 o.h)) (h7 : say[i7]? = some (· = .int .i64 o.d)) (h8 : say[i8]? = some (· = .float o.fk o.fb)) (h9 : say[i9]? = some (isSl n))
    (hdt : o.dt = .slice none 0 0 ∧ n = 0 ∨ ∃ els, o.dt = fzs n els) {v' : Value} (hc : Cold μ.fz o.val v') : VRel μ (.agg ⟨opTok (tok i0) i1 i2 i3 i4 i5 i6 i7 i8 i9⟩) v' := by
  obtain ⟨c', rfl, hl⟩ := hc.rel.ofAgg
  have hl : VRels μ [.int .i64 o.k, .string o.nm, .int .i64 o.wi, .int .i64 o.pa, .int .i64 o.ot, .int .i64 o.w, .int .i64 o.h, .int .i64 o.d, .float o.fk o.fb, o.dt] c'.toList := hl
  have hd : ∃ y9, c'.toList[9]? = some y9 ∧ Cold μ.fz o.dt y9 := by
    cases hc with
    | plain _ hp =>
      refine ⟨o.dt, rfl, ?_⟩
      rcases hdt with ⟨e, _⟩ | ⟨els, e⟩
      · rw [e]; exact .plain _ rfl
      · exfalso; revert hp; show plain (.agg ⟨[_, _, _, _, _, _, _, _, _, o.dt]⟩) = true → False; rw [e]; intro h; cases h
    | agg _ _ h => exact h.get 9 o.dt rfl
  obtain ⟨y0, y1, y2, y3, y4, y5, y6, y7, y8, y9, e, g0, g1, g2, g3, g4, g5, g6, g7, g8, g9⟩ := vrels10 hl
  obtain ⟨y, hy, hcold⟩ := hd
  rw [e] at hy
  injection hy with hy; subst hy
  have e0 := g0.eq rfl
  have e1 := g1.eq rfl
  have e2 := g2.eq rfl
  have e3 := g3.eq rfl
  have e4 := g4.eq rfl
  have e5 := g5.eq rfl
  have e6 := g6.eq rfl
  have e7 := g7.eq rfl
  have e8 := g8.eq rfl
  subst e0 e1 e2 e3 e4 e5 e6 e7 e8
  have hsl : isSl n y9 ∧ tokB y9 = true := by
    rcases hdt with ⟨h, rfl⟩ | ⟨els, h⟩
    · rw [h] at hcold
      have := hcold.rel.eq rfl
      subst this
      exact ⟨Or.inl ⟨rfl, rfl⟩, rfl⟩
    · rw [h] at hcold; exact sl_cold hcold
  refine .agg _ _ ?_
  rw [e]
  exact .cons _ _ _ _ (tok_rel hs h0 rfl rfl) (.cons _ _ _ _ (tok_rel hs h1 rfl rfl) (.cons _ _ _ _ (tok_rel hs h2 rfl rfl) (.cons _ _ _ _ (tok_rel hs h3 rfl rfl) (.cons _ _ _ _ (tok_rel hs h4 rfl rfl) (.cons _ _ _ _ (tok_rel hs h5 rfl rfl) (.cons _ _ _ _ (tok_rel hs h6 rfl rfl) (.cons _ _ _ _ (tok_rel hs h7 rfl rfl) (.cons _ _ _ _ (tok_rel hs h8 rfl rfl) (.cons _ _ _ _ (tok_rel hs h9 hsl.1 hsl.2) .nil)))))))))

def opTy : Ty := .agg (.pair (.int .i64) (.pair .string (.pair (.int .i64) (.pair (.int .i64) (.pair (.int .i64) (.pair (.int .i64) (.pair (.int .i64) (.pair (.int .i64) (.pair (.float .f64) (.pair (.slice (.int .u8)) .unit))))))))))
theorem op_has {v : Value} {cs : List Value} (h : opTy.Has cs) (hv : v = .agg ⟨cs⟩) : ∃ (o : OpT) (n : Nat), v = o.val ∧ o.nm.size ≤ 9223372036854775807 ∧ (o.dt = .slice none 0 0 ∧ n = 0 ∨ ∃ els, o.dt = fzs n els) := by
  obtain ⟨_, _, ⟨k, rfl, _⟩, ⟨_, _, ⟨nm, rfl, hn⟩, ⟨_, _, ⟨wi, rfl, _⟩, ⟨_, _, ⟨pa, rfl, _⟩, ⟨_, _, ⟨ot, rfl, _⟩, ⟨_, _, ⟨w, rfl, _⟩, ⟨_, _, ⟨hh, rfl, _⟩, ⟨_, _, ⟨d, rfl, _⟩, ⟨_, _, ⟨fb, rfl, _⟩, ⟨_, _, hdt, rfl, rfl⟩, rfl⟩, rfl⟩, rfl⟩, rfl⟩, rfl⟩, rfl⟩, rfl⟩, rfl⟩, rfl⟩ := h
  rcases hdt with rfl | ⟨els, _, _, rfl⟩
  · exact ⟨⟨k, nm, wi, pa, ot, w, hh, d, .f64, fb, .slice none 0 0⟩, 0, hv, hn, Or.inl ⟨rfl, rfl⟩⟩
  · exact ⟨⟨k, nm, wi, pa, ot, w, hh, d, .f64, fb, fzs els.length els.flatten⟩, els.length, hv, hn, Or.inr ⟨_, rfl⟩⟩

theorem others (cs : List Value) (h : HasArgs [opTy, opTy] cs) (W : World) (args : Array Value) (hc : Colds (fun b => W.heap[b]?) cs args.toList) : Calls Try.prog 3 args W fun e W' => e = .returned (.bool true) ∧ Below W.heap.size W W' := by
  obtain ⟨c1, _, h1, ⟨c2, _, h2, rfl, rfl⟩, rfl⟩ := h
  obtain ⟨o, n, eo, ho, hdo⟩ := op_has h1 rfl
  obtain ⟨p, m, ep, hp, hdp⟩ := op_has h2 rfl
  rw [eo, ep] at hc
  have rel : ∀ (j c : Nat) (b1 b2 : Bool), VRels ⟨(globMu 0 (env4 o p n m j c b1 b2).sy).at_, fun b => W.heap[b]?, (env4 o p n m j c b1 b2).sy⟩ [.agg ⟨opTok (tok 0) 1 2 3 4 5 6 7 8 9⟩, .agg ⟨opTok (tok 10) 11 12 13 14 15 16 17 18 19⟩] args.toList := by
    intro j c b1 b2
    revert hc
    generalize args.toList = l
    intro hc
    cases hc with
    | cons _ x _ _ hx hl =>
      cases hl with
      | cons _ y _ _ hy hl =>
        cases hl
        exact .cons _ _ _ _ (op_toks (say := say3 o p n m) rfl rfl rfl rfl rfl rfl rfl rfl rfl rfl rfl hdo hx) (.cons _ _ _ _ (op_toks (say := say3 o p n m) rfl rfl rfl rfl rfl rfl rfl rfl rfl rfl rfl hdp hy) .nil)
  obtain ⟨j, hj, ej⟩ := low15 o.k
  obtain ⟨c, hcc, ec⟩ := chk_range j o.nm o.w o.h o.d n
  have go : ∀ b1 b2 : Bool, decide ((2000 : Int) < (n : Nat)) = b1 → decide ((2000 : Int) < (m : Nat)) = b2 → yes (env4 o p n m j c b1 b2) 1000 3 [.agg ⟨opTok (tok 0) 1 2 3 4 5 6 7 8 9⟩, .agg ⟨opTok (tok 10) 11 12 13 14 15 16 17 18 19⟩] 0 = true →
      Calls Try.prog 3 args W fun e W' => e = .returned (.bool true) ∧ Below W.heap.size W W' := fun b1 b2 e1 e2 hy =>
    yes_tok (E := env4 o p n m j c b1 b2) (made4 o p n m j c b1 b2 ho hp ej hj e1 e2 ec).ok (made4 o p n m j c b1 b2 ho hp ej hj e1 e2 ec).coded (fun _ h => by cases h) hy (fun _ _ h => h) (rel j c b1 b2) (fun _ _ h => by cases h)
  cases e1 : decide ((2000 : Int) < (n : Nat)) with
  | true => exact go true _ e1 rfl (others_run1 o p n m j c _)
  | false =>
    cases e2 : decide ((2000 : Int) < (m : Nat)) with
    | true => exact go false true e1 e2 (others_run2 o p n m j c)
    | false =>
      refine go false false e1 e2 ?_
      have := others_run o p n m
      rw [List.all_eq_true] at this
      have := this j (List.mem_range.2 hj)
      rw [List.all_eq_true] at this
      exact this c (List.mem_range.2 hcc)
theorem tidy : Tidy Try.prog := tidy_of _ (by kernel_rfl) (by kernel_rfl) (by kernel_rfl) (by kernel_rfl)
end Go.Proofs.Ytoloiegahmehkaa.Oo
