/-
  Append.
-/
import Derived.Test.YtfofdglgacfklaaGreatDoorCmH
namespace Go.Cm
open Go Go.RowKit

/-- What append does once it knows how many. -/
def appendTail (zeros : Bool) (e : TypeId) (size sLen sCap n : Nat) (base : Option Addr) (x : Value) : Sem Value := do
  let appended : Sem (Array Value) :=
    if !zeros then Builtin.firstCells size n x
    else if n * size = 0 then pure #[]
    else do pure (Builtin.zeroCells (← zeroValue e).cells n)
  let need := sLen + n
  if need ≤ sCap then
    let new ← appended
    if let some a := base then storeCells (a.add (sLen * size)) new.toList
    pure (.slice base need sCap)
  else
    if (need : Int) > IntKind.i64.max ∧ (zeros ∨ (← typeInfo e).bytes = 0) then runtimePanic (.error "growslice: len out of range")
    if Builtin.nextslicecap need sCap * (← typeInfo e).bytes > 2 ^ 48 then (if zeros then runtimePanic (.error "growslice: len out of range") else do
      if !(← Builtin.mayShare size sLen n base x) then mark .noRoom
      unsupported (.resourceLimit "append: a slice or a string whose bytes no memory bears"))
    let newCap ← choose (.appendCap need sCap e)
    askRoom (newCap * (← typeInfo e).bytes)
    let old ← Builtin.firstCells size sLen (.slice base sLen sCap)
    let new ← appended
    let rest := Builtin.zeroCells (← zeroValue e).cells (newCap - need)
    pure (.slice (some (← newRow e (old ++ new ++ rest))) need newCap)

section
variable {E : Env} (ok : E.Ok) {base : Nat} {μ : Mu} {w : World} {s s' : St}
include ok

theorem append_plain {sT xT : TypeId} {e : TypeId} {d : TypeDesc} {argTypes : Array TypeId} {args : Array Value} {ty : TypeId} {b : Option Addr} {n c m : Nat} {x' : Value} {inf : TypeInfo} (ht0 : argTypes[0]? = some sT) (ht1 : argTypes[1]? = some xT) (ha0 : args[0]? = some (.slice b n c)) (ha1 : args[1]? = some x')
  (hd : E.und sT = some (.slice e)) (hx : E.und xT = some d) (hi : E.info e = some inf) (hz : isInt d = false) (hlen : (Builtin.lenOf x').run E.P w = .ok m w) :
    (Builtin.append_ argTypes ty args).run E.P w = (appendTail false e inf.size n c m b x').run E.P w := by
  unfold Builtin.append_ appendTail
  cases d <;> first
    | (cases hz; done)
    | (simp only [ht0, ht1, ha0, ha1, Sem.run_bind, ok.run_und w hd, ok.run_und w hx, Result.andThen_ok, ok.run_size w hi, Sem.run_pure, Bool.false_eq_true, if_false, hlen]; rfl)

theorem append_zeros {sT xT : TypeId} {e : TypeId} {d : TypeDesc} {argTypes : Array TypeId} {args : Array Value} {ty : TypeId} {b : Option Addr} {n c m : Nat} {k : IntKind} {inf : TypeInfo} (ht0 : argTypes[0]? = some sT) (ht1 : argTypes[1]? = some xT) (ha0 : args[0]? = some (.slice b n c)) (ha1 : args[1]? = some (.int k (.ofNat m)))
  (hd : E.und sT = some (.slice e)) (hx : E.und xT = some d) (hi : E.info e = some inf) (hz : isInt d = true) (hm1 : m ≤ 1000000000) (hm2 : m * inf.bytes ≤ 1000000000000) :
    (Builtin.append_ argTypes ty args).run E.P w = (appendTail true e inf.size n c m b (.int k (.ofNat m))).run E.P w := by
  unfold Builtin.append_ appendTail
  have hd' : ∃ k, d = .int k := by cases d <;> first | exact ⟨_, rfl⟩ | cases hz
  obtain ⟨kk, rfl⟩ := hd'
  have hw : IntKind.i64.wrap (Int.ofNat m) = (m : Int) := wrap_small m hm1
  have hb2 : ¬ ((m : Int) * (inf.bytes : Int) > 2 ^ 48) := by
    have : ((m * inf.bytes : Nat) : Int) ≤ ((1000000000000 : Nat) : Int) := Int.ofNat_le.2 hm2
    rw [Int.natCast_mul] at this
    omega
  have hneg : ¬ ((m : Int) < 0) := by omega
  simp only [ht0, ht1, ha0, ha1, ok.run_und w hd, ok.run_und w hx, ok.run_size w hi, if_true, Sem.run_bind, asInt, asIntOf, Sem.run_pure, Result.andThen_ok, hw, hneg, if_false, ok.run_info w hi, hb2, Int.toNat_natCast]
  rfl

/-- What is appended, as the model has it. -/
def appendedS (zeros : Bool) (e : TypeId) (size n : Nat) (x : Value) : Sem (Array Value) :=
  if !zeros then Builtin.firstCells size n x
  else if n * size = 0 then pure #[]
  else do pure (Builtin.zeroCells (← zeroValue e).cells n)

omit ok in
theorem tail_in {zeros : Bool} {e : TypeId} {size n c m : Nat} {b : Option Addr} {x' : Value} {l' : List Value} {w' : World} (hle : n + m ≤ c) (happ : (appendedS zeros e size m x').run E.P w = .ok ⟨l'⟩ w)
    (hst : match b with | some a => (storeCells (a.add (n * size)) l').run E.P w = .ok () w' | none => w' = w) :
    (appendTail zeros e size n c m b x').run E.P w = .ok (.slice b (n + m) c) w' := by
  unfold appendTail
  simp only [if_pos hle]
  rw [Sem.run_bind]
  show ((appendedS zeros e size m x').run E.P w).andThen _ = _
  rw [happ, Result.andThen_ok]
  cases b with
  | none => simp only at hst; rw [hst]; rfl
  | some a =>
    simp only at hst ⊢
    rw [Sem.run_bind, hst, Result.andThen_ok]; rfl

theorem tail_new {zeros : Bool} {e : TypeId} {inf : TypeInfo} {z : Value} {i : Elem} {n c m : Nat} {b : Option Addr} {x' : Value} {l' o' : List Value} (he : ElemOk E e i inf z) (hgt : c < n + m) (hreach : inReach (n + m) i.bytes = true)
    (happ : ∀ w2 : World, (∀ b : Nat, w2.heap[b]? = w.heap[b]?) → (appendedS zeros e inf.size m x').run E.P w2 = .ok ⟨l'⟩ w2)
    (hold : ∀ w2 : World, (∀ b : Nat, w2.heap[b]? = w.heap[b]?) → (Builtin.firstCells inf.size n (.slice b n c)).run E.P w2 = .ok ⟨o'⟩ w2) :
    ∃ cap k : Nat, n + m ≤ cap ∧ k + (n + m) = cap ∧ (appendTail zeros e inf.size n c m b x').run E.P w = .ok (.slice (some ⟨w.heap.size, 0, none⟩) (n + m) cap) (w.drew.alloc (.cells ⟨o' ++ l' ++ repeats i.zero k⟩ e)) := by
  obtain ⟨h1, h2⟩ := reach_some hreach
  let cap := (Question.appendCap (n + m) c e).cut (w.tape w.drawn (.appendCap (n + m) c e))
  have hcap : n + m ≤ cap := by show n + m ≤ (n + m) + _; omega
  refine ⟨cap, cap - (n + m), hcap, by omega, ?_⟩
  unfold appendTail
  have hnc := nextcap_le (n + m) c hgt
  have hbig : ¬ (Builtin.nextslicecap (n + m) c * inf.bytes > 2 ^ 48) := by
    rw [he.bytes]
    have a1 : Builtin.nextslicecap (n + m) c * i.bytes ≤ (2 * (n + m) + 192) * i.bytes := Nat.mul_le_mul_right _ hnc
    have a2 : (2 * (n + m) + 192) * i.bytes ≤ (2 * (n + m) + 192 * (n + m)) * i.bytes := Nat.mul_le_mul_right _ (by omega)
    have a3 : (2 * (n + m) + 192 * (n + m)) * i.bytes = 194 * ((n + m) * i.bytes) := by rw [← Nat.add_mul, Nat.mul_assoc]
    omega
  have hmax : ¬ (((n + m : Nat) : Int) > IntKind.i64.max) := by
    rw [IntKind.max_i64]; omega
  have hz : z.cells = ⟨i.zero⟩ := by apply Array.ext'; exact he.cells.symm
  have hq : (Question.appendCap (n + m) c e).forced = false := rfl
  have hdrew : ∀ b : Nat, w.drew.heap[b]? = w.heap[b]? := fun _ => rfl
  have happ' := happ w.drew hdrew
  unfold appendedS at happ'
  simp only [if_neg (show ¬ (n + m ≤ c) by omega), Sem.run_bind, ok.run_info w he.info, Result.andThen_ok, hmax, false_and, if_false, hbig, run_choose, hq, Bool.false_eq_true, World.drew_eq, ok.run_info w.drew he.info, run_askRoom, hold w.drew hdrew]
  rw [happ']
  simp only [Result.andThen_ok, (ok.run_zero w.drew he.zero).1, hz, zeroCells_eq (show 0 < i.zero.length by have := he.len; have := he.pos; omega)]
  unfold newRow
  simp only [Sem.run_bind, run_newObj, Result.andThen_ok, Sem.run_pure, World.alloc_eq]
  have happend : (⟨o'⟩ : Array Value) ++ ⟨l'⟩ ++ ⟨repeats i.zero (cap - (n + m))⟩ = ⟨o' ++ l' ++ repeats i.zero (cap - (n + m))⟩ := by apply Array.ext'; simp
  show Result.ok (Value.slice (some ⟨w.heap.size, 0, none⟩) (n + m) cap) (w.drew.alloc (.cells ((⟨o'⟩ : Array Value) ++ ⟨l'⟩ ++ ⟨repeats i.zero (cap - (n + m))⟩) e)) = _
  rw [happend]
end

/-- What is appended, as the machine has it. -/
theorem newCells_ok {E : Env} (ok : E.Ok) {base : Nat} {μ : Mu} {w : World} {s s' : St} {e : TypeId} {i : Elem} {inf : TypeInfo} {z : Value} (he : ElemOk E e i inf z) {zeros : Bool} {x x' : Value} {n : Nat} {l : List Value}
    (h : newCells E i zeros x s = some ((n, l), s')) (hx : VRel μ x x') (hs : SRel base μ s.rows.get w) (hsy : μ.sy = E.sy) :
    s'.rows = s.rows ∧ s'.next = s.next ∧ l.length = n * i.size ∧ (∃ l', VRels μ l l' ∧ ∀ w2 : World, (∀ b : Nat, w2.heap[b]? = w.heap[b]?) → (appendedS zeros e inf.size n x').run E.P w2 = .ok ⟨l'⟩ w2) ∧
      (zeros = false → (Builtin.lenOf x').run E.P w = .ok n w) ∧ (zeros = true → ∃ k, x' = .int k (.ofNat n) ∧ n ≤ 1000000000 ∧ n * inf.bytes ≤ 1000000000000) := by
  unfold newCells at h
  have hpos := he.pos
  have hlen := he.len
  cases zeros with
  | true =>
    simp only [cond_true, lift_bind, guard_bind, pure_some, Prod.mk.injEq, idx_some] at h
    obtain ⟨m, ⟨k, rfl⟩, hr, ⟨rfl, rfl⟩, rfl⟩ := h
    obtain ⟨h1, h2⟩ := reach_some hr
    refine ⟨rfl, rfl, by rw [repeats_length, hlen], ⟨repeats i.zero n, VRels.plain (repeats_plain he.plain n), fun w2 _ => ?_⟩, (fun h => by cases h), fun _ => ⟨k, hx.ofInt, h1, by rw [he.bytes]; exact h2⟩⟩
    unfold appendedS
    have hz : z.cells = ⟨i.zero⟩ := by apply Array.ext'; exact he.cells.symm
    simp only [Bool.not_true, Bool.false_eq_true, if_false]
    by_cases hn : n = 0
    · subst hn; rw [if_pos (by simp)]; rfl
    · rw [if_neg (Nat.mul_ne_zero hn (by rw [he.size]; omega))]
      simp only [Sem.run_bind, (ok.run_zero w2 he.zero).1, Result.andThen_ok, Sem.run_pure, hz, zeroCells_eq (show 0 < i.zero.length by omega)]
  | false =>
    simp only [cond_false] at h
    cases x with
    | slice a m c =>
      simp only at h
      rw [bind_some] at h
      obtain ⟨l1, s1, h1, h2⟩ := h
      rw [pure_some] at h2
      simp only [Prod.mk.injEq] at h2
      obtain ⟨⟨rfl, rfl⟩, rfl⟩ := h2
      obtain ⟨l', hr, hl, hrun, e1, e2⟩ := read_ok (P := E.P) h1 hx (Nat.le_refl _) hs
      refine ⟨e1, e2, by rw [← hr.length]; exact hl, ⟨l', hr, fun w2 hw => ?_⟩, fun _ => ?_, fun h => by cases h⟩
      · unfold appendedS; rw [he.size]; exact hrun w2 hw
      · cases a with
        | none => rw [hx.ofNilSlice]; rfl
        | some a => rcases hx.ofSlice with ⟨L, _, _, rfl⟩ | ⟨L, c, _, _, _, _, rfl⟩ | ⟨a', rfl, _, rfl⟩ <;> rfl
    | string t =>
      simp only [guard_bind, pure_some, Prod.mk.injEq] at h
      obtain ⟨hb, ⟨rfl, rfl⟩, rfl⟩ := h
      have h1 := Nat.eq_of_beq_eq_true hb
      have hx' := hx.ofString
      subst hx'
      refine ⟨rfl, rfl, by rw [h1]; simp [bytesOf], ⟨bytesOf t, VRels.plain (bytesOf_plain _), fun w2 _ => ?_⟩, fun _ => rfl, fun h => by cases h⟩
      unfold appendedS Builtin.firstCells
      simp only [Bool.not_false, if_true, Sem.run_pure]
      congr 1
      apply Array.ext'
      simp [bytesOf, ByteArray.extract_zero_size]
    | chan c =>
      cases c with
      | none =>
        have h' : readF i.size (.chan none) (fun n => n) s = some ((n, l), s') := h
        obtain ⟨rfl, k, cs, a, cap, hx1, rfl, rfl, _, l', hr, hl, hrun⟩ := readF_ok (P := E.P) h' hx hs
        refine ⟨rfl, rfl, by rw [← hr.length]; exact hl, ⟨l', hr, fun w2 hw => ?_⟩, fun _ => rfl, fun h => by cases h⟩
        unfold appendedS; rw [he.size]; exact hrun w2 hw
      | some c =>
        simp only [guard_bind, lift_bind, pure_some, Prod.mk.injEq] at h
        obtain ⟨hb, l1, hl1, ⟨rfl, rfl⟩, rfl⟩ := h
        rw [Bool.and_eq_true] at hb
        have h1 := Nat.eq_of_beq_eq_true hb.1
        have htv : TokV E.sy (.chan (some c)) x' := hsy ▸ TokV.of hx (by unfold tokish; rw [hb.2]; rfl)
        obtain ⟨t, rfl, hlen1, hat⟩ := ok.askY _ _ _ hl1 htv
        have hlb : (bytesOf t).length = t.size := by simp [bytesOf]
        refine ⟨rfl, rfl, by rw [h1, Nat.mul_one], ⟨bytesOf t, VRels.of_get _ _ (by rw [hlb, hlen1]) fun j v hv => ?_, fun w2 _ => ?_⟩, fun _ => ?_, fun h => by cases h⟩
        · obtain ⟨b, hb1, hb2⟩ := hat j v hv
          refine ⟨.int .u8 b.toNat, ?_, (hsy ▸ hb2 : TokV μ.sy v _).rel⟩
          unfold bytesOf
          rw [List.getElem?_map, hb1]; rfl
        · unfold appendedS Builtin.firstCells
          simp only [Bool.not_false, if_true, Sem.run_pure]
          congr 1
          apply Array.ext'
          rw [hlen1]
          simp [bytesOf, ByteArray.extract_zero_size]
        · rw [hlen1]; rfl
    | _ =>
      have h' : readF i.size _ (fun n => n) s = some ((n, l), s') := h
      obtain ⟨rfl, k, cs, a, cap, hx1, rfl, rfl, _, l', hr, hl, hrun⟩ := readF_ok (P := E.P) h' hx hs
      refine ⟨rfl, rfl, by rw [← hr.length]; exact hl, ⟨l', hr, fun w2 hw => ?_⟩, fun _ => rfl, fun h => by cases h⟩
      unfold appendedS; rw [he.size]; exact hrun w2 hw

theorem reach_size {E : Env} {e : TypeId} {i : Elem} {inf : TypeInfo} {z : Value} (_ : ElemOk E e i inf z) : True := trivial

end Go.Cm
