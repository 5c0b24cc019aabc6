/-
  The faster going is the same one: operations and regions.
-/
import Derived.Test.YtfofdglgacfklaaGreatDoorFmA
import Derived.Test.YtfofdglgacfklaaGreatDoorCmS
namespace Go.Cm
open Go

theorem sel_get {α : Type} (j : Nat) (q : Q α) : (selC α j).get q = Q.at q j := by cases q; rcases j with _ | _ | _ | j <;> rfl
theorem sel_upd {α : Type} (j : Nat) (f : α → α) (q : Q α) : (selC α j).upd f q = Q.set q j (f (Q.at q j)) := by cases q; rcases j with _ | _ | _ | j <;> rfl
theorem slot_get (i : Nat) (t : FT 5) : (slotC i).get t = FT.get5 t i := by
  show (selC (FT 0) _).get ((selC (FT 1) _).get ((selC (FT 2) _).get ((selC (FT 3) _).get ((selC (FT 4) _).get t)))) = _
  exact (sel_get (α := FT 0) _ _).trans (congrArg (fun q : Q (FT 0) => Q.at q _) ((sel_get (α := FT 1) _ _).trans (congrArg (fun q : Q (FT 1) => Q.at q _) ((sel_get (α := FT 2) _ _).trans (congrArg (fun q : Q (FT 2) => Q.at q _) ((sel_get (α := FT 3) _ _).trans (congrArg (fun q : Q (FT 3) => Q.at q _) (sel_get (α := FT 4) _ _))))))))
theorem slot_put (i : Nat) (t : FT 5) (v : Value) : (slotC i).put t v = FT.put5 t i v := by
  show (selC (FT 4) _).upd ((selC (FT 3) _).upd ((selC (FT 2) _).upd ((selC (FT 1) _).upd ((selC (FT 0) _).upd fun _ => v)))) t = _
  exact (sel_upd (α := FT 4) _ _ _).trans (congrArg (fun q : FT 4 => Q.set (α := FT 4) t _ q) ((sel_upd (α := FT 3) _ _ _).trans (congrArg (fun q : FT 3 => Q.set (α := FT 3) _ _ q) ((sel_upd (α := FT 2) _ _ _).trans (congrArg (fun q : FT 2 => Q.set (α := FT 2) _ _ q) ((sel_upd (α := FT 1) _ _ _).trans (congrArg (fun q : FT 1 => Q.set (α := FT 1) _ _ q) (sel_upd (α := FT 0) _ _ _))))))))

theorem bind_pure_l {α β : Type} (a : α) (f : α → M β) : M.bind (M.pure a) f = f a := by funext s; rfl
theorem bind_fail {α β : Type} (f : α → M β) : M.bind M.fail f = M.fail := by funext s; rfl
theorem bind_assoc {α β γ : Type} (m : M α) (f : α → M β) (g : β → M γ) : M.bind (M.bind m f) g = M.bind m fun a => M.bind (f a) g := by
  funext s; rw [M.bind_eq, M.bind_eq, M.bind_eq]; cases m s with
  | none => rfl
  | some p => simp only; rw [M.bind_eq]
theorem bind_congr {α β : Type} {m : M α} {f g : α → M β} (h : ∀ s a s', m s = some (a, s') → f a = g a) : M.bind m f = M.bind m g := by
  funext s; rw [M.bind_eq, M.bind_eq]; cases hm : m s with
  | none => rfl
  | some p => simp only; rw [h s p.1 p.2 hm]

theorem oper_run (n : Nat) (t : FT 5) (x : Operand) : (operC n x).run t = Fr.eval ⟨n, t⟩ x := by
  cases x with
  | tmp i =>
    show ValC.run (bif Nat.blt i n then ⟨(slotC i).get⟩ else ⟨fun _ => undef⟩) t = (bif Nat.blt i n then FT.get5 t i else undef)
    cases Nat.blt i n
    · rfl
    · exact slot_get i t
  | const v => rfl
  | global g => rfl
  | func f => rfl
theorem v1_eq (n : Nat) (x : Operand) (f : (FT 5 → Value) → OpC) : v1 n x f = f fun t => Fr.eval ⟨n, t⟩ x := by
  show f (operC n x).run = _
  congr 1; funext t; exact oper_run n t x
theorem args_run (n : Nat) (t : FT 5) : ∀ l : List Operand, (argsC n l).run t = l.map (Fr.eval ⟨n, t⟩)
  | [] => rfl
  | x :: l => by
    show (operC n x).run t :: (argsC n l).run t = _
    rw [oper_run, args_run n t l]; rfl
theorem dst_run (n : Nat) (d : Option Tmp) (t : FT 5) (v : Value) (k : FT 5 → M Value) : (dstC n d).run t v k = M.bind (Fr.dst ⟨n, t⟩ d v) fun fr => k fr.t := by
  cases d with
  | none => rfl
  | some d =>
    show DstC.run (bif Nat.blt d n then ⟨fun t v k => k ((slotC d).put t v)⟩ else ⟨fun _ _ _ => M.fail⟩) t v k = M.bind (bif Nat.blt d n then M.pure (Fr.mk n (FT.put5 t d v)) else M.fail) fun fr : Fr => k fr.t
    cases Nat.blt d n
    · rfl
    · show k ((slotC d).put t v) = _
      rw [slot_put]; rfl

noncomputable def nxK (call : CallFn) (o : Oper) (fr : Fr) (nx : Nx) : M Fr :=
  match nx with
  | .value v => fr.dst o.dst v
  | .skip => fr.dst o.dst undef
  | .known _ _ v => fr.dst o.dst v
  | .enter f args => M.bind (call f args) fun v => fr.dst o.dst v
theorem evOp_eq (E : Env) (call : CallFn) (ops : Array Oper) (o : Oper) (fr : Fr) :
    evOp E call ops o fr = bif !sureA ops fr o then M.fail else bif wantedA ops fr o then M.bind (execA E fr.eval o) (nxK call o fr) else fr.dst o.dst undef := rfl

section
variable (E : Env) (n : Nat) (ops : Array Oper) (o : Oper) (call : CallFn) (t : FT 5) (k : FT 5 → M Value)

theorem purK_run (f : FT 5 → Value) : (purK (dstC n o.dst) f).run call t k = M.bind (M.bind (asV (M.lift (some (f t)))) (nxK call o ⟨n, t⟩)) fun fr => k fr.t := by
  show (dstC n o.dst).run t (f t) k = _
  rw [dst_run]; rfl
theorem valK_run (f : FT 5 → Option Value) : (valK (dstC n o.dst) f).run call t k = M.bind (M.bind (asV (M.lift (f t))) (nxK call o ⟨n, t⟩)) fun fr => k fr.t := by
  funext s
  show (Option.rec none (fun v => (dstC n o.dst).run t v k s) (f t) : Option (Value × St)) = _
  cases f t with
  | none => rfl
  | some v => show (dstC n o.dst).run t v k s = _; rw [dst_run]; rfl
theorem memK_run (f : FT 5 → M Value) : (memK (dstC n o.dst) f).run call t k = M.bind (M.bind (asV (f t)) (nxK call o ⟨n, t⟩)) fun fr => k fr.t := by
  unfold asV
  rw [bind_assoc, bind_assoc]
  funext s
  show (Option.rec none (fun p => Prod.rec (fun v s' => (dstC n o.dst).run t v k s') p) (f t s) : Option (Value × St)) = _
  rw [M.bind_eq]
  cases f t s with
  | none => rfl
  | some p => show (dstC n o.dst).run t p.1 k p.2 = _; rw [dst_run]; rfl

theorem callK_run (f : FuncId) (c : Call) (hc : c.callee = .value (.func f)) (ho : o.op = .call c) (hs : sureA ops ⟨n, t⟩ o = true) (hw : wantedA ops ⟨n, t⟩ o = true) :
    (callK E n ops o f c.args.toList).run call t k = M.bind (evOp E call ops o ⟨n, t⟩) fun fr => k fr.t := by
  unfold callK
  split
  · rfl
  · next he =>
    split
    · rfl
    · next hk =>
      split
      · next fn hf =>
        rw [evOp_eq, hs, hw]
        have hx : execA E (Fr.eval ⟨n, t⟩) o = callA E f ([] ++ (c.args.toList.map (Fr.eval ⟨n, t⟩) ++ [])) := by
          unfold execA; rw [ho]; show opCallA E _ c o.type = _; unfold opCallA; rw [hc]; rfl
        have hy : callA E f ([] ++ (c.args.toList.map (Fr.eval ⟨n, t⟩) ++ [])) = M.pure (.enter f (c.args.toList.map (Fr.eval ⟨n, t⟩))) := by
          unfold callA; rw [he]; simp only [hk, Option.bind_none, hf, List.append_nil, List.nil_append]; rfl
        rw [hx, hy]
        simp only [Bool.not_true, cond_false, cond_true]
        rw [bind_pure_l]
        simp only [nxK]
        rw [bind_assoc]
        funext s
        show (Option.rec none (fun p => Prod.rec (fun v s' => (dstC n o.dst).run t v k s') p) (call f ((argsC n c.args.toList).run t) s) : Option (Value × St)) = _
        rw [args_run, M.bind_eq]
        cases call f (c.args.toList.map (Fr.eval ⟨n, t⟩)) s with
        | none => rfl
        | some p => show (dstC n o.dst).run t p.1 k p.2 = _; rw [dst_run]
      · rfl

theorem stoK_run (f : FT 5 → M Unit) : (stoK (dstC n o.dst) f).run call t k = M.bind (M.bind (asU (f t)) (nxK call o ⟨n, t⟩)) fun fr => k fr.t := by
  unfold asU
  rw [bind_assoc, bind_assoc]
  funext s
  show (Option.rec none (fun p => Prod.rec (fun _ s' => (dstC n o.dst).run t undef k s') p) (f t s) : Option (Value × St)) = _
  rw [M.bind_eq]
  cases f t s with
  | none => rfl
  | some p => show (dstC n o.dst).run t undef k p.2 = _; rw [dst_run]; rfl

theorem takeV_eq : ∀ (n : Nat) (l : List Value), takeV n l = bif Nat.beq (l.take n).length n then some (l.take n) else none
  | 0, l => rfl
  | n + 1, [] => rfl
  | n + 1, v :: l => by
    show (Option.rec none (fun r => some (v :: r)) (takeV n l) : Option (List Value)) = bif Nat.beq ((l.take n).length + 1) (n + 1) then some (v :: l.take n) else none
    rw [takeV_eq n l]
    show _ = bif Nat.beq (l.take n).length n then some (v :: l.take n) else none
    cases Nat.beq (l.take n).length n <;> rfl
theorem dropV_eq : ∀ (n : Nat) (l : List Value), dropV n l = l.drop n
  | 0, l => rfl
  | n + 1, [] => rfl
  | n + 1, v :: l => by show dropV n l = l.drop n; exact dropV_eq n l
theorem nthV_eq : ∀ (n : Nat) (l : List Value), nthV n l = l[n]?
  | 0, [] => rfl
  | 0, v :: l => rfl
  | n + 1, [] => rfl
  | n + 1, v :: l => by show nthV n l = (v :: l)[n + 1]?; rw [nthV_eq n l]; rfl
theorem partC_run (E : Env) (t : TypeId) (cs : List Value) (off : Nat) : (partC E t).run cs off = partA E t cs off := by
  unfold partC partA
  cases aggT E t with
  | none => rfl
  | some g =>
    cases E.info t with
    | none => cases g <;> rfl
    | some i =>
      cases g with
      | false => exact nthV_eq off cs
      | true =>
        simp only [force_eq]
        show (Option.rec none (fun l => some (.agg ⟨l⟩)) (takeV i.size (dropV off cs)) : Option Value) = (piece cs off i.size).map fun l => .agg ⟨l⟩
        rw [takeV_eq, dropV_eq]
        show _ = Option.map _ (bif Nat.beq ((cs.drop off).take i.size).length i.size then some ((cs.drop off).take i.size) else none)
        cases Nat.beq ((cs.drop off).take i.size).length i.size <;> rfl
theorem loadC_run (E : Env) (ty : TypeId) (a : Value) : (loadC E ty).run a = loadA E ty a := by
  funext s
  show onPtr a (fun r off => (St.rec (fun rows next log wlog => Bool.rec none (Option.rec none (fun x => onCells x (fun cs => Option.rec none (fun v => some (v, ⟨rows, next, r :: log, wlog⟩)) ((partC E ty).run cs off)) none) (rows.get r)) (Nat.blt r next)) s : Option (Value × St))) (loadA E ty a s) = _
  unfold onPtr
  split
  · next r off =>
    show _ = M.bind (M.row r) (fun x => M.bind (M.lift (cellsR x)) fun cs => M.lift (partA E ty cs off)) s
    rw [M.bind_eq, M.row_eq]
    cases s with | mk rows next log wlog =>
    simp only
    cases Nat.blt r next with
    | false => rfl
    | true =>
      cases rows.get r with
      | none => rfl
      | some x =>
        cases x with
        | cells ro es cs =>
          show (Option.rec none (fun v => some (v, ⟨rows, next, r :: log, wlog⟩)) ((partC E ty).run cs off) : Option (Value × St)) = M.lift (partA E ty cs off) _
          rw [partC_run]
          cases partA E ty cs off <;> rfl
        | map es c => rfl
        | iter s p => rfl
  · rfl
theorem fieldAddrC_run (E : Env) (st : TypeId) (f : Nat) (a : Value) : (fieldAddrC E st f).run a = fieldAddrA E st a f := by
  unfold fieldAddrC
  split
  · next o h =>
    rw [force_eq]
    show onPtr a (fun r off => some (.pointer (some ⟨r, off + o, none⟩))) (fieldAddrA E st a f) = _
    unfold onPtr
    split
    · next r off =>
      unfold fieldAddrA
      cases h1 : (E.und st).bind structT with
      | none => rw [h1] at h; cases h
      | some fs =>
        rw [h1] at h
        cases h2 : fs[f]? with
        | none => simp only [Option.bind_some, h2] at h; cases h
        | some fd =>
          simp only [Option.bind_some, h2] at h
          cases h3 : E.info fd.type with
          | none => rw [h3] at h; cases h
          | some i =>
            rw [h3] at h
            simp only [Option.bind_some] at h
            simp only [Option.bind_some, h2, h3]
            cases h4 : guardO (Nat.blt 0 i.size) with
            | none => rw [h4] at h; cases h
            | some u => rw [h4] at h; injection h with h; subst h; rfl
    · rfl
  · rfl
theorem fieldC_run (E : Env) (st : TypeId) (f : Nat) (x : Value) : (fieldC E st f).run x = fieldA E st x f := by
  unfold fieldC fieldA
  cases h1 : (E.und st).bind structT with
  | none => rfl
  | some fs =>
    cases h2 : fs[f]? with
    | none => simp only [Option.bind_some, h2]; rfl
    | some fd =>
      simp only [Option.bind_some, h2, force_eq]
      show onAgg x (fun cs => (partC E fd.type).run cs fd.offset) none = _
      cases x with
      | agg cs => exact partC_run _ _ _ _
      | _ => rfl
theorem indexAddrC_run (E : Env) (ty : TypeId) (x i : Value) : (indexAddrC E ty).run x i = indexAddrA E ty x i := by
  unfold indexAddrC
  split
  · next z h =>
    rw [force_eq]
    show onSlice x (fun r off n => onNat i (fun k => (Bool.rec none (some (.pointer (some ⟨r, off + k * z, none⟩))) (Nat.blt k n) : Option Value)) (indexAddrA E ty x i)) (indexAddrA E ty x i) = _
    unfold onSlice
    split
    · next a n c =>
      unfold onNat
      split
      · next kd k =>
        unfold indexAddrA
        cases h1 : E.und ty with
        | none => rw [h1] at h; cases h
        | some d =>
          rw [h1] at h
          cases d with
          | slice e =>
            change ((E.info e).map fun i => i.size) = some z at h
            cases h2 : E.info e with
            | none => rw [h2] at h; cases h
            | some inf =>
              rw [h2] at h
              injection h with h; subst h
              show _ = (E.info e).bind _
              rw [h2]
              show (Bool.rec (motive := fun _ => Option Value) none (some (.pointer (some ⟨a.block, a.off + k * inf.size, none⟩))) (Nat.blt k n)) = (guardO (Nat.blt k n)).bind fun _ => some (.pointer (some ⟨a.block, a.off + k * inf.size, none⟩))
              cases Nat.blt k n <;> rfl
          | _ => cases h
      · rfl
    · rfl
  · rfl
theorem onInts_bin (E : Env) (op : BinOp) (ty : TypeId) (xo yo : Operand) (x y : Value) (f : IntKind → Int → Int → Value) (hf : ∀ k a b, intBinA op k a b = some (f k a b)) :
    onInts x y (fun k a k' b => (Bool.rec (binOpA E op ty xo yo x y) (some (f k a b)) (Nat.beq (codeK k) (codeK k')) : Option Value)) (binOpA E op ty xo yo x y) = binOpA E op ty xo yo x y := by
  unfold onInts
  split
  · next k a =>
    split
    · next k' b =>
      show (Bool.rec (motive := fun _ => Option Value) (binOpA E op ty xo yo (.int k a) (.int k' b)) (some (f k a b)) (Nat.beq (codeK k) (codeK k'))) = _
      cases h : Nat.beq (codeK k) (codeK k') with
      | false => rfl
      | true =>
        show some (f k a b) = bif Nat.beq (codeK k) (codeK k') then orA (intBinA op k a b) (binSlowA E op ty xo yo (.int k a) (.int k' b)) else binSlowA E op ty xo yo (.int k a) (.int k' b)
        rw [h, hf]; rfl
    · rfl
  · rfl
theorem not_rec (b : Bool) : (Bool.rec true false b : Bool) = !b := by cases b <;> rfl
theorem binC_run (E : Env) (op : BinOp) (ty : TypeId) (xo yo : Operand) (x y : Value) : (binC E op ty xo yo).run x y = binOpA E op ty xo yo x y := by
  unfold binC
  split
  · next f h => exact onInts_bin E op ty xo yo x y (fun _ => f) (fun k a b => by cases op <;> first | (injection h with h; subst h; simp only [not_rec]; rfl) | cases h)
  · split
    · next f h => exact onInts_bin E op ty xo yo x y f (fun k a b => by cases op <;> first | (injection h with h; subst h; rfl) | cases h)
    · rfl
theorem unC_run (E : Env) (op : UnOp) (x : Value) : (unC E op).run x = unOpA E op x := by
  unfold unC
  cases h : isNot op with
  | false => rfl
  | true =>
    show onBool x (fun b => some (.bool (Bool.rec true false b))) (unOpA E op x) = _
    unfold onBool
    split
    · next b =>
      cases op with
      | not => cases b <;> rfl
      | _ => cases h
    · rfl
theorem lenC_run (E : Env) (ty : TypeId) (x : Value) : (lenC E ty).run x = lenA E ty x := by
  unfold lenC
  split
  · next e h =>
    funext s
    show onSlice x (fun _ _ n => some (.int .i64 (.ofNat n), s)) (lenA E ty x s) = _
    unfold onSlice
    split
    · unfold lenA
      cases h1 : E.und ty with
      | none => rw [h1] at h; cases h
      | some d =>
        cases d with
        | slice e => rfl
        | _ => rw [h1] at h; cases h
    · rfl
  · rfl

theorem oneF_eq : ∀ l : List Value, oneF l = oneCells l
  | [] => rfl
  | v :: l => by
    show (Bool.rec (motive := fun _ => Bool) false (oneF l) (one1 v)) = bif one1 v then oneCells l else false
    rw [oneF_eq l]; cases one1 v <;> rfl
theorem putL_eq : ∀ (l cs : List Value), putL l cs = splice cs 0 l
  | [], cs => by cases cs <;> rfl
  | v :: l, [] => rfl
  | v :: l, c :: cs => by
    show (Option.rec none (fun r => some (v :: r)) (putL l cs) : Option (List Value)) = (splice cs 0 l).map (v :: ·)
    rw [putL_eq l cs]; cases splice cs 0 l <;> rfl
theorem spliceN_eq (v : Value) (l : List Value) : ∀ (off : Nat) (cs : List Value), spliceN off cs (v :: l) = splice cs off (v :: l)
  | 0, cs => putL_eq (v :: l) cs
  | off + 1, [] => rfl
  | off + 1, c :: cs => by
    show (Option.rec none (fun r => some (c :: r)) (spliceN off cs (v :: l)) : Option (List Value)) = (splice cs off (v :: l)).map (c :: ·)
    rw [spliceN_eq v l off cs]; cases splice cs off (v :: l) <;> rfl
theorem spliceF_eq (off : Nat) (cs l : List Value) : spliceF off cs l = splice cs off l := by
  cases l with
  | nil => cases cs <;> rfl
  | cons v l => exact spliceN_eq v l off cs
theorem cellsL_eq (v : Value) : cellsL v = v.cells.toList := by cases v <;> rfl
theorem eqLen_eq : ∀ (z : Nat) (l : List Value), eqLen z l = Nat.beq l.length z
  | 0, [] => rfl
  | 0, _ :: _ => rfl
  | z + 1, [] => rfl
  | z + 1, v :: l => by show eqLen z l = Nat.beq (l.length + 1) (z + 1); rw [eqLen_eq z l]; rfl
theorem putRow_eq (r off : Nat) (l : List Value) (s : St) : putRow r off l s = writeA r off l s := by
  unfold writeA
  rw [M.bind_eq, M.row_eq]
  cases s with | mk rows next log wlog =>
  show (Bool.rec (motive := fun _ => Option (Unit × St)) none (Option.rec (motive := fun _ => Option (Unit × St)) none (fun x => onOwn x (fun es cs => Bool.rec (motive := fun _ => Option (Unit × St)) none (Option.rec (motive := fun _ => Option (Unit × St)) none (fun cs' => Bool.rec (motive := fun _ => Option (Unit × St)) none (some ((), ⟨D.put (some (.cells false es cs')) deep rows r, next, r :: r :: log, r :: wlog⟩)) (Nat.ble r 1000000000)) (spliceF off cs l)) (oneF l)) none) (D.get rows r)) (Nat.blt r next)) = _
  simp only
  cases hb : Nat.blt r next with
  | false => rfl
  | true =>
    cases hr : D.get rows r with
    | none => rfl
    | some x =>
      cases x with
      | cells ro es cs =>
        cases ro with
        | true => rfl
        | false =>
          show (Bool.rec (motive := fun _ => Option (Unit × St)) none (Option.rec (motive := fun _ => Option (Unit × St)) none (fun cs' => Bool.rec (motive := fun _ => Option (Unit × St)) none (some ((), ⟨D.put (some (.cells false es cs')) deep rows r, next, r :: r :: log, r :: wlog⟩)) (Nat.ble r 1000000000)) (spliceF off cs l)) (oneF l)) =
            M.bind (M.guard (oneCells l)) (fun _ => M.bind (M.lift (splice cs off l)) fun cs' => M.turn r (some (.cells false es cs'))) ⟨rows, next, r :: log, wlog⟩
          rw [oneF_eq, spliceF_eq]
          cases oneCells l with
          | false => rfl
          | true =>
            show _ = M.bind (M.lift (splice cs off l)) (fun cs' => M.turn r (some (.cells false es cs'))) ⟨rows, next, r :: log, wlog⟩
            cases splice cs off l with
            | none => rfl
            | some cs' =>
              show _ = M.turn r (some (.cells false es cs')) ⟨rows, next, r :: log, wlog⟩
              rw [M.turn_eq]
              simp only [hb, hr, cond_true]
              cases Nat.ble r 1000000000 <;> rfl
      | map es c => rfl
      | iter s p => rfl
theorem storeC_run (E : Env) (ty : TypeId) (a v : Value) : (storeC E ty).run a v = storeA E ty a v := by
  unfold storeC
  cases hi : E.info ty with
  | none => rfl
  | some i =>
    simp only [force_eq]
    funext s
    show onPtr a (fun r off => (Bool.rec (motive := fun _ => Option (Unit × St)) (Bool.rec (motive := fun _ => Option (Unit × St)) none (putRow r off (cellsL v) s) (eqLen i.size (cellsL v))) none (isJunk v))) (storeA E ty a v s) = _
    unfold onPtr
    split
    · next r off =>
      have hR : storeA E ty (.pointer (some ⟨r, off, none⟩)) v s = M.bind (M.guard (bif isJunk v then false else Nat.beq v.cells.size i.size)) (fun _ => writeA r off v.cells.toList) s := by
        unfold storeA
        show M.bind (M.lift (E.info ty)) (fun i => M.bind (M.guard (bif isJunk v then false else Nat.beq v.cells.size i.size)) fun _ => writeA r off v.cells.toList) s = _
        rw [hi]; rfl
      rw [hR]
      show (Bool.rec (motive := fun _ => Option (Unit × St)) (Bool.rec (motive := fun _ => Option (Unit × St)) none (putRow r off (cellsL v) s) (eqLen i.size (cellsL v))) none (isJunk v)) = _
      rw [putRow_eq, cellsL_eq, eqLen_eq]
      cases isJunk v with
      | true => rfl
      | false =>
        show (Bool.rec (motive := fun _ => Option (Unit × St)) none (writeA r off v.cells.toList s) (Nat.beq v.cells.size i.size)) = M.bind (M.guard (Nat.beq v.cells.size i.size)) (fun _ => writeA r off v.cells.toList) s
        cases Nat.beq v.cells.size i.size <;> rfl
    · rfl

theorem pts_run (n : Nat) (t : FT 5) : ∀ l : List (Nat × Operand), (ptsC n l).run t = l.map fun p => (p.1, Fr.eval ⟨n, t⟩ p.2)
  | [] => rfl
  | p :: l => by
    show (p.1, (operC n p.2).run t) :: (ptsC n l).run t = _
    rw [oper_run, pts_run n t l]; rfl
theorem opt_run (n : Nat) (t : FT 5) (x : Option Operand) : (optC n x).run t = x.map (Fr.eval ⟨n, t⟩) := by
  cases x with
  | none => rfl
  | some x => show some ((operC n x).run t) = _; rw [oper_run]; rfl

theorem appL_eq : ∀ a b : List Value, appL a b = a ++ b
  | [], b => rfl
  | v :: a, b => by show v :: appL a b = v :: (a ++ b); rw [appL_eq a b]
theorem takeV_piece (cs : List Value) (off n : Nat) : takeV n (dropV off cs) = piece cs off n := by rw [takeV_eq, dropV_eq]; rfl
theorem readC_eq (size : Nat) (a : Option Addr) (n : Nat) : readC size a n = readA size a n := by
  cases n with
  | zero => rfl
  | succ m =>
    cases a with
    | none => rfl
    | some ad =>
      obtain ⟨r, off, sp⟩ := ad
      funext s
      unfold readA
      show _ = M.bind (M.row r) (fun x => M.bind (M.lift (cellsR x)) fun cs => M.lift (piece cs off ((m + 1) * size))) s
      rw [M.bind_eq, M.row_eq]
      cases s with | mk rows next log wlog =>
      show (Bool.rec (motive := fun _ => Option (List Value × St)) none (Option.rec (motive := fun _ => Option (List Value × St)) none (fun x => onCells x (fun cs => Option.rec none (fun l => some (l, ⟨rows, next, r :: log, wlog⟩)) (takeV ((m + 1) * size) (dropV off cs))) none) (D.get rows r)) (Nat.blt r next)) = _
      simp only
      cases Nat.blt r next with
      | false => rfl
      | true =>
        cases hr : D.get rows r with
        | none => rfl
        | some x =>
          cases x with
          | cells ro es cs =>
            show (Option.rec none (fun l => some (l, ⟨rows, next, r :: log, wlog⟩)) (takeV ((m + 1) * size) (dropV off cs)) : Option (List Value × St)) = M.lift (piece cs off ((m + 1) * size)) _
            rw [takeV_piece]
            cases piece cs off ((m + 1) * size) <;> rfl
          | map es c => rfl
          | iter s p => rfl
theorem newC_eq (E : Env) (i : Elem) (z : Bool) (x : Value) : newC E i z x = newCells E i z x := by
  cases z with
  | true => rfl
  | false =>
    cases x with
    | slice a n c => show M.bind (readC i.size a n) (fun l => M.pure (n, l)) = newCells E i false (.slice a n c); rw [readC_eq]; rfl
    | _ => rfl
theorem appendInC_eq (i : Elem) (base : Option Addr) (sLen sCap need : Nat) (l : List Value) : appendInC i base sLen sCap need l = appendIn i base sLen sCap need l := by
  cases l with
  | nil => rfl
  | cons v l =>
    unfold appendInC appendIn
    refine bind_congr fun _ a _ _ => ?_
    have : putRow a.block (a.off + sLen * i.size) (v :: l) = writeA a.block (a.off + sLen * i.size) (v :: l) := funext fun s => putRow_eq _ _ _ s
    rw [this]
theorem appendNewC_eq (i : Elem) (base : Option Addr) (sLen need : Nat) (l : List Value) : appendNewC i base sLen need l = appendNew i base sLen need l := by
  unfold appendNewC appendNew
  simp only [readC_eq, appL_eq]
theorem appendC_eq (E : Env) (sT xT : TypeId) (s x : Value) : appendC E sT xT s x = appendA E sT xT s x := by
  unfold appendC appendA
  simp only [newC_eq, oneF_eq, appendInC_eq, appendNewC_eq]
  refine bind_congr fun _ e _ _ => bind_congr fun _ i _ _ => bind_congr fun _ d _ _ => bind_congr fun _ b _ _ => bind_congr fun _ nl _ _ => bind_congr fun _ _ _ _ => ?_
  cases Nat.ble (b.2.1 + nl.1) b.2.2 <;> rfl

theorem builtK_run (b : Builtin) (c : Call) (hc : c.callee = .builtin b) (ho : o.op = .call c) (hs : sureA ops ⟨n, t⟩ o = true) (hw : wantedA ops ⟨n, t⟩ o = true) :
    (builtK E n ops o b c).run call t k = M.bind (evOp E call ops o ⟨n, t⟩) fun fr => k fr.t := by
  have he : evOp E call ops o ⟨n, t⟩ = M.bind (asV (builtinA E b c.argTypes o.type (c.args.toList.map (Fr.eval ⟨n, t⟩)))) (nxK call o ⟨n, t⟩) := by
    rw [evOp_eq, hs, hw]
    have : execA E (Fr.eval ⟨n, t⟩) o = asV (builtinA E b c.argTypes o.type (c.args.toList.map (Fr.eval ⟨n, t⟩))) := by
      unfold execA; rw [ho]; show opCallA E _ c o.type = _; unfold opCallA; rw [hc]
    rw [this]; rfl
  unfold builtK
  split
  · split
    · next ty r h1 =>
      split
      · next x q h2 =>
        rw [v1_eq, he]
        show (memK (dstC n o.dst) fun t => (lenC E ty).run _).run call t k = _
        rw [memK_run, lenC_run]
        unfold builtinA one; simp only [h1, h2, List.map_cons]
      · rfl
    · rfl
  · split
    · next ty uy r h1 =>
      split
      · next x y q h2 =>
        simp only [v1_eq]
        rw [he, memK_run, appendC_eq]
        unfold builtinA two; simp only [h1, h2, List.map_cons]
      · rfl
    · rfl
  all_goals first
    | rfl
    | (rw [he]; show (memK (dstC n o.dst) fun t => builtinA E _ c.argTypes o.type ((argsC n c.args.toList).run t)).run call t k = _; rw [memK_run, args_run])

theorem opW_run (hs : sureA ops ⟨n, t⟩ o = true) (hw : wantedA ops ⟨n, t⟩ o = true) : (opW E n ops o).run call t k = M.bind (evOp E call ops o ⟨n, t⟩) fun fr => k fr.t := by
  have he : evOp E call ops o ⟨n, t⟩ = M.bind (execA E (Fr.eval ⟨n, t⟩) o) (nxK call o ⟨n, t⟩) := by rw [evOp_eq, hs, hw]; rfl
  have vx : ∀ v, execA E (Fr.eval ⟨n, t⟩) o = asV (M.lift v) → M.bind (M.bind (asV (M.lift v)) (nxK call o ⟨n, t⟩)) (fun fr => k fr.t) = M.bind (evOp E call ops o ⟨n, t⟩) fun fr => k fr.t := fun v h => by rw [he, h]
  have mx : ∀ m, execA E (Fr.eval ⟨n, t⟩) o = asV m → M.bind (M.bind (asV m) (nxK call o ⟨n, t⟩)) (fun fr => k fr.t) = M.bind (evOp E call ops o ⟨n, t⟩) fun fr => k fr.t := fun v h => by rw [he, h]
  have ux : ∀ m, execA E (Fr.eval ⟨n, t⟩) o = asU m → M.bind (M.bind (asU m) (nxK call o ⟨n, t⟩)) (fun fr => k fr.t) = M.bind (evOp E call ops o ⟨n, t⟩) fun fr => k fr.t := fun v h => by rw [he, h]
  unfold opW
  split
  · next x h => rw [v1_eq, purK_run]; exact vx _ (by unfold execA; rw [h]; rfl)
  · next x h => rw [v1_eq, purK_run]; exact vx _ (by unfold execA; rw [h]; rfl)
  · next c a b h => rw [v1_eq, v1_eq, v1_eq, valK_run]; exact vx _ (by unfold execA; rw [h]; rfl)
  · next x h => rw [v1_eq, valK_run]; exact vx _ (by unfold execA; rw [h]; rfl)
  · next op ty x y _ h =>
    rw [v1_eq, v1_eq]; show (valK (dstC n o.dst) fun t => (binC E op ty x y).run _ _).run call t k = _
    rw [valK_run, binC_run]; exact vx _ (by unfold execA; rw [h]; rfl)
  · next op _ x h =>
    rw [v1_eq]; show (valK (dstC n o.dst) fun t => (unC E op).run _).run call t k = _
    rw [valK_run, unC_run]; exact vx _ (by unfold execA; rw [h]; rfl)
  · next ty x h => rw [v1_eq, valK_run]; exact vx _ (by unfold execA; rw [h]; rfl)
  · next st x f h =>
    rw [v1_eq]; show (valK (dstC n o.dst) fun t => (fieldAddrC E st f).run _).run call t k = _
    rw [valK_run, fieldAddrC_run]; exact vx _ (by unfold execA; rw [h]; rfl)
  · next st x f h =>
    rw [v1_eq]; show (valK (dstC n o.dst) fun t => (fieldC E st f).run _).run call t k = _
    rw [valK_run, fieldC_run]; exact vx _ (by unfold execA; rw [h]; rfl)
  · next ty x i h =>
    rw [v1_eq, v1_eq]; show (valK (dstC n o.dst) fun t => (indexAddrC E ty).run _ _).run call t k = _
    rw [valK_run, indexAddrC_run]; exact vx _ (by unfold execA; rw [h]; rfl)
  · next ty x i h => rw [v1_eq, v1_eq, valK_run]; exact vx _ (by unfold execA; rw [h]; rfl)
  · next x i h => rw [v1_eq, valK_run]; exact vx _ (by unfold execA; rw [h]; rfl)
  · next ty a h =>
    rw [v1_eq]; show (memK (dstC n o.dst) fun t => (loadC E ty).run _).run call t k = _
    rw [memK_run, loadC_run]; exact mx _ (by unfold execA; rw [h])
  · next ty h => rw [memK_run]; exact mx _ (by unfold execA; rw [h])
  · next ty ps h =>
    show (valK (dstC n o.dst) fun t => buildA E ty ((ptsC n ps.toList).run t)).run call t k = _
    rw [valK_run, pts_run]; exact vx _ (by unfold execA; rw [h]; rfl)
  · next ty len ps h =>
    show (memK (dstC n o.dst) fun t => buildSliceA E ty len ((ptsC n ps.toList).run t)).run call t k = _
    rw [memK_run, pts_run]; exact mx _ (by unfold execA; rw [h]; rfl)
  · next ty x lo hi mx' h =>
    rw [v1_eq]; show (valK (dstC n o.dst) fun t => sliceA E ty _ ((optC n lo).run t) ((optC n hi).run t) ((optC n mx').run t)).run call t k = _
    rw [valK_run, opt_run, opt_run, opt_run]; exact vx _ (by unfold execA; rw [h]; rfl)
  · next ty x h => rw [v1_eq, memK_run]; exact mx _ (by unfold execA; rw [h])
  · next it b h => rw [v1_eq, memK_run]; exact mx _ (by unfold execA; rw [h])
  · next ty x i c h => rw [v1_eq, v1_eq, memK_run]; exact mx _ (by unfold execA; rw [h])
  · next ty m k' v h => rw [v1_eq, v1_eq, v1_eq, stoK_run]; exact ux _ (by unfold execA; rw [h])
  · next sd d x h => rw [v1_eq, memK_run]; exact mx _ (by unfold execA; rw [h])
  · next ty l c h => rw [v1_eq, v1_eq, memK_run]; exact mx _ (by unfold execA; rw [h])
  · next ty a x h =>
    rw [v1_eq, v1_eq]; show (stoK (dstC n o.dst) fun t => (storeC E ty).run _ _).run call t k = _
    rw [stoK_run, storeC_run]; exact ux _ (by unfold execA; rw [h])
  · next c h =>
    split
    · next f hc => exact callK_run E n ops o call t k f c hc h hs hw
    · next b hc => exact builtK_run E n ops o call t k b c hc h hs hw
    · rfl
  · rfl

theorem opC_run : (opC E n ops o).run call t k = M.bind (evOp E call ops o ⟨n, t⟩) fun fr => k fr.t := by
  unfold opC
  split
  · next hg => exact opW_run E n ops o call t k (by unfold sureA; rw [hg]) (by unfold wantedA; rw [hg])
  · next j want hg =>
    split
    · next g hj =>
      split
      · next d hd =>
        rw [v1_eq]
        have h1 : sureA ops ⟨n, t⟩ o = !darkV (Fr.eval ⟨n, t⟩ (.tmp d)) := by unfold sureA; rw [hg]; simp only [hj, hd]; rfl
        have h2 : wantedA ops ⟨n, t⟩ o = wants want (Fr.eval ⟨n, t⟩ (.tmp d)) := by unfold wantedA; rw [hg]; simp only [hj, hd]; rfl
        funext s
        show (bif darkV (Fr.eval ⟨n, t⟩ (.tmp d)) then none else bif wants want (Fr.eval ⟨n, t⟩ (.tmp d)) then (opW E n ops o).run call t k s else (dstC n o.dst).run t undef k s) = _
        cases hj : darkV (Fr.eval ⟨n, t⟩ (.tmp d)) with
        | true => rw [evOp_eq, h1, hj]; rfl
        | false =>
          cases hw : wants want (Fr.eval ⟨n, t⟩ (.tmp d)) with
          | true => rw [cond_false, cond_true, opW_run E n ops o call t k (by rw [h1, hj]; rfl) (by rw [h2, hw])]
          | false => rw [cond_false, cond_false, dst_run, evOp_eq, h1, h2, hj, hw]; rfl
      · rfl
    · rfl
end

theorem evOp_n {E : Env} {call : CallFn} {ops : Array Oper} {o : Oper} {fr fr' : Fr} {s s' : St} (h : evOp E call ops o fr s = some (fr', s')) : fr'.n = fr.n := by
  obtain ⟨v, ⟨_, rfl⟩ | ⟨t, _, _, rfl⟩⟩ := evOp_dst h
  · rfl
  · cases fr; rfl
theorem evOps_n {E : Env} {call : CallFn} {ops : Array Oper} : ∀ {l : List Oper} {fr fr' : Fr} {s s' : St}, evOps E call ops l fr s = some (fr', s') → fr'.n = fr.n
  | [], fr, fr', s, s', h => by unfold evOps at h; rw [pure_some] at h; rw [h.1]
  | o :: l, fr, fr', s, s', h => by
    unfold evOps at h; rw [bind_some] at h
    obtain ⟨f1, s1, h1, h2⟩ := h
    rw [evOps_n h2, evOp_n h1]
theorem evDraw_n {E : Env} {call : CallFn} {ops : Array Oper} {before : Array Nat} : ∀ {l : List Oper} {i : Nat} {ds : List (Nat × Did)} {fr fr' : Fr} {s s' : St}, evDraw E call ops before l i ds fr s = some (fr', s') → fr'.n = fr.n
  | [], _, _, fr, fr', s, s', h => by unfold evDraw at h; rw [pure_some] at h; rw [h.1]
  | o :: l, i, ds, fr, fr', s, s', h => by
    unfold evDraw at h; rw [bind_some] at h
    obtain ⟨⟨f1, d⟩, s1, h1, h2⟩ := h
    have h1' : ∃ s2 s3, evOp E call ops o fr s2 = some (f1, s3) := by
      rw [M.watch_eq] at h1
      cases hm : evOp E call ops o fr { s with log := [], wlog := [] } with
      | none => rw [hm] at h1; cases h1
      | some p => rw [hm] at h1; injection h1 with h1; injection h1 with h1 _; injection h1 with h1 _; exact ⟨_, p.2, by rw [hm, ← h1]⟩
    obtain ⟨s2, s3, h1'⟩ := h1'
    cases hst : settled before i d ds with
    | false => simp only [hst, cond_false, fail_some] at h2
    | true => simp only [hst, cond_true] at h2; rw [evDraw_n h2, evOp_n h1']

theorem opsC_run (E : Env) (n : Nat) (ops : Array Oper) (call : CallFn) : ∀ (l : List Oper) (t : FT 5) (k : FT 5 → M Value), (opsC E n ops l).run call t k = M.bind (evOps E call ops l ⟨n, t⟩) fun fr => k fr.t
  | [], t, k => rfl
  | o :: l, t, k => by
    show (opC E n ops o).run call t (fun t => (opsC E n ops l).run call t k) = _
    rw [opC_run]
    show _ = M.bind (M.bind (evOp E call ops o ⟨n, t⟩) fun fr => evOps E call ops l fr) _
    rw [bind_assoc]
    refine bind_congr fun s fr s' h => ?_
    have hn := evOp_n h
    show (opsC E n ops l).run call fr.t k = _
    rw [opsC_run E n ops call l]
    cases fr; simp only at hn; subst hn; rfl
end Go.Cm
