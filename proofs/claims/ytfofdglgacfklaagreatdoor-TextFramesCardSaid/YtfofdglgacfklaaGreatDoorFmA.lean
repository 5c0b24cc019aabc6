/-
  The same machine, gone through faster: what a program's text fixes is reckoned once and boxed; what runs is what is left. Definitions only.
-/
import Derived.Test.YtfofdglgacfklaaGreatDoorCmY
namespace Go.Cm
open Go

/-- One of four, and turning it. -/
structure Sel (α : Type) where
  get : Q α → α
  upd : (α → α) → Q α → Q α
noncomputable def selC (α : Type) (j : Nat) : Sel α :=
  Nat.rec ⟨fun q => Q.rec (fun a _ _ _ => a) q, fun f q => Q.rec (fun a b c d => ⟨f a, b, c, d⟩) q⟩ (fun j _ =>
  Nat.rec ⟨fun q => Q.rec (fun _ b _ _ => b) q, fun f q => Q.rec (fun a b c d => ⟨a, f b, c, d⟩) q⟩ (fun j _ =>
  Nat.rec ⟨fun q => Q.rec (fun _ _ c _ => c) q, fun f q => Q.rec (fun a b c d => ⟨a, b, f c, d⟩) q⟩ (fun _ _ =>
    ⟨fun q => Q.rec (fun _ _ _ d => d) q, fun f q => Q.rec (fun a b c d => ⟨a, b, c, f d⟩) q⟩) j) j) j

structure Slot where
  get : FT 5 → Value
  put : FT 5 → Value → FT 5
noncomputable def slotC (i : Nat) : Slot :=
  Sel.rec (fun g5 u5 => Sel.rec (fun g4 u4 => Sel.rec (fun g3 u3 => Sel.rec (fun g2 u2 => Sel.rec (fun g1 u1 =>
    ⟨fun t => g1 (g2 (g3 (g4 (g5 t)))), fun t v => u5 (u4 (u3 (u2 (u1 fun _ => v)))) t⟩)
    (selC (FT 0) (Nat.mod (Nat.div i 256) 4))) (selC (FT 1) (Nat.mod (Nat.div i 64) 4))) (selC (FT 2) (Nat.mod (Nat.div i 16) 4))) (selC (FT 3) (Nat.mod (Nat.div i 4) 4))) (selC (FT 4) (Nat.mod i 4))

abbrev CallFn := FuncId → List Value → M Value
structure ValC where
  run : FT 5 → Value
structure LstC where
  run : FT 5 → List Value
structure DstC where
  run : FT 5 → Value → (FT 5 → M Value) → M Value
structure OpC where
  run : CallFn → FT 5 → (FT 5 → M Value) → M Value
structure CodeC where
  run : CallFn → Nat → FT 5 → (X → FT 5 → M Value) → M Value
structure FunC where
  run : CallFn → Nat → List Value → M Value

noncomputable def operC (n : Nat) (x : Operand) : ValC :=
  match x with
  | .tmp i => bif Nat.blt i n then Slot.rec (fun g _ => ⟨g⟩) (slotC i) else ⟨fun _ => undef⟩
  | .const v => ⟨fun _ => v⟩
  | .global g => ⟨fun _ => .pointer (some ⟨g, 0, none⟩)⟩
  | .func f => ⟨fun _ => .func (.func f) #[] #[]⟩
noncomputable def argsC (n : Nat) : List Operand → LstC
  | [] => ⟨fun _ => []⟩
  | x :: l => ValC.rec (fun g => LstC.rec (fun h => ⟨fun t => g t :: h t⟩) (argsC n l)) (operC n x)
noncomputable def dstC (n : Nat) (d : Option Tmp) : DstC :=
  match d with
  | none => ⟨fun t _ k => k t⟩
  | some d => bif Nat.blt d n then Slot.rec (fun _ p => ⟨fun t v k => k (p t v)⟩) (slotC d) else ⟨fun _ _ _ => M.fail⟩

/-! The words that run most, by the recursors themselves: where what is met is not what is usual, the machine's own. -/
noncomputable def nthV (off : Nat) (l : List Value) : Option Value :=
  Nat.rec (motive := fun _ => List Value → Option Value) (fun l => List.rec none (fun v _ _ => some v) l) (fun _ ih l => List.rec none (fun _ l' _ => ih l') l) off l
noncomputable def dropV (off : Nat) (l : List Value) : List Value :=
  Nat.rec (motive := fun _ => List Value → List Value) (fun l => l) (fun _ ih l => List.rec [] (fun _ l' _ => ih l') l) off l
noncomputable def takeV (n : Nat) (l : List Value) : Option (List Value) :=
  Nat.rec (motive := fun _ => List Value → Option (List Value)) (fun _ => some []) (fun _ ih l => List.rec none (fun v l' _ => Option.rec none (fun r => some (v :: r)) (ih l')) l) n l
structure PartC where
  run : List Value → Nat → Option Value
noncomputable def partC (E : Env) (t : TypeId) : PartC :=
  match aggT E t with
  | some true => (match E.info t with
    | some i => force i.size fun n => ⟨fun cs off => Option.rec none (fun l => some (.agg ⟨l⟩)) (takeV n (dropV off cs))⟩
    | none => ⟨fun _ _ => none⟩)
  | some false => (match E.info t with
    | some _ => ⟨fun cs off => nthV off cs⟩
    | none => ⟨fun _ _ => none⟩)
  | none => ⟨fun _ _ => none⟩

noncomputable def onPtr {α : Type} (v : Value) (f : Nat → Nat → α) (g : α) : α :=
  match v with
  | .pointer (some ⟨r, off, none⟩) => f r off
  | _ => g
noncomputable def onInts {α : Type} (x y : Value) (f : IntKind → Int → IntKind → Int → α) (g : α) : α :=
  match x with
  | .int k a => (match y with
    | .int k' b => f k a k' b
    | _ => g)
  | _ => g
noncomputable def onSlice {α : Type} (v : Value) (f : Nat → Nat → Nat → α) (g : α) : α :=
  match v with
  | .slice (some a) n _ => f a.block a.off n
  | _ => g
noncomputable def onAgg {α : Type} (v : Value) (f : List Value → α) (g : α) : α :=
  match v with
  | .agg cs => f cs.toList
  | _ => g
noncomputable def onCells {α : Type} (x : Row) (f : List Value → α) (g : α) : α :=
  match x with
  | .cells _ _ cs => f cs
  | _ => g
noncomputable def onOwn {α : Type} (x : Row) (f : Nat → List Value → α) (g : α) : α :=
  match x with
  | .cells false es cs => f es cs
  | _ => g
noncomputable def onNat {α : Type} (v : Value) (f : Nat → α) (g : α) : α :=
  match v with
  | .int _ (.ofNat n) => f n
  | _ => g
noncomputable def onBool {α : Type} (v : Value) (f : Bool → α) (g : α) : α :=
  match v with
  | .bool b => f b
  | _ => g

structure MemC where
  run : Value → M Value
noncomputable def loadC (E : Env) (t : TypeId) : MemC :=
  PartC.rec (fun part => ⟨fun a s => onPtr a (fun r off => St.rec (fun rows next log wlog => Bool.rec none (Option.rec none (fun x => onCells x (fun cs => Option.rec none (fun v => some (v, ⟨rows, next, r :: log, wlog⟩)) (part cs off)) none) (rows.get r)) (Nat.ble (Nat.succ r) next)) s) (loadA E t a s)⟩) (partC E t)

structure FldC where
  run : Value → Option Value
noncomputable def fieldAddrC (E : Env) (s : TypeId) (f : Nat) : FldC :=
  match ((E.und s).bind structT).bind fun fs => fs[f]?.bind fun f => (E.info f.type).bind fun i => (guardO (Nat.blt 0 i.size)).map fun _ => f.offset with
  | some o => force o fun o => ⟨fun a => onPtr a (fun r off => some (.pointer (some ⟨r, Nat.add off o, none⟩))) (fieldAddrA E s a f)⟩
  | none => ⟨fun a => fieldAddrA E s a f⟩
noncomputable def fieldC (E : Env) (s : TypeId) (f : Nat) : FldC :=
  match ((E.und s).bind structT).bind fun fs => fs[f]? with
  | some fd => PartC.rec (fun part => force fd.offset fun o => ⟨fun x => onAgg x (fun cs => part cs o) none⟩) (partC E fd.type)
  | none => ⟨fun _ => none⟩
structure IdxC where
  run : Value → Value → Option Value
noncomputable def indexAddrC (E : Env) (t : TypeId) : IdxC :=
  match (E.und t).bind fun d => (sliceT d).bind fun e => (E.info e).map fun i => i.size with
  | some z => force z fun z => ⟨fun x i => onSlice x (fun r off n => onNat i (fun k => Bool.rec none (some (.pointer (some ⟨r, Nat.add off (Nat.mul k z), none⟩))) (Nat.ble (Nat.succ k) n)) (indexAddrA E t x i)) (indexAddrA E t x i)⟩
  | none => ⟨fun x i => indexAddrA E t x i⟩
noncomputable def natBin (op : BinOp) : Option (Int → Int → Value) :=
  match op with
  | .eql => some fun a b => .bool (eqA a b)
  | .neq => some fun a b => .bool (Bool.rec true false (eqA a b))
  | .lss => some fun a b => .bool (ltA a b)
  | .leq => some fun a b => .bool (Bool.rec true false (ltA b a))
  | .gtr => some fun a b => .bool (ltA b a)
  | .geq => some fun a b => .bool (Bool.rec true false (ltA a b))
  | _ => none
noncomputable def arBin (op : BinOp) : Option (IntKind → Int → Int → Value) :=
  match op with
  | .add => some fun k a b => .int k (wrapA k (Int.add a b))
  | .sub => some fun k a b => .int k (wrapA k (Int.sub a b))
  | .mul => some fun k a b => .int k (wrapA k (Int.mul a b))
  | _ => none
noncomputable def binC (E : Env) (op : BinOp) (t : TypeId) (xo yo : Operand) : IdxC :=
  match natBin op with
  | some f => ⟨fun x y => onInts x y (fun k a k' b => Bool.rec (binOpA E op t xo yo x y) (some (f a b)) (Nat.beq (codeK k) (codeK k'))) (binOpA E op t xo yo x y)⟩
  | none => match arBin op with
    | some f => ⟨fun x y => onInts x y (fun k a k' b => Bool.rec (binOpA E op t xo yo x y) (some (f k a b)) (Nat.beq (codeK k) (codeK k'))) (binOpA E op t xo yo x y)⟩
    | none => ⟨fun x y => binOpA E op t xo yo x y⟩
noncomputable def oneF (l : List Value) : Bool := List.rec (motive := fun _ => Bool) true (fun v _ ih => Bool.rec (motive := fun _ => Bool) false ih (one1 v)) l
noncomputable def putL (l cs : List Value) : Option (List Value) :=
  List.rec (motive := fun _ => List Value → Option (List Value)) (fun cs => some cs) (fun v _ ih cs => List.rec none (fun _ cs' _ => Option.rec none (fun r => some (v :: r)) (ih cs')) cs) l cs
noncomputable def spliceN (off : Nat) (cs l : List Value) : Option (List Value) :=
  Nat.rec (motive := fun _ => List Value → Option (List Value)) (fun cs => putL l cs) (fun _ ih cs => List.rec none (fun c cs' _ => Option.rec none (fun r => some (c :: r)) (ih cs')) cs) off cs
noncomputable def spliceF (off : Nat) (cs l : List Value) : Option (List Value) := List.rec (motive := fun _ => Option (List Value)) (some cs) (fun _ _ _ => spliceN off cs l) l
noncomputable def cellsL (v : Value) : List Value := onAgg v (fun cs => cs) [v]
noncomputable def eqLen (z : Nat) (l : List Value) : Bool :=
  Nat.rec (motive := fun _ => List Value → Bool) (fun l => List.rec true (fun _ _ _ => false) l) (fun _ ih l => List.rec false (fun _ l' _ => ih l') l) z l
noncomputable def putRow (r off : Nat) (l : List Value) (s : St) : Option (Unit × St) :=
  St.rec (fun rows next log wlog => Bool.rec none (Option.rec none (fun x => onOwn x (fun es cs => Bool.rec none (Option.rec none (fun cs' => Bool.rec none (some ((), ⟨D.put (some (.cells false es cs')) deep rows r, next, r :: r :: log, r :: wlog⟩)) (Nat.ble r 1000000000)) (spliceF off cs l)) (oneF l)) none) (D.get rows r)) (Nat.ble (Nat.succ r) next)) s
structure StoC where
  run : Value → Value → M Unit
noncomputable def storeC (E : Env) (t : TypeId) : StoC :=
  match E.info t with
  | some i => force i.size fun z => ⟨fun a v s => onPtr a (fun r off => Bool.rec (Bool.rec none (putRow r off (cellsL v) s) (eqLen z (cellsL v))) none (isJunk v)) (storeA E t a v s)⟩
  | none => ⟨fun a v => storeA E t a v⟩
noncomputable def appL (a b : List Value) : List Value := List.rec (motive := fun _ => List Value) b (fun v _ ih => v :: ih) a
noncomputable def lift2 (o : Option (List Value)) : M (List Value) := fun s => Option.rec none (fun l => some (l, s)) o
noncomputable def readC (size : Nat) (a : Option Addr) (n : Nat) : M (List Value) :=
  Nat.rec (motive := fun _ => M (List Value)) (M.pure []) (fun m _ => Option.rec (motive := fun _ => M (List Value)) M.fail (fun ad => Addr.rec (motive := fun _ => M (List Value)) (fun r off _ s =>
    St.rec (fun rows next log wlog => Bool.rec none (Option.rec none (fun x => onCells x (fun cs => Option.rec none (fun l => some (l, ⟨rows, next, r :: log, wlog⟩)) (takeV (Nat.mul (Nat.succ m) size) (dropV off cs))) none) (D.get rows r)) (Nat.ble (Nat.succ r) next)) s) ad) a) n
noncomputable def newC (E : Env) (i : Elem) (zeros : Bool) (x : Value) : M (Nat × List Value) :=
  Bool.rec (match x with
    | .slice a n _ => M.bind (readC i.size a n) fun l => M.pure (n, l)
    | x => newCells E i false x) (newCells E i true x) zeros
noncomputable def appendInC (i : Elem) (base : Option Addr) (sLen sCap need : Nat) (l : List Value) : M Value :=
  match l with
  | [] => M.pure (.slice base need sCap)
  | _ :: _ => M.bind (M.lift base) fun a => M.bind (putRow a.block (a.off + sLen * i.size) l) fun _ => M.pure (.slice base need sCap)
noncomputable def appendNewC (i : Elem) (base : Option Addr) (sLen need : Nat) (l : List Value) : M Value :=
  M.bind (M.guard (inReach need i.bytes)) fun _ => M.bind (readC i.size base sLen) fun old => M.bind (leaveA i base) fun es =>
  M.bind (M.fresh (.cells false es (appL old l))) fun r => M.pure (.slice (some ⟨r, 0, some i.size⟩) need need)
noncomputable def appendC (E : Env) (sT xT : TypeId) (s x : Value) : M Value :=
  M.bind (M.lift ((E.und sT).bind sliceT)) fun e => M.bind (M.lift (elemA E e)) fun i => M.bind (M.lift (E.und xT)) fun d =>
  M.bind (M.lift (asSlice s)) fun b => M.bind (newC E i (isInt d) x) fun nl => M.bind (M.guard (oneF nl.2)) fun _ =>
  Bool.rec (appendNewC i b.1 b.2.1 (b.2.1 + nl.1) nl.2) (appendInC i b.1 b.2.1 b.2.2 (b.2.1 + nl.1) nl.2) (Nat.ble (b.2.1 + nl.1) b.2.2)
noncomputable def isNot : UnOp → Bool
  | .not => true
  | _ => false
noncomputable def unC (E : Env) (op : UnOp) : FldC :=
  bif isNot op then ⟨fun x => onBool x (fun b => some (.bool (Bool.rec true false b))) (unOpA E op x)⟩ else ⟨fun x => unOpA E op x⟩
noncomputable def lenC (E : Env) (t : TypeId) : MemC :=
  match (E.und t).bind sliceT with
  | some _ => ⟨fun x s => onSlice x (fun _ _ n => some (.int .i64 (.ofNat n), s)) (lenA E t x s)⟩
  | none => ⟨fun x => lenA E t x⟩

/-- An operation that looks at no memory; one that does. -/
noncomputable def valK (d : DstC) (f : FT 5 → Option Value) : OpC :=
  DstC.rec (fun d => ⟨fun _ t k s => Option.rec none (fun v => d t v k s) (f t)⟩) d
noncomputable def memK (d : DstC) (f : FT 5 → M Value) : OpC :=
  DstC.rec (fun d => ⟨fun _ t k s => Option.rec none (fun p => Prod.rec (fun v s' => d t v k s') p) (f t s)⟩) d
noncomputable def purK (d : DstC) (f : FT 5 → Value) : OpC :=
  DstC.rec (fun d => ⟨fun _ t k s => d t (f t) k s⟩) d
noncomputable def stoK (d : DstC) (f : FT 5 → M Unit) : OpC :=
  DstC.rec (fun d => ⟨fun _ t k s => Option.rec none (fun p => Prod.rec (fun _ s' => d t undef k s') p) (f t s)⟩) d
noncomputable def genK (E : Env) (n : Nat) (ops : Array Oper) (o : Oper) : OpC := ⟨fun call t k => M.bind (evOp E call ops o ⟨n, t⟩) fun fr => k fr.t⟩
noncomputable def v1 (n : Nat) (x : Operand) (f : (FT 5 → Value) → OpC) : OpC := ValC.rec (fun g => f g) (operC n x)

noncomputable def callK (E : Env) (n : Nat) (ops : Array Oper) (o : Oper) (f : FuncId) (args : List Operand) : OpC :=
  match E.ext f with
  | some _ => genK E n ops o
  | none => match E.kt f with
    | some _ => genK E n ops o
    | none => match E.fn f with
      | some _ => LstC.rec (fun h => DstC.rec (fun d => ⟨fun call t k s => Option.rec none (fun p => Prod.rec (fun v s' => d t v k s') p) (call f (h t) s)⟩) (dstC n o.dst)) (argsC n args)
      | none => genK E n ops o

structure PtsC where
  run : FT 5 → List (Nat × Value)
noncomputable def ptsC (n : Nat) : List (Nat × Operand) → PtsC
  | [] => ⟨fun _ => []⟩
  | p :: l => ValC.rec (fun g => PtsC.rec (fun h => ⟨fun t => (p.1, g t) :: h t⟩) (ptsC n l)) (operC n p.2)
structure OptC where
  run : FT 5 → Option Value
noncomputable def optC (n : Nat) (x : Option Operand) : OptC :=
  match x with
  | none => ⟨fun _ => none⟩
  | some x => ValC.rec (fun g => ⟨fun t => some (g t)⟩) (operC n x)
noncomputable def boxA (x : Value) : M Value := bif isJunk x then M.fail else newA 0 x.cells.toList
noncomputable def builtK (E : Env) (n : Nat) (ops : Array Oper) (o : Oper) (b : Builtin) (c : Call) : OpC :=
  match b with
  | .len => (match c.argTypes.toList with
    | ty :: _ => (match c.args.toList with
      | x :: _ => v1 n x fun g => MemC.rec (fun f => memK (dstC n o.dst) fun t => f (g t)) (lenC E ty)
      | [] => genK E n ops o)
    | [] => genK E n ops o)
  | .append => (match c.argTypes.toList with
    | ty :: uy :: _ => (match c.args.toList with
      | x :: y :: _ => v1 n x fun g => v1 n y fun h => memK (dstC n o.dst) fun t => appendC E ty uy (g t) (h t)
      | _ => genK E n ops o)
    | _ => genK E n ops o)
  | .delete | .copy | .cap | .clear | .max | .min => LstC.rec (fun h => memK (dstC n o.dst) fun t => builtinA E b c.argTypes o.type (h t)) (argsC n c.args.toList)
  | _ => genK E n ops o
/-- An operation that is wanted. -/
noncomputable def opW (E : Env) (n : Nat) (ops : Array Oper) (o : Oper) : OpC :=
  match o.op with
  | .move x => v1 n x fun g => purK (dstC n o.dst) g
  | .assign x => v1 n x fun g => purK (dstC n o.dst) g
  | .pick c a b => v1 n c fun c => v1 n a fun a => v1 n b fun b => valK (dstC n o.dst) fun t => pickA (c t) (a t) (b t)
  | .nilCheck x => v1 n x fun g => valK (dstC n o.dst) fun t => nilCheckA (g t)
  | .binOp op ty x y _ => v1 n x fun g => v1 n y fun h => IdxC.rec (fun f => valK (dstC n o.dst) fun t => f (g t) (h t)) (binC E op ty x y)
  | .unOp op _ x => v1 n x fun g => FldC.rec (fun f => valK (dstC n o.dst) fun t => f (g t)) (unC E op)
  | .makeInterface ty x => v1 n x fun g => valK (dstC n o.dst) fun t => makeInterfaceA E ty (g t)
  | .fieldAddr s x f => v1 n x fun g => FldC.rec (fun f => valK (dstC n o.dst) fun t => f (g t)) (fieldAddrC E s f)
  | .field ty x f => v1 n x fun g => FldC.rec (fun f => valK (dstC n o.dst) fun t => f (g t)) (fieldC E ty f)
  | .indexAddr ty x i => v1 n x fun g => v1 n i fun h => IdxC.rec (fun f => valK (dstC n o.dst) fun t => f (g t) (h t)) (indexAddrC E ty)
  | .index ty x i => v1 n x fun g => v1 n i fun h => valK (dstC n o.dst) fun t => indexA E ty (g t) (h t)
  | .extract x i => v1 n x fun g => valK (dstC n o.dst) fun t => extractA (g t) i
  | .load ty a => v1 n a fun g => MemC.rec (fun f => memK (dstC n o.dst) fun t => f (g t)) (loadC E ty)
  | .alloc ty => memK (dstC n o.dst) fun _ => allocA E ty
  | .build ty ps => PtsC.rec (fun h => valK (dstC n o.dst) fun t => buildA E ty (h t)) (ptsC n ps.toList)
  | .buildSlice ty len ps => PtsC.rec (fun h => memK (dstC n o.dst) fun t => buildSliceA E ty len (h t)) (ptsC n ps.toList)
  | .slice ty x lo hi mx => v1 n x fun g => OptC.rec (fun l => OptC.rec (fun h => OptC.rec (fun m => valK (dstC n o.dst) fun t => sliceA E ty (g t) (l t) (h t) (m t)) (optC n mx)) (optC n hi)) (optC n lo)
  | .range ty x => v1 n x fun g => memK (dstC n o.dst) fun t => rangeA E ty (g t)
  | .next it isStr => v1 n it fun g => memK (dstC n o.dst) fun t => nextA (g t) isStr
  | .lookup ty x i c => v1 n x fun g => v1 n i fun h => memK (dstC n o.dst) fun t => lookupA E ty (g t) (h t) c
  | .mapUpdate ty m k v => v1 n m fun g => v1 n k fun h => v1 n v fun e => stoK (dstC n o.dst) fun t => updateA E ty (g t) (h t) (e t)
  | .convert sd d x => v1 n x fun g => memK (dstC n o.dst) fun t => convertA E sd d (g t)
  | .makeSlice ty l c => v1 n l fun g => v1 n c fun h => memK (dstC n o.dst) fun t => makeSliceA E ty (g t) (h t)
  | .store ty a x => v1 n a fun g => v1 n x fun h => StoC.rec (fun f => stoK (dstC n o.dst) fun t => f (g t) (h t)) (storeC E ty)
  | .call c => match c.callee with
    | .value (.func f) => callK E n ops o f c.args.toList
    | .builtin b => builtK E n ops o b c
    | _ => genK E n ops o
  | _ => genK E n ops o

noncomputable def wants (want : Bool) (v : Value) : Bool :=
  match v with
  | .bool b => bif want then b else !b
  | _ => false
noncomputable def skipK (w : OpC) (d : DstC) (want : Bool) (g : FT 5 → Value) : OpC :=
  OpC.rec (fun f => DstC.rec (fun d => ⟨fun call t k s => bif darkV (g t) then none else bif wants want (g t) then f call t k s else d t undef k s⟩) d) w
noncomputable def opC (E : Env) (n : Nat) (ops : Array Oper) (o : Oper) : OpC :=
  match o.guard with
  | none => opW E n ops o
  | some (j, want) => match ops[j]? with
    | some g => match g.dst with
      | some d => v1 n (.tmp d) fun g => skipK (opW E n ops o) (dstC n o.dst) want g
      | none => genK E n ops o
    | none => genK E n ops o

noncomputable def opsC (E : Env) (n : Nat) (ops : Array Oper) : List Oper → OpC
  | [] => ⟨fun _ t k => k t⟩
  | o :: l => OpC.rec (fun f => ⟨fun call t k => f call t fun t => OpC.rec (fun g => g) (opsC E n ops l) call t k⟩) (opC E n ops o)

noncomputable def isNum : TypeDesc → Bool
  | .int _ | .float _ => true
  | _ => false
noncomputable def numT (E : Env) (t : TypeId) : Bool :=
  match E.und t with
  | some d => isNum d
  | none => false
noncomputable def callClass (c : Call) : Nat :=
  match c.callee with
  | .value _ => 2
  | .builtin .append => 2
  | .builtin .copy => 2
  | .builtin .delete => 2
  | .builtin .min => 0
  | .builtin .max => 0
  | .builtin .cap => 0
  | .builtin .len => 1
  | _ => 3
/-- What an operation may do to memory: 0 nothing, 1 it looks, 2 it makes and writes, 3 anything. -/
noncomputable def memClass (E : Env) (o : Op) : Nat :=
  match o with
  | .move _ | .assign _ | .pick _ _ _ | .build _ _ | .nilCheck _ | .binOp _ _ _ _ _ | .unOp _ _ _ | .makeInterface _ _ | .makeFunc _ _ _ | .slice _ _ _ _ _ | .fieldAddr _ _ _ | .field _ _ _ | .indexAddr _ _ _ | .index _ _ _ | .extract _ _ => 0
  | .convert _ d _ => bif numT E d then 0 else 2
  | .load _ _ => 1
  | .lookup _ _ _ _ => 1
  | .alloc _ | .box _ _ | .buildSlice _ _ _ | .store _ _ _ | .makeSlice _ _ _ | .mapUpdate _ _ _ _ | .range _ _ | .next _ _ => 2
  | .call c => callClass c
  | _ => 3
/-- What makes, and neither looks nor writes. -/
noncomputable def makerOp (o : Op) : Bool :=
  match o with
  | .alloc _ | .box _ _ | .buildSlice _ _ _ | .makeSlice _ _ _ | .range _ _ => true
  | _ => false
noncomputable def pairOk (before : Array Nat) (i a j b : Nat) : Bool :=
  bif Nat.beq a 0 then true else bif Nat.beq b 0 then true else bif Nat.beq a 1 && Nat.beq b 1 then true else ordered before i j
noncomputable def allOk (before : Array Nat) (j b : Nat) : List (Nat × Nat) → Bool
  | [] => true
  | p :: l => bif pairOk before p.1 p.2 j b then allOk before j b l else false
noncomputable def staticL (E : Env) (before : Array Nat) : List Oper → Nat → List (Nat × Nat) → Bool
  | [], _, _ => true
  | o :: l, j, seen => bif Nat.ble (memClass E o.op) 2 && (makerOp o.op || allOk before j (memClass E o.op) seen) then staticL E before l (Nat.succ j) ((j, memClass E o.op) :: seen) else false
noncomputable def staticOk (E : Env) (ops : Array Oper) : Bool := staticL E (Region.before ops) ops.toList 0 []

structure DrawC where
  run : CallFn → FT 5 → List (Nat × Did) → (FT 5 → M Value) → M Value
/-- One operation watched: what it did, then what comes of it. -/
noncomputable def watchK (before : Array Nat) (j : Nat) (f : CallFn → FT 5 → (FT 5 → M Value) → M Value) (rest : DrawC) : DrawC :=
  ⟨fun call t ds k s => St.rec (fun rows next log wlog => f call t (fun t' s' => St.rec (fun rows' next' log' wlog' =>
    (fun d : Did => Bool.rec (motive := fun _ => Option (Value × St)) none (DrawC.rec (motive := fun _ => Option (Value × St)) (fun g => g call t' (keep j d ds) k ⟨rows', next', below next log' ++ log, below next wlog' ++ wlog⟩) rest) (settled before j d ds))
      { lo := next, hi := next', log := below next log', wlog := below next wlog' }) s') ⟨rows, next, [], []⟩) s⟩
noncomputable def drawC (E : Env) (n : Nat) (ops : Array Oper) (before : Array Nat) : List Oper → Nat → DrawC
  | [], _ => ⟨fun _ t _ k => k t⟩
  | o :: l, j => bif Nat.beq (memClass E o.op) 0
    then OpC.rec (fun f => ⟨fun call t ds k => f call t fun t' => DrawC.rec (fun g => g) (drawC E n ops before l (Nat.succ j)) call t' ds k⟩) (opC E n ops o)
    else OpC.rec (fun f => watchK before j f (drawC E n ops before l (Nat.succ j))) (opC E n ops o)

noncomputable def condV (v : Value) (a b : M Value) : M Value :=
  match v with
  | .bool t => bif t then a else b
  | _ => M.fail

noncomputable def regC (E : Env) (n : Nat) (ops : Array Oper) (draw : Bool) : CodeC :=
  bif (bif draw then staticOk E ops else true) then OpC.rec (fun f => ⟨fun call _ t k => f call t (k .normal)⟩) (opsC E n ops ops.toList)
  else DrawC.rec (fun g => ⟨fun call _ t k => g call t [] (k .normal)⟩) (drawC E n ops (Region.before ops) ops.toList 0)

noncomputable def evC (E : Env) (n : Nat) (c : Code) : CodeC :=
  Code.rec (motive := fun _ => CodeC)
    ⟨fun _ _ t k => k .normal t⟩
    (fun _ ops draw => regC E n ops draw)
    (fun _ _ ra rb => CodeC.rec (fun f => ⟨fun call lf t k => f call lf t fun x t' => X.rec (CodeC.rec (fun g => g) rb call lf t' k) (fun id => k (.exit id) t') (k .ret t') x⟩) ra)
    (fun c _ _ ra rb => ValC.rec (fun g => ⟨fun call lf t k => condV (g t) (CodeC.rec (fun f => f) ra call lf t k) (CodeC.rec (fun f => f) rb call lf t k)⟩) (operC n c))
    (fun id _ ra => CodeC.rec (fun f => ⟨fun call lf t k => f call lf t fun x t' => X.rec (k .normal t') (fun j => bif Nat.beq j id then k .normal t' else k (.exit j) t') (k .ret t') x⟩) ra)
    (fun _ ra => CodeC.rec (fun f => ⟨fun call lf t k => Nat.rec (fun _ => M.fail) (fun _ self t => f call lf t fun x t' => X.rec (self t') (fun id => k (.exit id) t') (k .ret t') x) lf t⟩) ra)
    (fun _ _ _ _ _ _ => ⟨fun _ _ _ _ => M.fail⟩)
    (fun id => ⟨fun _ _ t k => k (.exit id) t⟩)
    (fun _ ra => ra)
    (fun _ => ⟨fun _ _ t k => k .normal t⟩)
    (fun _ => ⟨fun _ _ _ _ => M.fail⟩)
    ⟨fun _ _ t k => k .ret t⟩
    (fun _ => ⟨fun _ _ _ _ => M.fail⟩)
    c

structure ResC where
  run : FT 5 → M Value
noncomputable def resLC (n : Nat) : List ResultVar → Option LstC
  | [] => some ⟨fun _ => []⟩
  | .tmp x :: l => match resLC n l with
    | some h => some (ValC.rec (fun g => LstC.rec (fun h => ⟨fun t => g t :: h t⟩) h) (operC n (.tmp x)))
    | none => none
  | .cell _ _ :: _ => none
noncomputable def resC (E : Env) (n : Nat) (l : List ResultVar) : ResC :=
  match resLC n l with
  | some h => LstC.rec (fun h => ⟨fun t s => some (oneOf (h t), s)⟩) h
  | none => ⟨fun t => M.bind (resultsA E ⟨n, t⟩ l) fun vs => M.pure (oneOf vs)⟩

structure FillC where
  run : List Value → FT 5 → (FT 5 → M Value) → M Value
noncomputable def fillC (n : Nat) : Nat → Nat → FillC
  | 0, _ => ⟨fun _ _ _ => M.fail⟩
  | k + 1, i => bif Nat.blt i n
    then Slot.rec (fun _ p => ⟨fun l t c => List.rec (c t) (fun v l' _ => FillC.rec (fun f => f) (fillC n k (Nat.succ i)) l' (p t v) c) l⟩) (slotC i)
    else ⟨fun l t c => List.rec (c t) (fun _ _ _ => M.fail) l⟩

noncomputable def funC (E : Env) (f : FuncId) : FunC :=
  match E.dk f with
  | some F => ⟨fun _ _ args => knownF F args⟩
  | none => match E.sk f with
  | some g => ⟨fun _ _ args => M.within (sortedA g args)⟩
  | none => match E.pk f with
  | some p => ⟨fun _ _ args => M.within (peeksA p.1 p.2 args)⟩
  | none => match E.fn f with
    | some fn => match fn.body with
      | some c => bif Nat.ble fn.ntmps 1024 then
          CodeC.rec (fun fc => ResC.rec (fun fr => FillC.rec (fun fill => ⟨fun call lf args => M.within (fill args (FT.all undef 5) fun t => fc call lf t fun x t => X.rec (fr t) (fun _ => M.fail) (fr t) x)⟩) (fillC fn.ntmps 40 0)) (resC E fn.ntmps fn.results.toList)) (evC E fn.ntmps c)
        else ⟨fun _ _ _ => M.fail⟩
      | none => ⟨fun _ _ _ => M.fail⟩
    | none => ⟨fun _ _ _ => M.fail⟩

noncomputable def callC (E : Env) (lf : Nat) (d : Nat) : CallFn :=
  Nat.rec (fun _ _ => M.fail) (fun _ self f args => FunC.rec (fun g => g) (funC E f) self lf args) d

noncomputable def yesC (E : Env) (lf d : Nat) (f : FuncId) (args : List Value) (next : Nat) : Bool :=
  match callC E lf d f args (St.empty next) with
  | some (.bool b, _) => b
  | _ => false
end Go.Cm
