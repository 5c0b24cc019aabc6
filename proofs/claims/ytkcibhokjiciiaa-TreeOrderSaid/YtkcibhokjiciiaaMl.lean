/-
  The same machine, gone through faster: what a program's text fixes is reckoned once and boxed; what runs is what is left. Definitions only. The faster going is the same one: operations and regions. Regions whose order is plain from their text need not be watched.
-/
import Derived.Test.YtkcibhokjiciiaaMi
import Derived.Test.YtkcibhokjiciiaaMg
namespace Go.Cm
open Go

/-- One of four, and turning it. -/
structure Sel (α : Type) where
  get : Q α → α
  upd : (α → α) → Q α → Q α
noncomputable def selC (α : Type) (j : Nat) : Sel α :=
  Nat.rec ⟨fun q => Q.rec (fun a _ _ _ => a) q, fun f q => Q.rec (fun a b c d => ⟨f a, b, c, d⟩) q⟩ (fun j _ =>
  Nat.rec ⟨fun q => Q.rec (fun _ b _ _ => b) q, fun f q => Q.rec (fun a b c d => ⟨a, f b, c, d⟩) q⟩ (fun j _ =>
  Nat.rec ⟨fun q => Q.rec (fun _ _ c _ => c) q, fun f q => Q.rec (fun a b c d => ⟨a, b, f c, d⟩) q⟩ (fun _ _ =>
    ⟨fun q => Q.rec (fun _ _ _ d => d) q, fun f q => Q.rec (fun a b c d => ⟨a, b, c, f d⟩) q⟩) j) j) j

structure Slot where
  get : FT 5 → Value
  put : FT 5 → Value → FT 5
noncomputable def slotC (i : Nat) : Slot :=
  Sel.rec (fun g5 u5 => Sel.rec (fun g4 u4 => Sel.rec (fun g3 u3 => Sel.rec (fun g2 u2 => Sel.rec (fun g1 u1 =>
    ⟨fun t => g1 (g2 (g3 (g4 (g5 t)))), fun t v => u5 (u4 (u3 (u2 (u1 fun _ => v)))) t⟩)
    (selC (FT 0) (Nat.mod (Nat.div i 256) 4))) (selC (FT 1) (Nat.mod (Nat.div i 64) 4))) (selC (FT 2) (Nat.mod (Nat.div i 16) 4))) (selC (FT 3) (Nat.mod (Nat.div i 4) 4))) (selC (FT 4) (Nat.mod i 4))

abbrev CallFn := FuncId → List Value → M Value
structure ValC where
  run : FT 5 → Value
structure LstC where
  run : FT 5 → List Value
structure DstC where
  run : FT 5 → Value → (FT 5 → M Value) → M Value
structure OpC where
  run : CallFn → FT 5 → (FT 5 → M Value) → M Value
structure CodeC where
  run : CallFn → Nat → FT 5 → (X → FT 5 → M Value) → M Value
structure FunC where
  run : CallFn → Nat → List Value → M Value

noncomputable def operC (n : Nat) (x : Operand) : ValC :=
  match x with
  | .tmp i => bif Nat.blt i n then Slot.rec (fun g _ => ⟨g⟩) (slotC i) else ⟨fun _ => undef⟩
  | .const v => ⟨fun _ => v⟩
  | .global g => ⟨fun _ => .pointer (some ⟨g, 0, none⟩)⟩
  | .func f => ⟨fun _ => .func (.func f) #[] #[]⟩
noncomputable def argsC (n : Nat) : List Operand → LstC
  | [] => ⟨fun _ => []⟩
  | x :: l => ValC.rec (fun g => LstC.rec (fun h => ⟨fun t => g t :: h t⟩) (argsC n l)) (operC n x)
noncomputable def dstC (n : Nat) (d : Option Tmp) : DstC :=
  match d with
  | none => ⟨fun t _ k => k t⟩
  | some d => bif Nat.blt d n then Slot.rec (fun _ p => ⟨fun t v k => k (p t v)⟩) (slotC d) else ⟨fun _ _ _ => M.fail⟩

/-! The words that run most, by the recursors themselves: where what is met is not what is usual, the machine's own. -/
noncomputable def nthV (off : Nat) (l : List Value) : Option Value :=
  Nat.rec (motive := fun _ => List Value → Option Value) (fun l => List.rec none (fun v _ _ => some v) l) (fun _ ih l => List.rec none (fun _ l' _ => ih l') l) off l
noncomputable def dropV (off : Nat) (l : List Value) : List Value :=
  Nat.rec (motive := fun _ => List Value → List Value) (fun l => l) (fun _ ih l => List.rec [] (fun _ l' _ => ih l') l) off l
noncomputable def takeV (n : Nat) (l : List Value) : Option (List Value) :=
  Nat.rec (motive := fun _ => List Value → Option (List Value)) (fun _ => some []) (fun _ ih l => List.rec none (fun v l' _ => Option.rec none (fun r => some (v :: r)) (ih l')) l) n l
structure PartC where
  run : List Value → Nat → Option Value
noncomputable def partC (E : Env) (t : TypeId) : PartC :=
  match aggT E t with
  | some true => (match E.info t with
    | some i => force i.size fun n => ⟨fun cs off => Option.rec none (fun l => some (.agg ⟨l⟩)) (takeV n (dropV off cs))⟩
    | none => ⟨fun _ _ => none⟩)
  | some false => (match E.info t with
    | some _ => ⟨fun cs off => nthV off cs⟩
    | none => ⟨fun _ _ => none⟩)
  | none => ⟨fun _ _ => none⟩

noncomputable def onPtr {α : Type} (v : Value) (f : Nat → Nat → α) (g : α) : α :=
  match v with
  | .pointer (some ⟨r, off, none⟩) => f r off
  | _ => g
noncomputable def onInts {α : Type} (x y : Value) (f : IntKind → Int → IntKind → Int → α) (g : α) : α :=
  match x with
  | .int k a => (match y with
    | .int k' b => f k a k' b
    | _ => g)
  | _ => g
noncomputable def onSlice {α : Type} (v : Value) (f : Nat → Nat → Nat → α) (g : α) : α :=
  match v with
  | .slice (some a) n _ => f a.block a.off n
  | _ => g
noncomputable def onAgg {α : Type} (v : Value) (f : List Value → α) (g : α) : α :=
  match v with
  | .agg cs => f cs.toList
  | _ => g
noncomputable def onCells {α : Type} (x : Row) (f : List Value → α) (g : α) : α :=
  match x with
  | .cells _ _ cs => f cs
  | _ => g
noncomputable def onOwn {α : Type} (x : Row) (f : Nat → List Value → α) (g : α) : α :=
  match x with
  | .cells false es cs => f es cs
  | _ => g
noncomputable def onNat {α : Type} (v : Value) (f : Nat → α) (g : α) : α :=
  match v with
  | .int _ (.ofNat n) => f n
  | _ => g
noncomputable def onBool {α : Type} (v : Value) (f : Bool → α) (g : α) : α :=
  match v with
  | .bool b => f b
  | _ => g

structure MemC where
  run : Value → M Value
noncomputable def loadC (E : Env) (t : TypeId) : MemC :=
  PartC.rec (fun part => ⟨fun a s => onPtr a (fun r off => St.rec (fun rows next log wlog => Bool.rec none (Option.rec none (fun x => onCells x (fun cs => Option.rec none (fun v => some (v, ⟨rows, next, r :: log, wlog⟩)) (part cs off)) none) (rows.get r)) (Nat.ble (Nat.succ r) next)) s) (loadA E t a s)⟩) (partC E t)

structure FldC where
  run : Value → Option Value
noncomputable def fieldAddrC (E : Env) (s : TypeId) (f : Nat) : FldC :=
  match ((E.und s).bind structT).bind fun fs => fs[f]?.bind fun f => (E.info f.type).bind fun i => (guardO (Nat.blt 0 i.size)).map fun _ => f.offset with
  | some o => force o fun o => ⟨fun a => onPtr a (fun r off => some (.pointer (some ⟨r, Nat.add off o, none⟩))) (fieldAddrA E s a f)⟩
  | none => ⟨fun a => fieldAddrA E s a f⟩
noncomputable def fieldC (E : Env) (s : TypeId) (f : Nat) : FldC :=
  match ((E.und s).bind structT).bind fun fs => fs[f]? with
  | some fd => PartC.rec (fun part => force fd.offset fun o => ⟨fun x => onAgg x (fun cs => part cs o) none⟩) (partC E fd.type)
  | none => ⟨fun _ => none⟩
structure IdxC where
  run : Value → Value → Option Value
noncomputable def indexAddrC (E : Env) (t : TypeId) : IdxC :=
  match (E.und t).bind fun d => (sliceT d).bind fun e => (E.info e).map fun i => i.size with
  | some z => force z fun z => ⟨fun x i => onSlice x (fun r off n => onNat i (fun k => Bool.rec none (some (.pointer (some ⟨r, Nat.add off (Nat.mul k z), none⟩))) (Nat.ble (Nat.succ k) n)) (indexAddrA E t x i)) (indexAddrA E t x i)⟩
  | none => ⟨fun x i => indexAddrA E t x i⟩
noncomputable def natBin (op : BinOp) : Option (Int → Int → Value) :=
  match op with
  | .eql => some fun a b => .bool (eqA a b)
  | .neq => some fun a b => .bool (Bool.rec true false (eqA a b))
  | .lss => some fun a b => .bool (ltA a b)
  | .leq => some fun a b => .bool (Bool.rec true false (ltA b a))
  | .gtr => some fun a b => .bool (ltA b a)
  | .geq => some fun a b => .bool (Bool.rec true false (ltA a b))
  | _ => none
noncomputable def arBin (op : BinOp) : Option (IntKind → Int → Int → Value) :=
  match op with
  | .add => some fun k a b => .int k (wrapA k (Int.add a b))
  | .sub => some fun k a b => .int k (wrapA k (Int.sub a b))
  | .mul => some fun k a b => .int k (wrapA k (Int.mul a b))
  | _ => none
noncomputable def binC (E : Env) (op : BinOp) (t : TypeId) (xo yo : Operand) : IdxC :=
  match natBin op with
  | some f => ⟨fun x y => onInts x y (fun k a k' b => Bool.rec (binOpA E op t xo yo x y) (some (f a b)) (Nat.beq (codeK k) (codeK k'))) (binOpA E op t xo yo x y)⟩
  | none => match arBin op with
    | some f => ⟨fun x y => onInts x y (fun k a k' b => Bool.rec (binOpA E op t xo yo x y) (some (f k a b)) (Nat.beq (codeK k) (codeK k'))) (binOpA E op t xo yo x y)⟩
    | none => ⟨fun x y => binOpA E op t xo yo x y⟩
noncomputable def oneF (l : List Value) : Bool := List.rec (motive := fun _ => Bool) true (fun v _ ih => Bool.rec (motive := fun _ => Bool) false ih (one1 v)) l
noncomputable def putL (l cs : List Value) : Option (List Value) :=
  List.rec (motive := fun _ => List Value → Option (List Value)) (fun cs => some cs) (fun v _ ih cs => List.rec none (fun _ cs' _ => Option.rec none (fun r => some (v :: r)) (ih cs')) cs) l cs
noncomputable def spliceN (off : Nat) (cs l : List Value) : Option (List Value) :=
  Nat.rec (motive := fun _ => List Value → Option (List Value)) (fun cs => putL l cs) (fun _ ih cs => List.rec none (fun c cs' _ => Option.rec none (fun r => some (c :: r)) (ih cs')) cs) off cs
noncomputable def spliceF (off : Nat) (cs l : List Value) : Option (List Value) := List.rec (motive := fun _ => Option (List Value)) (some cs) (fun _ _ _ => spliceN off cs l) l
noncomputable def cellsL (v : Value) : List Value := onAgg v (fun cs => cs) [v]
noncomputable def eqLen (z : Nat) (l : List Value) : Bool :=
  Nat.rec (motive := fun _ => List Value → Bool) (fun l => List.rec true (fun _ _ _ => false) l) (fun _ ih l => List.rec false (fun _ l' _ => ih l') l) z l
noncomputable def putRow (r off : Nat) (l : List Value) (s : St) : Option (Unit × St) :=
  St.rec (fun rows next log wlog => Bool.rec none (Option.rec none (fun x => onOwn x (fun es cs => Bool.rec none (Option.rec none (fun cs' => Bool.rec none (some ((), ⟨D.put (some (.cells false es cs')) deep rows r, next, r :: r :: log, r :: wlog⟩)) (Nat.ble r 1000000000)) (spliceF off cs l)) (oneF l)) none) (D.get rows r)) (Nat.ble (Nat.succ r) next)) s
structure StoC where
  run : Value → Value → M Unit
noncomputable def storeC (E : Env) (t : TypeId) : StoC :=
  match E.info t with
  | some i => force i.size fun z => ⟨fun a v s => onPtr a (fun r off => Bool.rec (Bool.rec none (putRow r off (cellsL v) s) (eqLen z (cellsL v))) none (isJunk v)) (storeA E t a v s)⟩
  | none => ⟨fun a v => storeA E t a v⟩
noncomputable def appL (a b : List Value) : List Value := List.rec (motive := fun _ => List Value) b (fun v _ ih => v :: ih) a
noncomputable def lift2 (o : Option (List Value)) : M (List Value) := fun s => Option.rec none (fun l => some (l, s)) o
noncomputable def readC (size : Nat) (a : Option Addr) (n : Nat) : M (List Value) :=
  Nat.rec (motive := fun _ => M (List Value)) (M.pure []) (fun m _ => Option.rec (motive := fun _ => M (List Value)) M.fail (fun ad => Addr.rec (motive := fun _ => M (List Value)) (fun r off _ s =>
    St.rec (fun rows next log wlog => Bool.rec none (Option.rec none (fun x => onCells x (fun cs => Option.rec none (fun l => some (l, ⟨rows, next, r :: log, wlog⟩)) (takeV (Nat.mul (Nat.succ m) size) (dropV off cs))) none) (D.get rows r)) (Nat.ble (Nat.succ r) next)) s) ad) a) n
noncomputable def newC (E : Env) (i : Elem) (zeros : Bool) (x : Value) : M (Nat × List Value) :=
  Bool.rec (match x with
    | .slice a n _ => M.bind (readC i.size a n) fun l => M.pure (n, l)
    | x => newCells E i false x) (newCells E i true x) zeros
noncomputable def appendInC (i : Elem) (base : Option Addr) (sLen sCap need : Nat) (l : List Value) : M Value :=
  match l with
  | [] => M.pure (.slice base need sCap)
  | _ :: _ => M.bind (M.lift base) fun a => M.bind (putRow a.block (a.off + sLen * i.size) l) fun _ => M.pure (.slice base need sCap)
noncomputable def appendNewC (i : Elem) (base : Option Addr) (sLen need : Nat) (l : List Value) : M Value :=
  M.bind (M.guard (inReach need i.bytes)) fun _ => M.bind (readC i.size base sLen) fun old => M.bind (leaveA i base) fun es =>
  M.bind (M.fresh (.cells false es (appL old l))) fun r => M.pure (.slice (some ⟨r, 0, some i.size⟩) need need)
noncomputable def appendC (E : Env) (sT xT : TypeId) (s x : Value) : M Value :=
  M.bind (M.lift ((E.und sT).bind sliceT)) fun e => M.bind (M.lift (elemA E e)) fun i => M.bind (M.lift (E.und xT)) fun d =>
  M.bind (M.lift (asSlice s)) fun b => M.bind (newC E i (isInt d) x) fun nl => M.bind (M.guard (oneF nl.2)) fun _ =>
  Bool.rec (appendNewC i b.1 b.2.1 (b.2.1 + nl.1) nl.2) (appendInC i b.1 b.2.1 b.2.2 (b.2.1 + nl.1) nl.2) (Nat.ble (b.2.1 + nl.1) b.2.2)
noncomputable def isNot : UnOp → Bool
  | .not => true
  | _ => false
noncomputable def unC (E : Env) (op : UnOp) : FldC :=
  bif isNot op then ⟨fun x => onBool x (fun b => some (.bool (Bool.rec true false b))) (unOpA E op x)⟩ else ⟨fun x => unOpA E op x⟩
noncomputable def lenC (E : Env) (t : TypeId) : MemC :=
  match (E.und t).bind sliceT with
  | some _ => ⟨fun x s => onSlice x (fun _ _ n => some (.int .i64 (.ofNat n), s)) (lenA E t x s)⟩
  | none => ⟨fun x => lenA E t x⟩

/-- An operation that looks at no memory; one that does. -/
noncomputable def valK (d : DstC) (f : FT 5 → Option Value) : OpC :=
  DstC.rec (fun d => ⟨fun _ t k s => Option.rec none (fun v => d t v k s) (f t)⟩) d
noncomputable def memK (d : DstC) (f : FT 5 → M Value) : OpC :=
  DstC.rec (fun d => ⟨fun _ t k s => Option.rec none (fun p => Prod.rec (fun v s' => d t v k s') p) (f t s)⟩) d
noncomputable def purK (d : DstC) (f : FT 5 → Value) : OpC :=
  DstC.rec (fun d => ⟨fun _ t k s => d t (f t) k s⟩) d
noncomputable def stoK (d : DstC) (f : FT 5 → M Unit) : OpC :=
  DstC.rec (fun d => ⟨fun _ t k s => Option.rec none (fun p => Prod.rec (fun _ s' => d t undef k s') p) (f t s)⟩) d
noncomputable def genK (E : Env) (n : Nat) (ops : Array Oper) (o : Oper) : OpC := ⟨fun call t k => M.bind (evOp E call ops o ⟨n, t⟩) fun fr => k fr.t⟩
noncomputable def v1 (n : Nat) (x : Operand) (f : (FT 5 → Value) → OpC) : OpC := ValC.rec (fun g => f g) (operC n x)

noncomputable def callK (E : Env) (n : Nat) (ops : Array Oper) (o : Oper) (f : FuncId) (args : List Operand) : OpC :=
  match E.ext f with
  | some _ => genK E n ops o
  | none => match E.kt f with
    | some _ => genK E n ops o
    | none => match E.fn f with
      | some _ => LstC.rec (fun h => DstC.rec (fun d => ⟨fun call t k s => Option.rec none (fun p => Prod.rec (fun v s' => d t v k s') p) (call f (h t) s)⟩) (dstC n o.dst)) (argsC n args)
      | none => genK E n ops o

structure PtsC where
  run : FT 5 → List (Nat × Value)
noncomputable def ptsC (n : Nat) : List (Nat × Operand) → PtsC
  | [] => ⟨fun _ => []⟩
  | p :: l => ValC.rec (fun g => PtsC.rec (fun h => ⟨fun t => (p.1, g t) :: h t⟩) (ptsC n l)) (operC n p.2)
structure OptC where
  run : FT 5 → Option Value
noncomputable def optC (n : Nat) (x : Option Operand) : OptC :=
  match x with
  | none => ⟨fun _ => none⟩
  | some x => ValC.rec (fun g => ⟨fun t => some (g t)⟩) (operC n x)
noncomputable def boxA (x : Value) : M Value := bif isJunk x then M.fail else newA 0 x.cells.toList
noncomputable def builtK (E : Env) (n : Nat) (ops : Array Oper) (o : Oper) (b : Builtin) (c : Call) : OpC :=
  match b with
  | .len => (match c.argTypes.toList with
    | ty :: _ => (match c.args.toList with
      | x :: _ => v1 n x fun g => MemC.rec (fun f => memK (dstC n o.dst) fun t => f (g t)) (lenC E ty)
      | [] => genK E n ops o)
    | [] => genK E n ops o)
  | .append => (match c.argTypes.toList with
    | ty :: uy :: _ => (match c.args.toList with
      | x :: y :: _ => v1 n x fun g => v1 n y fun h => memK (dstC n o.dst) fun t => appendC E ty uy (g t) (h t)
      | _ => genK E n ops o)
    | _ => genK E n ops o)
  | .delete | .copy | .cap | .clear | .max | .min => LstC.rec (fun h => memK (dstC n o.dst) fun t => builtinA E b c.argTypes o.type (h t)) (argsC n c.args.toList)
  | _ => genK E n ops o
/-- An operation that is wanted. -/
noncomputable def opW (E : Env) (n : Nat) (ops : Array Oper) (o : Oper) : OpC :=
  match o.op with
  | .move x => v1 n x fun g => purK (dstC n o.dst) g
  | .assign x => v1 n x fun g => purK (dstC n o.dst) g
  | .pick c a b => v1 n c fun c => v1 n a fun a => v1 n b fun b => valK (dstC n o.dst) fun t => pickA (c t) (a t) (b t)
  | .nilCheck x => v1 n x fun g => valK (dstC n o.dst) fun t => nilCheckA (g t)
  | .binOp op ty x y _ => v1 n x fun g => v1 n y fun h => IdxC.rec (fun f => valK (dstC n o.dst) fun t => f (g t) (h t)) (binC E op ty x y)
  | .unOp op _ x => v1 n x fun g => FldC.rec (fun f => valK (dstC n o.dst) fun t => f (g t)) (unC E op)
  | .makeInterface ty x => v1 n x fun g => valK (dstC n o.dst) fun t => makeInterfaceA E ty (g t)
  | .fieldAddr s x f => v1 n x fun g => FldC.rec (fun f => valK (dstC n o.dst) fun t => f (g t)) (fieldAddrC E s f)
  | .field ty x f => v1 n x fun g => FldC.rec (fun f => valK (dstC n o.dst) fun t => f (g t)) (fieldC E ty f)
  | .indexAddr ty x i => v1 n x fun g => v1 n i fun h => IdxC.rec (fun f => valK (dstC n o.dst) fun t => f (g t) (h t)) (indexAddrC E ty)
  | .index ty x i => v1 n x fun g => v1 n i fun h => valK (dstC n o.dst) fun t => indexA E ty (g t) (h t)
  | .extract x i => v1 n x fun g => valK (dstC n o.dst) fun t => extractA (g t) i
  | .load ty a => v1 n a fun g => MemC.rec (fun f => memK (dstC n o.dst) fun t => f (g t)) (loadC E ty)
  | .alloc ty => memK (dstC n o.dst) fun _ => allocA E ty
  | .build ty ps => PtsC.rec (fun h => valK (dstC n o.dst) fun t => buildA E ty (h t)) (ptsC n ps.toList)
  | .buildSlice ty len ps => PtsC.rec (fun h => memK (dstC n o.dst) fun t => buildSliceA E ty len (h t)) (ptsC n ps.toList)
  | .slice ty x lo hi mx => v1 n x fun g => OptC.rec (fun l => OptC.rec (fun h => OptC.rec (fun m => valK (dstC n o.dst) fun t => sliceA E ty (g t) (l t) (h t) (m t)) (optC n mx)) (optC n hi)) (optC n lo)
  | .range ty x => v1 n x fun g => memK (dstC n o.dst) fun t => rangeA E ty (g t)
  | .next it isStr => v1 n it fun g => memK (dstC n o.dst) fun t => nextA (g t) isStr
  | .lookup ty x i c => v1 n x fun g => v1 n i fun h => memK (dstC n o.dst) fun t => lookupA E ty (g t) (h t) c
  | .mapUpdate ty m k v => v1 n m fun g => v1 n k fun h => v1 n v fun e => stoK (dstC n o.dst) fun t => updateA E ty (g t) (h t) (e t)
  | .convert sd d x => v1 n x fun g => memK (dstC n o.dst) fun t => convertA E sd d (g t)
  | .makeSlice ty l c => v1 n l fun g => v1 n c fun h => memK (dstC n o.dst) fun t => makeSliceA E ty (g t) (h t)
  | .store ty a x => v1 n a fun g => v1 n x fun h => StoC.rec (fun f => stoK (dstC n o.dst) fun t => f (g t) (h t)) (storeC E ty)
  | .call c => match c.callee with
    | .value (.func f) => callK E n ops o f c.args.toList
    | .builtin b => builtK E n ops o b c
    | _ => genK E n ops o
  | _ => genK E n ops o

noncomputable def wants (want : Bool) (v : Value) : Bool :=
  match v with
  | .bool b => bif want then b else !b
  | _ => false
noncomputable def skipK (w : OpC) (d : DstC) (want : Bool) (g : FT 5 → Value) : OpC :=
  OpC.rec (fun f => DstC.rec (fun d => ⟨fun call t k s => bif darkV (g t) then none else bif wants want (g t) then f call t k s else d t undef k s⟩) d) w
noncomputable def opC (E : Env) (n : Nat) (ops : Array Oper) (o : Oper) : OpC :=
  match o.guard with
  | none => opW E n ops o
  | some (j, want) => match ops[j]? with
    | some g => match g.dst with
      | some d => v1 n (.tmp d) fun g => skipK (opW E n ops o) (dstC n o.dst) want g
      | none => genK E n ops o
    | none => genK E n ops o

noncomputable def opsC (E : Env) (n : Nat) (ops : Array Oper) : List Oper → OpC
  | [] => ⟨fun _ t k => k t⟩
  | o :: l => OpC.rec (fun f => ⟨fun call t k => f call t fun t => OpC.rec (fun g => g) (opsC E n ops l) call t k⟩) (opC E n ops o)

noncomputable def isNum : TypeDesc → Bool
  | .int _ | .float _ => true
  | _ => false
noncomputable def numT (E : Env) (t : TypeId) : Bool :=
  match E.und t with
  | some d => isNum d
  | none => false
noncomputable def callClass (c : Call) : Nat :=
  match c.callee with
  | .value _ => 2
  | .builtin .append => 2
  | .builtin .copy => 2
  | .builtin .delete => 2
  | .builtin .min => 0
  | .builtin .max => 0
  | .builtin .cap => 0
  | .builtin .len => 1
  | _ => 3
/-- What an operation may do to memory: 0 nothing, 1 it looks, 2 it makes and writes, 3 anything. -/
noncomputable def memClass (E : Env) (o : Op) : Nat :=
  match o with
  | .move _ | .assign _ | .pick _ _ _ | .build _ _ | .nilCheck _ | .binOp _ _ _ _ _ | .unOp _ _ _ | .makeInterface _ _ | .makeFunc _ _ _ | .slice _ _ _ _ _ | .fieldAddr _ _ _ | .field _ _ _ | .indexAddr _ _ _ | .index _ _ _ | .extract _ _ => 0
  | .convert _ d _ => bif numT E d then 0 else 2
  | .load _ _ => 1
  | .lookup _ _ _ _ => 1
  | .alloc _ | .box _ _ | .buildSlice _ _ _ | .store _ _ _ | .makeSlice _ _ _ | .mapUpdate _ _ _ _ | .range _ _ | .next _ _ => 2
  | .call c => callClass c
  | _ => 3
/-- What makes, and neither looks nor writes. -/
noncomputable def makerOp (o : Op) : Bool :=
  match o with
  | .alloc _ | .box _ _ | .buildSlice _ _ _ | .makeSlice _ _ _ | .range _ _ => true
  | _ => false
noncomputable def pairOk (before : Array Nat) (i a j b : Nat) : Bool :=
  bif Nat.beq a 0 then true else bif Nat.beq b 0 then true else bif Nat.beq a 1 && Nat.beq b 1 then true else ordered before i j
noncomputable def allOk (before : Array Nat) (j b : Nat) : List (Nat × Nat) → Bool
  | [] => true
  | p :: l => bif pairOk before p.1 p.2 j b then allOk before j b l else false
noncomputable def staticL (E : Env) (before : Array Nat) : List Oper → Nat → List (Nat × Nat) → Bool
  | [], _, _ => true
  | o :: l, j, seen => bif Nat.ble (memClass E o.op) 2 && (makerOp o.op || allOk before j (memClass E o.op) seen) then staticL E before l (Nat.succ j) ((j, memClass E o.op) :: seen) else false
noncomputable def staticOk (E : Env) (ops : Array Oper) : Bool := staticL E (Region.before ops) ops.toList 0 []

structure DrawC where
  run : CallFn → FT 5 → List (Nat × Did) → (FT 5 → M Value) → M Value
/-- One operation watched: what it did, then what comes of it. -/
noncomputable def watchK (before : Array Nat) (j : Nat) (f : CallFn → FT 5 → (FT 5 → M Value) → M Value) (rest : DrawC) : DrawC :=
  ⟨fun call t ds k s => St.rec (fun rows next log wlog => f call t (fun t' s' => St.rec (fun rows' next' log' wlog' =>
    (fun d : Did => Bool.rec (motive := fun _ => Option (Value × St)) none (DrawC.rec (motive := fun _ => Option (Value × St)) (fun g => g call t' (keep j d ds) k ⟨rows', next', below next log' ++ log, below next wlog' ++ wlog⟩) rest) (settled before j d ds))
      { lo := next, hi := next', log := below next log', wlog := below next wlog' }) s') ⟨rows, next, [], []⟩) s⟩
noncomputable def drawC (E : Env) (n : Nat) (ops : Array Oper) (before : Array Nat) : List Oper → Nat → DrawC
  | [], _ => ⟨fun _ t _ k => k t⟩
  | o :: l, j => bif Nat.beq (memClass E o.op) 0
    then OpC.rec (fun f => ⟨fun call t ds k => f call t fun t' => DrawC.rec (fun g => g) (drawC E n ops before l (Nat.succ j)) call t' ds k⟩) (opC E n ops o)
    else OpC.rec (fun f => watchK before j f (drawC E n ops before l (Nat.succ j))) (opC E n ops o)

noncomputable def condV (v : Value) (a b : M Value) : M Value :=
  match v with
  | .bool t => bif t then a else b
  | _ => M.fail

noncomputable def regC (E : Env) (n : Nat) (ops : Array Oper) (draw : Bool) : CodeC :=
  bif (bif draw then staticOk E ops else true) then OpC.rec (fun f => ⟨fun call _ t k => f call t (k .normal)⟩) (opsC E n ops ops.toList)
  else DrawC.rec (fun g => ⟨fun call _ t k => g call t [] (k .normal)⟩) (drawC E n ops (Region.before ops) ops.toList 0)

noncomputable def evC (E : Env) (n : Nat) (c : Code) : CodeC :=
  Code.rec (motive := fun _ => CodeC)
    ⟨fun _ _ t k => k .normal t⟩
    (fun _ ops draw => regC E n ops draw)
    (fun _ _ ra rb => CodeC.rec (fun f => ⟨fun call lf t k => f call lf t fun x t' => X.rec (CodeC.rec (fun g => g) rb call lf t' k) (fun id => k (.exit id) t') (k .ret t') x⟩) ra)
    (fun c _ _ ra rb => ValC.rec (fun g => ⟨fun call lf t k => condV (g t) (CodeC.rec (fun f => f) ra call lf t k) (CodeC.rec (fun f => f) rb call lf t k)⟩) (operC n c))
    (fun id _ ra => CodeC.rec (fun f => ⟨fun call lf t k => f call lf t fun x t' => X.rec (k .normal t') (fun j => bif Nat.beq j id then k .normal t' else k (.exit j) t') (k .ret t') x⟩) ra)
    (fun _ ra => CodeC.rec (fun f => ⟨fun call lf t k => Nat.rec (fun _ => M.fail) (fun _ self t => f call lf t fun x t' => X.rec (self t') (fun id => k (.exit id) t') (k .ret t') x) lf t⟩) ra)
    (fun _ _ _ _ _ _ => ⟨fun _ _ _ _ => M.fail⟩)
    (fun id => ⟨fun _ _ t k => k (.exit id) t⟩)
    (fun _ ra => ra)
    (fun _ => ⟨fun _ _ t k => k .normal t⟩)
    (fun _ => ⟨fun _ _ _ _ => M.fail⟩)
    ⟨fun _ _ t k => k .ret t⟩
    (fun _ => ⟨fun _ _ _ _ => M.fail⟩)
    c

structure ResC where
  run : FT 5 → M Value
noncomputable def resLC (n : Nat) : List ResultVar → Option LstC
  | [] => some ⟨fun _ => []⟩
  | .tmp x :: l => match resLC n l with
    | some h => some (ValC.rec (fun g => LstC.rec (fun h => ⟨fun t => g t :: h t⟩) h) (operC n (.tmp x)))
    | none => none
  | .cell _ _ :: _ => none
noncomputable def resC (E : Env) (n : Nat) (l : List ResultVar) : ResC :=
  match resLC n l with
  | some h => LstC.rec (fun h => ⟨fun t s => some (oneOf (h t), s)⟩) h
  | none => ⟨fun t => M.bind (resultsA E ⟨n, t⟩ l) fun vs => M.pure (oneOf vs)⟩

structure FillC where
  run : List Value → FT 5 → (FT 5 → M Value) → M Value
noncomputable def fillC (n : Nat) : Nat → Nat → FillC
  | 0, _ => ⟨fun _ _ _ => M.fail⟩
  | k + 1, i => bif Nat.blt i n
    then Slot.rec (fun _ p => ⟨fun l t c => List.rec (c t) (fun v l' _ => FillC.rec (fun f => f) (fillC n k (Nat.succ i)) l' (p t v) c) l⟩) (slotC i)
    else ⟨fun l t c => List.rec (c t) (fun _ _ _ => M.fail) l⟩

noncomputable def funC (E : Env) (f : FuncId) : FunC :=
  match E.dk f with
  | some F => ⟨fun _ _ args => knownF F args⟩
  | none => match E.sk f with
  | some g => ⟨fun _ _ args => M.within (sortedA g args)⟩
  | none => match E.pk f with
  | some p => ⟨fun _ _ args => M.within (peeksA p.1 p.2 args)⟩
  | none => match E.fn f with
    | some fn => match fn.body with
      | some c => bif Nat.ble fn.ntmps 1024 then
          CodeC.rec (fun fc => ResC.rec (fun fr => FillC.rec (fun fill => ⟨fun call lf args => M.within (fill args (FT.all undef 5) fun t => fc call lf t fun x t => X.rec (fr t) (fun _ => M.fail) (fr t) x)⟩) (fillC fn.ntmps 40 0)) (resC E fn.ntmps fn.results.toList)) (evC E fn.ntmps c)
        else ⟨fun _ _ _ => M.fail⟩
      | none => ⟨fun _ _ _ => M.fail⟩
    | none => ⟨fun _ _ _ => M.fail⟩

noncomputable def callC (E : Env) (lf : Nat) (d : Nat) : CallFn :=
  Nat.rec (fun _ _ => M.fail) (fun _ self f args => FunC.rec (fun g => g) (funC E f) self lf args) d

noncomputable def yesC (E : Env) (lf d : Nat) (f : FuncId) (args : List Value) (next : Nat) : Bool :=
  match callC E lf d f args (St.empty next) with
  | some (.bool b, _) => b
  | _ => false
end Go.Cm
namespace Go.Cm
open Go

theorem sel_get {α : Type} (j : Nat) (q : Q α) : (selC α j).get q = Q.at q j := by cases q; rcases j with _ | _ | _ | j <;> rfl
theorem sel_upd {α : Type} (j : Nat) (f : α → α) (q : Q α) : (selC α j).upd f q = Q.set q j (f (Q.at q j)) := by cases q; rcases j with _ | _ | _ | j <;> rfl
theorem slot_get (i : Nat) (t : FT 5) : (slotC i).get t = FT.get5 t i := by
  show (selC (FT 0) _).get ((selC (FT 1) _).get ((selC (FT 2) _).get ((selC (FT 3) _).get ((selC (FT 4) _).get t)))) = _
  exact (sel_get (α := FT 0) _ _).trans (congrArg (fun q : Q (FT 0) => Q.at q _) ((sel_get (α := FT 1) _ _).trans (congrArg (fun q : Q (FT 1) => Q.at q _) ((sel_get (α := FT 2) _ _).trans (congrArg (fun q : Q (FT 2) => Q.at q _) ((sel_get (α := FT 3) _ _).trans (congrArg (fun q : Q (FT 3) => Q.at q _) (sel_get (α := FT 4) _ _))))))))
theorem slot_put (i : Nat) (t : FT 5) (v : Value) : (slotC i).put t v = FT.put5 t i v := by
  show (selC (FT 4) _).upd ((selC (FT 3) _).upd ((selC (FT 2) _).upd ((selC (FT 1) _).upd ((selC (FT 0) _).upd fun _ => v)))) t = _
  exact (sel_upd (α := FT 4) _ _ _).trans (congrArg (fun q : FT 4 => Q.set (α := FT 4) t _ q) ((sel_upd (α := FT 3) _ _ _).trans (congrArg (fun q : FT 3 => Q.set (α := FT 3) _ _ q) ((sel_upd (α := FT 2) _ _ _).trans (congrArg (fun q : FT 2 => Q.set (α := FT 2) _ _ q) ((sel_upd (α := FT 1) _ _ _).trans (congrArg (fun q : FT 1 => Q.set (α := FT 1) _ _ q) (sel_upd (α := FT 0) _ _ _))))))))

theorem bind_pure_l {α β : Type} (a : α) (f : α → M β) : M.bind (M.pure a) f = f a := by funext s; rfl
theorem bind_fail {α β : Type} (f : α → M β) : M.bind M.fail f = M.fail := by funext s; rfl
theorem bind_assoc {α β γ : Type} (m : M α) (f : α → M β) (g : β → M γ) : M.bind (M.bind m f) g = M.bind m fun a => M.bind (f a) g := by
  funext s; rw [M.bind_eq, M.bind_eq, M.bind_eq]; cases m s with
  | none => rfl
  | some p => simp only; rw [M.bind_eq]
theorem bind_congr {α β : Type} {m : M α} {f g : α → M β} (h : ∀ s a s', m s = some (a, s') → f a = g a) : M.bind m f = M.bind m g := by
  funext s; rw [M.bind_eq, M.bind_eq]; cases hm : m s with
  | none => rfl
  | some p => simp only; rw [h s p.1 p.2 hm]

theorem oper_run (n : Nat) (t : FT 5) (x : Operand) : (operC n x).run t = Fr.eval ⟨n, t⟩ x := by
  cases x with
  | tmp i =>
    show ValC.run (bif Nat.blt i n then ⟨(slotC i).get⟩ else ⟨fun _ => undef⟩) t = (bif Nat.blt i n then FT.get5 t i else undef)
    cases Nat.blt i n
    · rfl
    · exact slot_get i t
  | const v => rfl
  | global g => rfl
  | func f => rfl
theorem v1_eq (n : Nat) (x : Operand) (f : (FT 5 → Value) → OpC) : v1 n x f = f fun t => Fr.eval ⟨n, t⟩ x := by
  show f (operC n x).run = _
  congr 1; funext t; exact oper_run n t x
theorem args_run (n : Nat) (t : FT 5) : ∀ l : List Operand, (argsC n l).run t = l.map (Fr.eval ⟨n, t⟩)
  | [] => rfl
  | x :: l => by
    show (operC n x).run t :: (argsC n l).run t = _
    rw [oper_run, args_run n t l]; rfl
theorem dst_run (n : Nat) (d : Option Tmp) (t : FT 5) (v : Value) (k : FT 5 → M Value) : (dstC n d).run t v k = M.bind (Fr.dst ⟨n, t⟩ d v) fun fr => k fr.t := by
  cases d with
  | none => rfl
  | some d =>
    show DstC.run (bif Nat.blt d n then ⟨fun t v k => k ((slotC d).put t v)⟩ else ⟨fun _ _ _ => M.fail⟩) t v k = M.bind (bif Nat.blt d n then M.pure (Fr.mk n (FT.put5 t d v)) else M.fail) fun fr : Fr => k fr.t
    cases Nat.blt d n
    · rfl
    · show k ((slotC d).put t v) = _
      rw [slot_put]; rfl

noncomputable def nxK (call : CallFn) (o : Oper) (fr : Fr) (nx : Nx) : M Fr :=
  match nx with
  | .value v => fr.dst o.dst v
  | .skip => fr.dst o.dst undef
  | .known _ _ v => fr.dst o.dst v
  | .enter f args => M.bind (call f args) fun v => fr.dst o.dst v
theorem evOp_eq (E : Env) (call : CallFn) (ops : Array Oper) (o : Oper) (fr : Fr) :
    evOp E call ops o fr = bif !sureA ops fr o then M.fail else bif wantedA ops fr o then M.bind (execA E fr.eval o) (nxK call o fr) else fr.dst o.dst undef := rfl

section
variable (E : Env) (n : Nat) (ops : Array Oper) (o : Oper) (call : CallFn) (t : FT 5) (k : FT 5 → M Value)

theorem purK_run (f : FT 5 → Value) : (purK (dstC n o.dst) f).run call t k = M.bind (M.bind (asV (M.lift (some (f t)))) (nxK call o ⟨n, t⟩)) fun fr => k fr.t := by
  show (dstC n o.dst).run t (f t) k = _
  rw [dst_run]; rfl
theorem valK_run (f : FT 5 → Option Value) : (valK (dstC n o.dst) f).run call t k = M.bind (M.bind (asV (M.lift (f t))) (nxK call o ⟨n, t⟩)) fun fr => k fr.t := by
  funext s
  show (Option.rec none (fun v => (dstC n o.dst).run t v k s) (f t) : Option (Value × St)) = _
  cases f t with
  | none => rfl
  | some v => show (dstC n o.dst).run t v k s = _; rw [dst_run]; rfl
theorem memK_run (f : FT 5 → M Value) : (memK (dstC n o.dst) f).run call t k = M.bind (M.bind (asV (f t)) (nxK call o ⟨n, t⟩)) fun fr => k fr.t := by
  unfold asV
  rw [bind_assoc, bind_assoc]
  funext s
  show (Option.rec none (fun p => Prod.rec (fun v s' => (dstC n o.dst).run t v k s') p) (f t s) : Option (Value × St)) = _
  rw [M.bind_eq]
  cases f t s with
  | none => rfl
  | some p => show (dstC n o.dst).run t p.1 k p.2 = _; rw [dst_run]; rfl

theorem callK_run (f : FuncId) (c : Call) (hc : c.callee = .value (.func f)) (ho : o.op = .call c) (hs : sureA ops ⟨n, t⟩ o = true) (hw : wantedA ops ⟨n, t⟩ o = true) :
    (callK E n ops o f c.args.toList).run call t k = M.bind (evOp E call ops o ⟨n, t⟩) fun fr => k fr.t := by
  unfold callK
  split
  · rfl
  · next he =>
    split
    · rfl
    · next hk =>
      split
      · next fn hf =>
        rw [evOp_eq, hs, hw]
        have hx : execA E (Fr.eval ⟨n, t⟩) o = callA E f ([] ++ (c.args.toList.map (Fr.eval ⟨n, t⟩) ++ [])) := by
          unfold execA; rw [ho]; show opCallA E _ c o.type = _; unfold opCallA; rw [hc]; rfl
        have hy : callA E f ([] ++ (c.args.toList.map (Fr.eval ⟨n, t⟩) ++ [])) = M.pure (.enter f (c.args.toList.map (Fr.eval ⟨n, t⟩))) := by
          unfold callA; rw [he]; simp only [hk, Option.bind_none, hf, List.append_nil, List.nil_append]; rfl
        rw [hx, hy]
        simp only [Bool.not_true, cond_false, cond_true]
        rw [bind_pure_l]
        simp only [nxK]
        rw [bind_assoc]
        funext s
        show (Option.rec none (fun p => Prod.rec (fun v s' => (dstC n o.dst).run t v k s') p) (call f ((argsC n c.args.toList).run t) s) : Option (Value × St)) = _
        rw [args_run, M.bind_eq]
        cases call f (c.args.toList.map (Fr.eval ⟨n, t⟩)) s with
        | none => rfl
        | some p => show (dstC n o.dst).run t p.1 k p.2 = _; rw [dst_run]
      · rfl

theorem stoK_run (f : FT 5 → M Unit) : (stoK (dstC n o.dst) f).run call t k = M.bind (M.bind (asU (f t)) (nxK call o ⟨n, t⟩)) fun fr => k fr.t := by
  unfold asU
  rw [bind_assoc, bind_assoc]
  funext s
  show (Option.rec none (fun p => Prod.rec (fun _ s' => (dstC n o.dst).run t undef k s') p) (f t s) : Option (Value × St)) = _
  rw [M.bind_eq]
  cases f t s with
  | none => rfl
  | some p => show (dstC n o.dst).run t undef k p.2 = _; rw [dst_run]; rfl

theorem takeV_eq : ∀ (n : Nat) (l : List Value), takeV n l = bif Nat.beq (l.take n).length n then some (l.take n) else none
  | 0, l => rfl
  | n + 1, [] => rfl
  | n + 1, v :: l => by
    show (Option.rec none (fun r => some (v :: r)) (takeV n l) : Option (List Value)) = bif Nat.beq ((l.take n).length + 1) (n + 1) then some (v :: l.take n) else none
    rw [takeV_eq n l]
    show _ = bif Nat.beq (l.take n).length n then some (v :: l.take n) else none
    cases Nat.beq (l.take n).length n <;> rfl
theorem dropV_eq : ∀ (n : Nat) (l : List Value), dropV n l = l.drop n
  | 0, l => rfl
  | n + 1, [] => rfl
  | n + 1, v :: l => by show dropV n l = l.drop n; exact dropV_eq n l
theorem nthV_eq : ∀ (n : Nat) (l : List Value), nthV n l = l[n]?
  | 0, [] => rfl
  | 0, v :: l => rfl
  | n + 1, [] => rfl
  | n + 1, v :: l => by show nthV n l = (v :: l)[n + 1]?; rw [nthV_eq n l]; rfl
theorem partC_run (E : Env) (t : TypeId) (cs : List Value) (off : Nat) : (partC E t).run cs off = partA E t cs off := by
  unfold partC partA
  cases aggT E t with
  | none => rfl
  | some g =>
    cases E.info t with
    | none => cases g <;> rfl
    | some i =>
      cases g with
      | false => exact nthV_eq off cs
      | true =>
        simp only [force_eq]
        show (Option.rec none (fun l => some (.agg ⟨l⟩)) (takeV i.size (dropV off cs)) : Option Value) = (piece cs off i.size).map fun l => .agg ⟨l⟩
        rw [takeV_eq, dropV_eq]
        show _ = Option.map _ (bif Nat.beq ((cs.drop off).take i.size).length i.size then some ((cs.drop off).take i.size) else none)
        cases Nat.beq ((cs.drop off).take i.size).length i.size <;> rfl
theorem loadC_run (E : Env) (ty : TypeId) (a : Value) : (loadC E ty).run a = loadA E ty a := by
  funext s
  show onPtr a (fun r off => (St.rec (fun rows next log wlog => Bool.rec none (Option.rec none (fun x => onCells x (fun cs => Option.rec none (fun v => some (v, ⟨rows, next, r :: log, wlog⟩)) ((partC E ty).run cs off)) none) (rows.get r)) (Nat.blt r next)) s : Option (Value × St))) (loadA E ty a s) = _
  unfold onPtr
  split
  · next r off =>
    show _ = M.bind (M.row r) (fun x => M.bind (M.lift (cellsR x)) fun cs => M.lift (partA E ty cs off)) s
    rw [M.bind_eq, M.row_eq]
    cases s with | mk rows next log wlog =>
    simp only
    cases Nat.blt r next with
    | false => rfl
    | true =>
      cases rows.get r with
      | none => rfl
      | some x =>
        cases x with
        | cells ro es cs =>
          show (Option.rec none (fun v => some (v, ⟨rows, next, r :: log, wlog⟩)) ((partC E ty).run cs off) : Option (Value × St)) = M.lift (partA E ty cs off) _
          rw [partC_run]
          cases partA E ty cs off <;> rfl
        | map es c => rfl
        | iter s p => rfl
  · rfl
theorem fieldAddrC_run (E : Env) (st : TypeId) (f : Nat) (a : Value) : (fieldAddrC E st f).run a = fieldAddrA E st a f := by
  unfold fieldAddrC
  split
  · next o h =>
    rw [force_eq]
    show onPtr a (fun r off => some (.pointer (some ⟨r, off + o, none⟩))) (fieldAddrA E st a f) = _
    unfold onPtr
    split
    · next r off =>
      unfold fieldAddrA
      cases h1 : (E.und st).bind structT with
      | none => rw [h1] at h; cases h
      | some fs =>
        rw [h1] at h
        cases h2 : fs[f]? with
        | none => simp only [Option.bind_some, h2] at h; cases h
        | some fd =>
          simp only [Option.bind_some, h2] at h
          cases h3 : E.info fd.type with
          | none => rw [h3] at h; cases h
          | some i =>
            rw [h3] at h
            simp only [Option.bind_some] at h
            simp only [Option.bind_some, h2, h3]
            cases h4 : guardO (Nat.blt 0 i.size) with
            | none => rw [h4] at h; cases h
            | some u => rw [h4] at h; injection h with h; subst h; rfl
    · rfl
  · rfl
theorem fieldC_run (E : Env) (st : TypeId) (f : Nat) (x : Value) : (fieldC E st f).run x = fieldA E st x f := by
  unfold fieldC fieldA
  cases h1 : (E.und st).bind structT with
  | none => rfl
  | some fs =>
    cases h2 : fs[f]? with
    | none => simp only [Option.bind_some, h2]; rfl
    | some fd =>
      simp only [Option.bind_some, h2, force_eq]
      show onAgg x (fun cs => (partC E fd.type).run cs fd.offset) none = _
      cases x with
      | agg cs => exact partC_run _ _ _ _
      | _ => rfl
theorem indexAddrC_run (E : Env) (ty : TypeId) (x i : Value) : (indexAddrC E ty).run x i = indexAddrA E ty x i := by
  unfold indexAddrC
  split
  · next z h =>
    rw [force_eq]
    show onSlice x (fun r off n => onNat i (fun k => (Bool.rec none (some (.pointer (some ⟨r, off + k * z, none⟩))) (Nat.blt k n) : Option Value)) (indexAddrA E ty x i)) (indexAddrA E ty x i) = _
    unfold onSlice
    split
    · next a n c =>
      unfold onNat
      split
      · next kd k =>
        unfold indexAddrA
        cases h1 : E.und ty with
        | none => rw [h1] at h; cases h
        | some d =>
          rw [h1] at h
          cases d with
          | slice e =>
            change ((E.info e).map fun i => i.size) = some z at h
            cases h2 : E.info e with
            | none => rw [h2] at h; cases h
            | some inf =>
              rw [h2] at h
              injection h with h; subst h
              show _ = (E.info e).bind _
              rw [h2]
              show (Bool.rec (motive := fun _ => Option Value) none (some (.pointer (some ⟨a.block, a.off + k * inf.size, none⟩))) (Nat.blt k n)) = (guardO (Nat.blt k n)).bind fun _ => some (.pointer (some ⟨a.block, a.off + k * inf.size, none⟩))
              cases Nat.blt k n <;> rfl
          | _ => cases h
      · rfl
    · rfl
  · rfl
theorem onInts_bin (E : Env) (op : BinOp) (ty : TypeId) (xo yo : Operand) (x y : Value) (f : IntKind → Int → Int → Value) (hf : ∀ k a b, intBinA op k a b = some (f k a b)) :
    onInts x y (fun k a k' b => (Bool.rec (binOpA E op ty xo yo x y) (some (f k a b)) (Nat.beq (codeK k) (codeK k')) : Option Value)) (binOpA E op ty xo yo x y) = binOpA E op ty xo yo x y := by
  unfold onInts
  split
  · next k a =>
    split
    · next k' b =>
      show (Bool.rec (motive := fun _ => Option Value) (binOpA E op ty xo yo (.int k a) (.int k' b)) (some (f k a b)) (Nat.beq (codeK k) (codeK k'))) = _
      cases h : Nat.beq (codeK k) (codeK k') with
      | false => rfl
      | true =>
        show some (f k a b) = bif Nat.beq (codeK k) (codeK k') then orA (intBinA op k a b) (binSlowA E op ty xo yo (.int k a) (.int k' b)) else binSlowA E op ty xo yo (.int k a) (.int k' b)
        rw [h, hf]; rfl
    · rfl
  · rfl
theorem not_rec (b : Bool) : (Bool.rec true false b : Bool) = !b := by cases b <;> rfl
theorem binC_run (E : Env) (op : BinOp) (ty : TypeId) (xo yo : Operand) (x y : Value) : (binC E op ty xo yo).run x y = binOpA E op ty xo yo x y := by
  unfold binC
  split
  · next f h => exact onInts_bin E op ty xo yo x y (fun _ => f) (fun k a b => by cases op <;> first | (injection h with h; subst h; simp only [not_rec]; rfl) | cases h)
  · split
    · next f h => exact onInts_bin E op ty xo yo x y f (fun k a b => by cases op <;> first | (injection h with h; subst h; rfl) | cases h)
    · rfl
theorem unC_run (E : Env) (op : UnOp) (x : Value) : (unC E op).run x = unOpA E op x := by
  unfold unC
  cases h : isNot op with
  | false => rfl
  | true =>
    show onBool x (fun b => some (.bool (Bool.rec true false b))) (unOpA E op x) = _
    unfold onBool
    split
    · next b =>
      cases op with
      | not => cases b <;> rfl
      | _ => cases h
    · rfl
theorem lenC_run (E : Env) (ty : TypeId) (x : Value) : (lenC E ty).run x = lenA E ty x := by
  unfold lenC
  split
  · next e h =>
    funext s
    show onSlice x (fun _ _ n => some (.int .i64 (.ofNat n), s)) (lenA E ty x s) = _
    unfold onSlice
    split
    · unfold lenA
      cases h1 : E.und ty with
      | none => rw [h1] at h; cases h
      | some d =>
        cases d with
        | slice e => rfl
        | _ => rw [h1] at h; cases h
    · rfl
  · rfl

theorem oneF_eq : ∀ l : List Value, oneF l = oneCells l
  | [] => rfl
  | v :: l => by
    show (Bool.rec (motive := fun _ => Bool) false (oneF l) (one1 v)) = bif one1 v then oneCells l else false
    rw [oneF_eq l]; cases one1 v <;> rfl
theorem putL_eq : ∀ (l cs : List Value), putL l cs = splice cs 0 l
  | [], cs => by cases cs <;> rfl
  | v :: l, [] => rfl
  | v :: l, c :: cs => by
    show (Option.rec none (fun r => some (v :: r)) (putL l cs) : Option (List Value)) = (splice cs 0 l).map (v :: ·)
    rw [putL_eq l cs]; cases splice cs 0 l <;> rfl
theorem spliceN_eq (v : Value) (l : List Value) : ∀ (off : Nat) (cs : List Value), spliceN off cs (v :: l) = splice cs off (v :: l)
  | 0, cs => putL_eq (v :: l) cs
  | off + 1, [] => rfl
  | off + 1, c :: cs => by
    show (Option.rec none (fun r => some (c :: r)) (spliceN off cs (v :: l)) : Option (List Value)) = (splice cs off (v :: l)).map (c :: ·)
    rw [spliceN_eq v l off cs]; cases splice cs off (v :: l) <;> rfl
theorem spliceF_eq (off : Nat) (cs l : List Value) : spliceF off cs l = splice cs off l := by
  cases l with
  | nil => cases cs <;> rfl
  | cons v l => exact spliceN_eq v l off cs
theorem cellsL_eq (v : Value) : cellsL v = v.cells.toList := by cases v <;> rfl
theorem eqLen_eq : ∀ (z : Nat) (l : List Value), eqLen z l = Nat.beq l.length z
  | 0, [] => rfl
  | 0, _ :: _ => rfl
  | z + 1, [] => rfl
  | z + 1, v :: l => by show eqLen z l = Nat.beq (l.length + 1) (z + 1); rw [eqLen_eq z l]; rfl
theorem putRow_eq (r off : Nat) (l : List Value) (s : St) : putRow r off l s = writeA r off l s := by
  unfold writeA
  rw [M.bind_eq, M.row_eq]
  cases s with | mk rows next log wlog =>
  show (Bool.rec (motive := fun _ => Option (Unit × St)) none (Option.rec (motive := fun _ => Option (Unit × St)) none (fun x => onOwn x (fun es cs => Bool.rec (motive := fun _ => Option (Unit × St)) none (Option.rec (motive := fun _ => Option (Unit × St)) none (fun cs' => Bool.rec (motive := fun _ => Option (Unit × St)) none (some ((), ⟨D.put (some (.cells false es cs')) deep rows r, next, r :: r :: log, r :: wlog⟩)) (Nat.ble r 1000000000)) (spliceF off cs l)) (oneF l)) none) (D.get rows r)) (Nat.blt r next)) = _
  simp only
  cases hb : Nat.blt r next with
  | false => rfl
  | true =>
    cases hr : D.get rows r with
    | none => rfl
    | some x =>
      cases x with
      | cells ro es cs =>
        cases ro with
        | true => rfl
        | false =>
          show (Bool.rec (motive := fun _ => Option (Unit × St)) none (Option.rec (motive := fun _ => Option (Unit × St)) none (fun cs' => Bool.rec (motive := fun _ => Option (Unit × St)) none (some ((), ⟨D.put (some (.cells false es cs')) deep rows r, next, r :: r :: log, r :: wlog⟩)) (Nat.ble r 1000000000)) (spliceF off cs l)) (oneF l)) =
            M.bind (M.guard (oneCells l)) (fun _ => M.bind (M.lift (splice cs off l)) fun cs' => M.turn r (some (.cells false es cs'))) ⟨rows, next, r :: log, wlog⟩
          rw [oneF_eq, spliceF_eq]
          cases oneCells l with
          | false => rfl
          | true =>
            show _ = M.bind (M.lift (splice cs off l)) (fun cs' => M.turn r (some (.cells false es cs'))) ⟨rows, next, r :: log, wlog⟩
            cases splice cs off l with
            | none => rfl
            | some cs' =>
              show _ = M.turn r (some (.cells false es cs')) ⟨rows, next, r :: log, wlog⟩
              rw [M.turn_eq]
              simp only [hb, hr, cond_true]
              cases Nat.ble r 1000000000 <;> rfl
      | map es c => rfl
      | iter s p => rfl
theorem storeC_run (E : Env) (ty : TypeId) (a v : Value) : (storeC E ty).run a v = storeA E ty a v := by
  unfold storeC
  cases hi : E.info ty with
  | none => rfl
  | some i =>
    simp only [force_eq]
    funext s
    show onPtr a (fun r off => (Bool.rec (motive := fun _ => Option (Unit × St)) (Bool.rec (motive := fun _ => Option (Unit × St)) none (putRow r off (cellsL v) s) (eqLen i.size (cellsL v))) none (isJunk v))) (storeA E ty a v s) = _
    unfold onPtr
    split
    · next r off =>
      have hR : storeA E ty (.pointer (some ⟨r, off, none⟩)) v s = M.bind (M.guard (bif isJunk v then false else Nat.beq v.cells.size i.size)) (fun _ => writeA r off v.cells.toList) s := by
        unfold storeA
        show M.bind (M.lift (E.info ty)) (fun i => M.bind (M.guard (bif isJunk v then false else Nat.beq v.cells.size i.size)) fun _ => writeA r off v.cells.toList) s = _
        rw [hi]; rfl
      rw [hR]
      show (Bool.rec (motive := fun _ => Option (Unit × St)) (Bool.rec (motive := fun _ => Option (Unit × St)) none (putRow r off (cellsL v) s) (eqLen i.size (cellsL v))) none (isJunk v)) = _
      rw [putRow_eq, cellsL_eq, eqLen_eq]
      cases isJunk v with
      | true => rfl
      | false =>
        show (Bool.rec (motive := fun _ => Option (Unit × St)) none (writeA r off v.cells.toList s) (Nat.beq v.cells.size i.size)) = M.bind (M.guard (Nat.beq v.cells.size i.size)) (fun _ => writeA r off v.cells.toList) s
        cases Nat.beq v.cells.size i.size <;> rfl
    · rfl

theorem pts_run (n : Nat) (t : FT 5) : ∀ l : List (Nat × Operand), (ptsC n l).run t = l.map fun p => (p.1, Fr.eval ⟨n, t⟩ p.2)
  | [] => rfl
  | p :: l => by
    show (p.1, (operC n p.2).run t) :: (ptsC n l).run t = _
    rw [oper_run, pts_run n t l]; rfl
theorem opt_run (n : Nat) (t : FT 5) (x : Option Operand) : (optC n x).run t = x.map (Fr.eval ⟨n, t⟩) := by
  cases x with
  | none => rfl
  | some x => show some ((operC n x).run t) = _; rw [oper_run]; rfl

theorem appL_eq : ∀ a b : List Value, appL a b = a ++ b
  | [], b => rfl
  | v :: a, b => by show v :: appL a b = v :: (a ++ b); rw [appL_eq a b]
theorem takeV_piece (cs : List Value) (off n : Nat) : takeV n (dropV off cs) = piece cs off n := by rw [takeV_eq, dropV_eq]; rfl
theorem readC_eq (size : Nat) (a : Option Addr) (n : Nat) : readC size a n = readA size a n := by
  cases n with
  | zero => rfl
  | succ m =>
    cases a with
    | none => rfl
    | some ad =>
      obtain ⟨r, off, sp⟩ := ad
      funext s
      unfold readA
      show _ = M.bind (M.row r) (fun x => M.bind (M.lift (cellsR x)) fun cs => M.lift (piece cs off ((m + 1) * size))) s
      rw [M.bind_eq, M.row_eq]
      cases s with | mk rows next log wlog =>
      show (Bool.rec (motive := fun _ => Option (List Value × St)) none (Option.rec (motive := fun _ => Option (List Value × St)) none (fun x => onCells x (fun cs => Option.rec none (fun l => some (l, ⟨rows, next, r :: log, wlog⟩)) (takeV ((m + 1) * size) (dropV off cs))) none) (D.get rows r)) (Nat.blt r next)) = _
      simp only
      cases Nat.blt r next with
      | false => rfl
      | true =>
        cases hr : D.get rows r with
        | none => rfl
        | some x =>
          cases x with
          | cells ro es cs =>
            show (Option.rec none (fun l => some (l, ⟨rows, next, r :: log, wlog⟩)) (takeV ((m + 1) * size) (dropV off cs)) : Option (List Value × St)) = M.lift (piece cs off ((m + 1) * size)) _
            rw [takeV_piece]
            cases piece cs off ((m + 1) * size) <;> rfl
          | map es c => rfl
          | iter s p => rfl
theorem newC_eq (E : Env) (i : Elem) (z : Bool) (x : Value) : newC E i z x = newCells E i z x := by
  cases z with
  | true => rfl
  | false =>
    cases x with
    | slice a n c => show M.bind (readC i.size a n) (fun l => M.pure (n, l)) = newCells E i false (.slice a n c); rw [readC_eq]; rfl
    | _ => rfl
theorem appendInC_eq (i : Elem) (base : Option Addr) (sLen sCap need : Nat) (l : List Value) : appendInC i base sLen sCap need l = appendIn i base sLen sCap need l := by
  cases l with
  | nil => rfl
  | cons v l =>
    unfold appendInC appendIn
    refine bind_congr fun _ a _ _ => ?_
    have : putRow a.block (a.off + sLen * i.size) (v :: l) = writeA a.block (a.off + sLen * i.size) (v :: l) := funext fun s => putRow_eq _ _ _ s
    rw [this]
theorem appendNewC_eq (i : Elem) (base : Option Addr) (sLen need : Nat) (l : List Value) : appendNewC i base sLen need l = appendNew i base sLen need l := by
  unfold appendNewC appendNew
  simp only [readC_eq, appL_eq]
theorem appendC_eq (E : Env) (sT xT : TypeId) (s x : Value) : appendC E sT xT s x = appendA E sT xT s x := by
  unfold appendC appendA
  simp only [newC_eq, oneF_eq, appendInC_eq, appendNewC_eq]
  refine bind_congr fun _ e _ _ => bind_congr fun _ i _ _ => bind_congr fun _ d _ _ => bind_congr fun _ b _ _ => bind_congr fun _ nl _ _ => bind_congr fun _ _ _ _ => ?_
  cases Nat.ble (b.2.1 + nl.1) b.2.2 <;> rfl

theorem builtK_run (b : Builtin) (c : Call) (hc : c.callee = .builtin b) (ho : o.op = .call c) (hs : sureA ops ⟨n, t⟩ o = true) (hw : wantedA ops ⟨n, t⟩ o = true) :
    (builtK E n ops o b c).run call t k = M.bind (evOp E call ops o ⟨n, t⟩) fun fr => k fr.t := by
  have he : evOp E call ops o ⟨n, t⟩ = M.bind (asV (builtinA E b c.argTypes o.type (c.args.toList.map (Fr.eval ⟨n, t⟩)))) (nxK call o ⟨n, t⟩) := by
    rw [evOp_eq, hs, hw]
    have : execA E (Fr.eval ⟨n, t⟩) o = asV (builtinA E b c.argTypes o.type (c.args.toList.map (Fr.eval ⟨n, t⟩))) := by
      unfold execA; rw [ho]; show opCallA E _ c o.type = _; unfold opCallA; rw [hc]
    rw [this]; rfl
  unfold builtK
  split
  · split
    · next ty r h1 =>
      split
      · next x q h2 =>
        rw [v1_eq, he]
        show (memK (dstC n o.dst) fun t => (lenC E ty).run _).run call t k = _
        rw [memK_run, lenC_run]
        unfold builtinA one; simp only [h1, h2, List.map_cons]
      · rfl
    · rfl
  · split
    · next ty uy r h1 =>
      split
      · next x y q h2 =>
        simp only [v1_eq]
        rw [he, memK_run, appendC_eq]
        unfold builtinA two; simp only [h1, h2, List.map_cons]
      · rfl
    · rfl
  all_goals first
    | rfl
    | (rw [he]; show (memK (dstC n o.dst) fun t => builtinA E _ c.argTypes o.type ((argsC n c.args.toList).run t)).run call t k = _; rw [memK_run, args_run])

theorem opW_run (hs : sureA ops ⟨n, t⟩ o = true) (hw : wantedA ops ⟨n, t⟩ o = true) : (opW E n ops o).run call t k = M.bind (evOp E call ops o ⟨n, t⟩) fun fr => k fr.t := by
  have he : evOp E call ops o ⟨n, t⟩ = M.bind (execA E (Fr.eval ⟨n, t⟩) o) (nxK call o ⟨n, t⟩) := by rw [evOp_eq, hs, hw]; rfl
  have vx : ∀ v, execA E (Fr.eval ⟨n, t⟩) o = asV (M.lift v) → M.bind (M.bind (asV (M.lift v)) (nxK call o ⟨n, t⟩)) (fun fr => k fr.t) = M.bind (evOp E call ops o ⟨n, t⟩) fun fr => k fr.t := fun v h => by rw [he, h]
  have mx : ∀ m, execA E (Fr.eval ⟨n, t⟩) o = asV m → M.bind (M.bind (asV m) (nxK call o ⟨n, t⟩)) (fun fr => k fr.t) = M.bind (evOp E call ops o ⟨n, t⟩) fun fr => k fr.t := fun v h => by rw [he, h]
  have ux : ∀ m, execA E (Fr.eval ⟨n, t⟩) o = asU m → M.bind (M.bind (asU m) (nxK call o ⟨n, t⟩)) (fun fr => k fr.t) = M.bind (evOp E call ops o ⟨n, t⟩) fun fr => k fr.t := fun v h => by rw [he, h]
  unfold opW
  split
  · next x h => rw [v1_eq, purK_run]; exact vx _ (by unfold execA; rw [h]; rfl)
  · next x h => rw [v1_eq, purK_run]; exact vx _ (by unfold execA; rw [h]; rfl)
  · next c a b h => rw [v1_eq, v1_eq, v1_eq, valK_run]; exact vx _ (by unfold execA; rw [h]; rfl)
  · next x h => rw [v1_eq, valK_run]; exact vx _ (by unfold execA; rw [h]; rfl)
  · next op ty x y _ h =>
    rw [v1_eq, v1_eq]; show (valK (dstC n o.dst) fun t => (binC E op ty x y).run _ _).run call t k = _
    rw [valK_run, binC_run]; exact vx _ (by unfold execA; rw [h]; rfl)
  · next op _ x h =>
    rw [v1_eq]; show (valK (dstC n o.dst) fun t => (unC E op).run _).run call t k = _
    rw [valK_run, unC_run]; exact vx _ (by unfold execA; rw [h]; rfl)
  · next ty x h => rw [v1_eq, valK_run]; exact vx _ (by unfold execA; rw [h]; rfl)
  · next st x f h =>
    rw [v1_eq]; show (valK (dstC n o.dst) fun t => (fieldAddrC E st f).run _).run call t k = _
    rw [valK_run, fieldAddrC_run]; exact vx _ (by unfold execA; rw [h]; rfl)
  · next st x f h =>
    rw [v1_eq]; show (valK (dstC n o.dst) fun t => (fieldC E st f).run _).run call t k = _
    rw [valK_run, fieldC_run]; exact vx _ (by unfold execA; rw [h]; rfl)
  · next ty x i h =>
    rw [v1_eq, v1_eq]; show (valK (dstC n o.dst) fun t => (indexAddrC E ty).run _ _).run call t k = _
    rw [valK_run, indexAddrC_run]; exact vx _ (by unfold execA; rw [h]; rfl)
  · next ty x i h => rw [v1_eq, v1_eq, valK_run]; exact vx _ (by unfold execA; rw [h]; rfl)
  · next x i h => rw [v1_eq, valK_run]; exact vx _ (by unfold execA; rw [h]; rfl)
  · next ty a h =>
    rw [v1_eq]; show (memK (dstC n o.dst) fun t => (loadC E ty).run _).run call t k = _
    rw [memK_run, loadC_run]; exact mx _ (by unfold execA; rw [h])
  · next ty h => rw [memK_run]; exact mx _ (by unfold execA; rw [h])
  · next ty ps h =>
    show (valK (dstC n o.dst) fun t => buildA E ty ((ptsC n ps.toList).run t)).run call t k = _
    rw [valK_run, pts_run]; exact vx _ (by unfold execA; rw [h]; rfl)
  · next ty len ps h =>
    show (memK (dstC n o.dst) fun t => buildSliceA E ty len ((ptsC n ps.toList).run t)).run call t k = _
    rw [memK_run, pts_run]; exact mx _ (by unfold execA; rw [h]; rfl)
  · next ty x lo hi mx' h =>
    rw [v1_eq]; show (valK (dstC n o.dst) fun t => sliceA E ty _ ((optC n lo).run t) ((optC n hi).run t) ((optC n mx').run t)).run call t k = _
    rw [valK_run, opt_run, opt_run, opt_run]; exact vx _ (by unfold execA; rw [h]; rfl)
  · next ty x h => rw [v1_eq, memK_run]; exact mx _ (by unfold execA; rw [h])
  · next it b h => rw [v1_eq, memK_run]; exact mx _ (by unfold execA; rw [h])
  · next ty x i c h => rw [v1_eq, v1_eq, memK_run]; exact mx _ (by unfold execA; rw [h])
  · next ty m k' v h => rw [v1_eq, v1_eq, v1_eq, stoK_run]; exact ux _ (by unfold execA; rw [h])
  · next sd d x h => rw [v1_eq, memK_run]; exact mx _ (by unfold execA; rw [h])
  · next ty l c h => rw [v1_eq, v1_eq, memK_run]; exact mx _ (by unfold execA; rw [h])
  · next ty a x h =>
    rw [v1_eq, v1_eq]; show (stoK (dstC n o.dst) fun t => (storeC E ty).run _ _).run call t k = _
    rw [stoK_run, storeC_run]; exact ux _ (by unfold execA; rw [h])
  · next c h =>
    split
    · next f hc => exact callK_run E n ops o call t k f c hc h hs hw
    · next b hc => exact builtK_run E n ops o call t k b c hc h hs hw
    · rfl
  · rfl

theorem opC_run : (opC E n ops o).run call t k = M.bind (evOp E call ops o ⟨n, t⟩) fun fr => k fr.t := by
  unfold opC
  split
  · next hg => exact opW_run E n ops o call t k (by unfold sureA; rw [hg]) (by unfold wantedA; rw [hg])
  · next j want hg =>
    split
    · next g hj =>
      split
      · next d hd =>
        rw [v1_eq]
        have h1 : sureA ops ⟨n, t⟩ o = !darkV (Fr.eval ⟨n, t⟩ (.tmp d)) := by unfold sureA; rw [hg]; simp only [hj, hd]; rfl
        have h2 : wantedA ops ⟨n, t⟩ o = wants want (Fr.eval ⟨n, t⟩ (.tmp d)) := by unfold wantedA; rw [hg]; simp only [hj, hd]; rfl
        funext s
        show (bif darkV (Fr.eval ⟨n, t⟩ (.tmp d)) then none else bif wants want (Fr.eval ⟨n, t⟩ (.tmp d)) then (opW E n ops o).run call t k s else (dstC n o.dst).run t undef k s) = _
        cases hj : darkV (Fr.eval ⟨n, t⟩ (.tmp d)) with
        | true => rw [evOp_eq, h1, hj]; rfl
        | false =>
          cases hw : wants want (Fr.eval ⟨n, t⟩ (.tmp d)) with
          | true => rw [cond_false, cond_true, opW_run E n ops o call t k (by rw [h1, hj]; rfl) (by rw [h2, hw])]
          | false => rw [cond_false, cond_false, dst_run, evOp_eq, h1, h2, hj, hw]; rfl
      · rfl
    · rfl
end

theorem evOp_n {E : Env} {call : CallFn} {ops : Array Oper} {o : Oper} {fr fr' : Fr} {s s' : St} (h : evOp E call ops o fr s = some (fr', s')) : fr'.n = fr.n := by
  obtain ⟨v, ⟨_, rfl⟩ | ⟨t, _, _, rfl⟩⟩ := evOp_dst h
  · rfl
  · cases fr; rfl
theorem evOps_n {E : Env} {call : CallFn} {ops : Array Oper} : ∀ {l : List Oper} {fr fr' : Fr} {s s' : St}, evOps E call ops l fr s = some (fr', s') → fr'.n = fr.n
  | [], fr, fr', s, s', h => by unfold evOps at h; rw [pure_some] at h; rw [h.1]
  | o :: l, fr, fr', s, s', h => by
    unfold evOps at h; rw [bind_some] at h
    obtain ⟨f1, s1, h1, h2⟩ := h
    rw [evOps_n h2, evOp_n h1]
theorem evDraw_n {E : Env} {call : CallFn} {ops : Array Oper} {before : Array Nat} : ∀ {l : List Oper} {i : Nat} {ds : List (Nat × Did)} {fr fr' : Fr} {s s' : St}, evDraw E call ops before l i ds fr s = some (fr', s') → fr'.n = fr.n
  | [], _, _, fr, fr', s, s', h => by unfold evDraw at h; rw [pure_some] at h; rw [h.1]
  | o :: l, i, ds, fr, fr', s, s', h => by
    unfold evDraw at h; rw [bind_some] at h
    obtain ⟨⟨f1, d⟩, s1, h1, h2⟩ := h
    have h1' : ∃ s2 s3, evOp E call ops o fr s2 = some (f1, s3) := by
      rw [M.watch_eq] at h1
      cases hm : evOp E call ops o fr { s with log := [], wlog := [] } with
      | none => rw [hm] at h1; cases h1
      | some p => rw [hm] at h1; injection h1 with h1; injection h1 with h1 _; injection h1 with h1 _; exact ⟨_, p.2, by rw [hm, ← h1]⟩
    obtain ⟨s2, s3, h1'⟩ := h1'
    cases hst : settled before i d ds with
    | false => simp only [hst, cond_false, fail_some] at h2
    | true => simp only [hst, cond_true] at h2; rw [evDraw_n h2, evOp_n h1']

theorem opsC_run (E : Env) (n : Nat) (ops : Array Oper) (call : CallFn) : ∀ (l : List Oper) (t : FT 5) (k : FT 5 → M Value), (opsC E n ops l).run call t k = M.bind (evOps E call ops l ⟨n, t⟩) fun fr => k fr.t
  | [], t, k => rfl
  | o :: l, t, k => by
    show (opC E n ops o).run call t (fun t => (opsC E n ops l).run call t k) = _
    rw [opC_run]
    show _ = M.bind (M.bind (evOp E call ops o ⟨n, t⟩) fun fr => evOps E call ops l fr) _
    rw [bind_assoc]
    refine bind_congr fun s fr s' h => ?_
    have hn := evOp_n h
    show (opsC E n ops l).run call fr.t k = _
    rw [opsC_run E n ops call l]
    cases fr; simp only at hn; subst hn; rfl
end Go.Cm
namespace Go.Cm
open Go
set_option linter.unusedSimpArgs false

theorem noMem {P : Nat → Prop} : ∀ r, r ∈ ([] : List Nat) → P r := fun _ h => by cases h
theorem ffT {P : Prop} : false = true → P := fun h => by cases h

/-- What a piece does hangs on no log; what it logs was there before (nn: it makes nothing; ro: it writes nothing). -/
def Tr {α : Type} (m : M α) (nn ro : Bool) : Prop := ∀ rows next log wlog, (m ⟨rows, next, [], []⟩ = none ∧ m ⟨rows, next, log, wlog⟩ = none) ∨
  ∃ a rows' next' L W, m ⟨rows, next, [], []⟩ = some (a, ⟨rows', next', L, W⟩) ∧ m ⟨rows, next, log, wlog⟩ = some (a, ⟨rows', next', L ++ log, W ++ wlog⟩) ∧
    (∀ r, r ∈ L → r < next) ∧ (∀ r, r ∈ W → r < next) ∧ True ∧ (nn = true → next' = next) ∧ (ro = true → W = [])

theorem Tr.weak {α : Type} {m : M α} {nn ro : Bool} (h : Tr m true true) : Tr m nn ro := fun rows next log wlog => by
  rcases h rows next log wlog with h | ⟨a, r', n', L, W, h1, h2, h3, h4, h5, h6, h7⟩
  · exact .inl h
  · exact .inr ⟨a, r', n', L, W, h1, h2, h3, h4, h5, fun _ => h6 rfl, fun _ => h7 rfl⟩
theorem Tr.noRo {α : Type} {m : M α} {nn ro : Bool} (h : Tr m nn ro) : Tr m nn false := fun rows next log wlog => by
  rcases h rows next log wlog with h | ⟨a, r', n', L, W, h1, h2, h3, h4, h5, h6, h7⟩
  · exact .inl h
  · exact .inr ⟨a, r', n', L, W, h1, h2, h3, h4, h5, h6, ffT⟩
theorem Tr.noNn {α : Type} {m : M α} {nn ro : Bool} (h : Tr m nn ro) : Tr m false ro := fun rows next log wlog => by
  rcases h rows next log wlog with h | ⟨a, r', n', L, W, h1, h2, h3, h4, h5, h6, h7⟩
  · exact .inl h
  · exact .inr ⟨a, r', n', L, W, h1, h2, h3, h4, h5, ffT, h7⟩
theorem Tr.pure {α : Type} (a : α) {nn ro : Bool} : Tr (M.pure a) nn ro := fun rows next _ _ => .inr ⟨a, rows, next, [], [], rfl, rfl, noMem, noMem, trivial, fun _ => rfl, fun _ => rfl⟩
theorem Tr.fail {α : Type} {nn ro : Bool} : Tr (M.fail : M α) nn ro := fun _ _ _ _ => .inl ⟨rfl, rfl⟩
theorem Tr.lift {α : Type} (o : Option α) {nn ro : Bool} : Tr (M.lift o) nn ro := by
  cases o with
  | none => exact Tr.fail
  | some a => exact Tr.pure a
theorem Tr.guard (b : Bool) {nn ro : Bool} : Tr (M.guard b) nn ro := by
  cases b with
  | false => exact Tr.fail
  | true => exact Tr.pure ()
theorem Tr.bind {α β : Type} {m : M α} {f : α → M β} {nn ro : Bool} (hm : Tr m true ro) (hf : ∀ a, Tr (f a) nn ro) : Tr (M.bind m f) nn ro := fun rows next log wlog => by
  rw [M.bind_eq, M.bind_eq]
  rcases hm rows next log wlog with ⟨h1, h2⟩ | ⟨a, r', n', L, W, h1, h2, h3, h4, h5, h6, h7⟩
  · rw [h1, h2]; exact .inl ⟨rfl, rfl⟩
  · rw [h1, h2]
    have e := h6 rfl
    subst e
    simp only
    rcases hf a r' n' L W with ⟨g1, g2⟩ | ⟨b, r2, n2, L2, W2, g1, g2, g3, g4, g5, g6, g7⟩
    · refine .inl ⟨g2, ?_⟩
      rcases hf a r' n' (L ++ log) (W ++ wlog) with ⟨k1, k2⟩ | ⟨b', r3, n3, L3, W3, k1, k2, _⟩
      · exact k2
      · rw [g1] at k1; cases k1
    · refine .inr ⟨b, r2, n2, L2 ++ L, W2 ++ W, g2, ?_, ?_, ?_, g5, g6, ?_⟩
      · rcases hf a r' n' (L ++ log) (W ++ wlog) with ⟨k1, k2⟩ | ⟨b', r3, n3, L3, W3, k1, k2, _⟩
        · rw [g1] at k1; cases k1
        · rw [g1] at k1
          injection k1 with k1; injection k1 with e1 e2; injection e2 with e2 e3 e4 e5
          subst e1 e2 e3 e4 e5
          rw [k2, List.append_assoc, List.append_assoc]
      · intro r hr; rw [List.mem_append] at hr; rcases hr with hr | hr
        · exact g3 r hr
        · exact h3 r hr
      · intro r hr; rw [List.mem_append] at hr; rcases hr with hr | hr
        · exact g4 r hr
        · exact h4 r hr
      · intro hr; rw [g7 hr, h7 hr]; rfl
theorem Tr.row (r : Nat) {nn ro : Bool} : Tr (M.row r) nn ro := fun rows next log wlog => by
  rw [M.row_eq, M.row_eq]
  cases hb : Nat.blt r next with
  | false => exact .inl ⟨by simp only [hb, cond_false], by simp only [hb, cond_false]⟩
  | true =>
    cases hr : rows.get r with
    | none => simp only [hb, cond_true, hr]; exact .inl ⟨trivial, trivial⟩
    | some x =>
      simp only [hb, cond_true, hr]
      exact .inr ⟨x, rows, next, [r], [], rfl, rfl, fun q hq => by simp at hq; subst hq; exact blt_lt0 hb, noMem, trivial, fun _ => rfl, fun _ => rfl⟩
theorem Tr.turn (r : Nat) (x : Option Row) {nn : Bool} : Tr (M.turn r x) nn false := fun rows next log wlog => by
  rw [M.turn_eq, M.turn_eq]
  cases hb : Nat.blt r next with
  | false => exact .inl ⟨by simp only [hb, cond_false], by simp only [hb, cond_false]⟩
  | true =>
    cases hr : rows.get r with
    | none => simp only [hb, cond_true, hr]; exact .inl ⟨trivial, trivial⟩
    | some y =>
      simp only [hb, cond_true, hr]
      cases hl : Nat.ble r 1000000000 with
      | false => exact .inl ⟨rfl, rfl⟩
      | true => exact .inr ⟨(), D.put x deep rows r, next, [r], [r], rfl, rfl, fun q hq => by simp at hq; subst hq; exact blt_lt0 hb, fun q hq => by simp at hq; subst hq; exact blt_lt0 hb, trivial, fun _ => rfl, ffT⟩
theorem Tr.fresh (x : Row) {ro : Bool} : Tr (M.fresh x) false ro := fun rows next log wlog => by
  rw [M.fresh_eq, M.fresh_eq]
  simp only
  cases Nat.ble next 1000000000 with
  | false => exact .inl ⟨rfl, rfl⟩
  | true => exact .inr ⟨next, D.put (some x) deep rows next, next + 1, [], [], rfl, rfl, noMem, noMem, trivial, ffT, fun _ => rfl⟩
/-- Nothing is looked at. -/
def Silent {α : Type} (m : M α) : Prop := (∀ s, m s = none) ∨ ∃ b, ∀ s, m s = some (b, s)
theorem Silent.pure {α : Type} (a : α) : Silent (M.pure a) := .inr ⟨a, fun _ => rfl⟩
theorem Silent.fail {α : Type} : Silent (M.fail : M α) := .inl fun _ => rfl
theorem Silent.lift {α : Type} (o : Option α) : Silent (M.lift o) := by
  cases o with
  | none => exact Silent.fail
  | some a => exact Silent.pure a
theorem Silent.guard (b : Bool) : Silent (M.guard b) := by
  cases b with
  | false => exact Silent.fail
  | true => exact Silent.pure ()
theorem Silent.bind {α β : Type} {m : M α} {f : α → M β} (hm : Silent m) (hf : ∀ a, Silent (f a)) : Silent (M.bind m f) := by
  rcases hm with h | ⟨a, h⟩
  · exact .inl fun s => by rw [M.bind_eq, h]
  · rcases hf a with g | ⟨b, g⟩
    · exact .inl fun s => by rw [M.bind_eq, h]; exact g s
    · exact .inr ⟨b, fun s => by rw [M.bind_eq, h]; exact g s⟩
theorem Silent.cond {α : Type} {b : Bool} {m m' : M α} (h : Silent m) (h' : Silent m') : Silent (bif b then m else m') := by cases b; exact h'; exact h
theorem Silent.tr {α : Type} {m : M α} {nn ro : Bool} (hm : Silent m) : Tr m nn ro := fun rows next log wlog => by
  rcases hm with h | ⟨b, h⟩
  · exact .inl ⟨h _, h _⟩
  · exact .inr ⟨b, rows, next, [], [], h _, h _, noMem, noMem, trivial, fun _ => rfl, fun _ => rfl⟩
theorem Tr.cond {α : Type} {b : Bool} {m m' : M α} {nn ro : Bool} (h : Tr m nn ro) (h' : Tr m' nn ro) : Tr (bif b then m else m') nn ro := by cases b; exact h'; exact h
theorem Tr.then_ {α β : Type} {m : M α} {nn ro : Bool} (hm : Tr m nn ro) {f : α → M β} (hf : ∀ a, Silent (f a)) : Tr (M.bind m f) nn ro := fun rows next log wlog => by
  rw [M.bind_eq, M.bind_eq]
  rcases hm rows next log wlog with ⟨h1, h2⟩ | ⟨a, r', n', L, W, h1, h2, h3, h4, h5, h6, h7⟩
  · rw [h1, h2]; exact .inl ⟨rfl, rfl⟩
  · rw [h1, h2]
    simp only
    rcases hf a with g | ⟨b, g⟩
    · exact .inl ⟨g _, g _⟩
    · exact .inr ⟨b, r', n', L, W, g _, g _, h3, h4, h5, h6, h7⟩
theorem below_all : ∀ (n : Nat) (l : List Nat), (∀ r, r ∈ l → r < n) → below n l = l
  | _, [], _ => rfl
  | n, x :: l, h => by rw [below_cons, lt_blt0 (h x (by simp)), cond_true, below_all n l fun r hr => h r (by simp [hr])]
theorem below_lt : ∀ (n : Nat) (l : List Nat) (r : Nat), r ∈ below n l → r < n
  | _, [], _, h => by cases h
  | n, x :: l, r, h => by
    rw [below_cons] at h
    cases hb : Nat.blt x n with
    | false => rw [hb, cond_false] at h; exact below_lt n l r h
    | true =>
      rw [hb, cond_true, List.mem_cons] at h
      rcases h with rfl | h
      · exact blt_lt0 hb
      · exact below_lt n l r h
theorem Tr.within {α : Type} (m : M α) : Tr (M.within m) false false := fun rows next log wlog => by
  rw [M.within_eq, M.within_eq]
  simp only
  cases h : m ⟨rows, next, [], []⟩ with
  | none => exact .inl ⟨rfl, rfl⟩
  | some p =>
    refine .inr ⟨p.1, p.2.rows, p.2.next, below next p.2.log, below next p.2.wlog, ?_, rfl, below_lt _ _, below_lt _ _, trivial, ffT, ffT⟩
    simp only [List.append_nil]

section
variable {E : Env}
theorem Tr.loadA (t : TypeId) (a : Value) {nn ro : Bool} : Tr (loadA E t a) nn ro := by
  unfold Cm.loadA; split
  · exact Tr.bind (Tr.guard _) fun _ => Tr.lift _
  · exact Tr.bind (Tr.lift _) fun _ => Tr.bind (Tr.row _) fun _ => Tr.bind (Tr.lift _) fun _ => Tr.lift _
theorem Tr.readF (size : Nat) (x : Value) (n : Nat → Nat) {nn ro : Bool} : Tr (readF size x n) nn ro :=
  Tr.bind (Tr.lift _) fun _ => Tr.bind (Tr.guard _) fun _ => Tr.bind (Tr.guard _) fun _ => Tr.bind (Tr.lift _) fun _ => Tr.pure _
theorem Tr.writeA (r off : Nat) (l : List Value) {nn : Bool} : Tr (writeA r off l) nn false :=
  Tr.bind (Tr.row _) fun _ => Tr.bind (Tr.lift _) fun _ => Tr.bind (Tr.guard _) fun _ => Tr.bind (Tr.lift _) fun _ => Tr.turn _ _
theorem Tr.storeA (t : TypeId) (a v : Value) {nn : Bool} : Tr (storeA E t a v) nn false :=
  Tr.bind (Tr.lift _) fun _ => Tr.bind (Tr.lift _) fun _ => Tr.bind (Tr.guard _) fun _ => Tr.writeA _ _ _
theorem Tr.newA (es : Nat) (cs : List Value) {ro : Bool} : Tr (newA es cs) false ro := Tr.then_ (Tr.fresh _) fun _ => Silent.pure _
theorem Tr.allocA (t : TypeId) {ro : Bool} : Tr (allocA E t) false ro := Tr.bind (Tr.lift _) fun _ => Tr.newA _ _
theorem Tr.readA (size : Nat) (a : Option Addr) (n : Nat) {nn ro : Bool} : Tr (readA size a n) nn ro := by
  cases n with
  | zero => exact Tr.pure _
  | succ n => unfold Cm.readA; exact Tr.bind (Tr.lift _) fun _ => Tr.bind (Tr.row _) fun _ => Tr.bind (Tr.lift _) fun _ => Tr.lift _
theorem Tr.buildSliceA (t : TypeId) (len : Nat) (ps : List (Nat × Value)) {ro : Bool} : Tr (buildSliceA E t len ps) false ro :=
  Tr.bind (Tr.lift _) fun _ => Tr.bind (Tr.lift _) fun _ => Tr.bind (Tr.guard _) fun _ => Tr.bind (Tr.lift _) fun _ => Tr.then_ (Tr.fresh _) fun _ => Silent.pure _
theorem Tr.makeSliceA (t : TypeId) (l c : Value) {ro : Bool} : Tr (makeSliceA E t l c) false ro :=
  Tr.bind (Tr.lift _) fun _ => Tr.bind (Tr.lift _) fun _ => Tr.bind (Tr.lift _) fun _ => Tr.bind (Tr.lift _) fun _ => Tr.bind (Tr.guard _) fun _ => Tr.then_ (Tr.fresh _) fun _ => Silent.pure _
theorem Tr.newCells (i : Elem) (z : Bool) (x : Value) {nn ro : Bool} : Tr (newCells E i z x) nn ro := by
  unfold Cm.newCells
  refine Tr.cond (Tr.bind (Tr.lift _) fun _ => Tr.bind (Tr.guard _) fun _ => Tr.pure _) ?_
  split
  · exact Tr.bind (Tr.readA _ _ _) fun _ => Tr.pure _
  · exact Tr.bind (Tr.guard _) fun _ => Tr.pure _
  · exact Tr.bind (Tr.guard _) fun _ => Tr.bind (Tr.lift _) fun _ => Tr.pure _
  · exact Tr.readF _ _ _
theorem Tr.leaveA (i : Elem) (b : Option Addr) {nn : Bool} : Tr (leaveA i b) nn false := by
  unfold Cm.leaveA
  split
  · exact Tr.bind (Tr.row _) fun _ => Tr.bind (Tr.lift _) fun _ => Tr.bind (Tr.guard _) fun _ => Tr.bind (Tr.turn _ _) fun _ => Tr.pure _
  · exact Tr.pure _
theorem Tr.appendA (sT xT : TypeId) (v x : Value) : Tr (appendA E sT xT v x) false false := by
  refine Tr.bind (Tr.lift _) fun _ => Tr.bind (Tr.lift _) fun _ => Tr.bind (Tr.lift _) fun _ => Tr.bind (Tr.lift _) fun _ => Tr.bind (Tr.newCells _ _ _) fun nl => Tr.bind (Tr.guard _) fun _ => Tr.cond ?_ ?_
  · unfold Cm.appendIn
    split
    · exact Tr.pure _
    · exact Tr.bind (Tr.lift _) fun _ => Tr.bind (Tr.writeA _ _ _) fun _ => Tr.pure _
  · exact Tr.bind (Tr.guard _) fun _ => Tr.bind (Tr.readA _ _ _) fun _ => Tr.bind (Tr.leaveA _ _) fun _ => Tr.then_ (Tr.fresh _) fun _ => Silent.pure _
theorem Tr.convertA (s d : TypeId) (x : Value) : Tr (convertA E s d x) false false := by
  unfold Cm.convertA
  refine Tr.cond (Tr.lift _) ?_
  refine Tr.bind (Tr.lift _) fun _ => Tr.bind (Tr.lift _) fun _ => ?_
  split
  · exact Tr.bind (Tr.lift _) fun _ => Tr.bind (Tr.row _) fun _ => Tr.bind (Tr.lift _) fun _ => Tr.bind (Tr.guard _) fun _ => Tr.bind (Tr.lift _) fun _ => Tr.pure _
  · exact Tr.cond (Tr.pure _) (Tr.bind (Tr.lift _) fun _ => Tr.bind (Tr.lift _) fun _ => Tr.then_ (Tr.fresh _) fun _ => Silent.pure _)
  · exact Tr.cond (Tr.bind (Tr.lift _) fun _ => Tr.bind (Tr.lift _) fun _ => Tr.bind (Tr.readA _ _ _) fun _ => Tr.bind (Tr.lift _) fun _ => Tr.pure _)
      (Tr.bind (Tr.guard _) fun _ => Tr.bind (Tr.lift _) fun _ => Tr.bind (Tr.lift _) fun _ => Tr.bind (Tr.lift _) fun _ => Tr.bind (Tr.row _) fun _ => Tr.bind (Tr.lift _) fun _ => Tr.bind (Tr.turn _ _) fun _ => Tr.pure _)
  · exact Tr.cond (Tr.lift _) (Tr.bind (Tr.guard _) fun _ => Tr.bind (Tr.lift _) fun _ => Tr.bind (Tr.lift _) fun _ => Tr.bind (Tr.readF _ _ _) fun _ => Tr.bind (Tr.lift _) fun _ => Tr.pure _)
/-- To a number. -/
theorem silent_convert {s d : TypeId} {x : Value} (h : numT E d = true) : Silent (convertA E s d x) := by
  unfold numT at h
  cases hd : E.und d with
  | none => rw [hd] at h; cases h
  | some dd =>
    rw [hd] at h
    have h : isNum dd = true := h
    have h1 : isString dd = false := by cases dd <;> first | rfl | cases h
    have h2 : sliceT dd = none := by cases dd <;> first | rfl | cases h
    unfold Cm.convertA
    rw [hd]
    refine Silent.cond (Silent.lift _) (Silent.bind (Silent.lift _) fun sd => ?_)
    rw [show M.lift (some dd) = M.pure dd from rfl, bind_pure_l]
    have h3 : ptrT sd dd = none := by cases dd <;> first | (cases h; done) | (cases sd <;> rfl)
    split
    · unfold ptrA; rw [h3]; exact .inl fun _ => rfl
    · rw [h1, cond_false]; unfold bytesNew; rw [h2]; exact .inl fun _ => rfl
    · rw [h1, cond_false]; unfold markA; rw [h2]
      refine Silent.bind (Silent.guard _) fun _ => .inl fun _ => rfl
    · exact Silent.cond (Silent.lift _) (by rw [h1]; exact .inl fun _ => rfl)
theorem Tr.lenA (t : TypeId) (x : Value) {nn ro : Bool} : Tr (lenA E t x) nn ro := by
  unfold Cm.lenA
  refine Tr.cond (Tr.lift _) (Tr.bind (Tr.lift _) fun _ => ?_)
  split
  · exact Tr.bind (Tr.lift _) fun _ => Tr.pure _
  · split
    · exact Tr.bind (Tr.guard _) fun _ => Tr.pure _
    · exact Tr.bind (Tr.lift _) fun _ => Tr.pure _
  · exact Tr.pure _
  · split
    · exact Tr.pure _
    · refine Tr.bind (Tr.row _) fun _ => ?_
      split
      · exact Tr.pure _
      · exact Tr.fail
    · exact Tr.fail
  · exact Tr.fail
theorem Tr.entriesA (x : Value) {nn ro : Bool} : Tr (entriesA x) nn ro := by
  unfold Cm.entriesA
  split
  · exact Tr.pure _
  · exact Tr.bind (Tr.row _) fun _ => Tr.bind (Tr.lift _) fun _ => Tr.pure _
  · exact Tr.fail
theorem Tr.lookupA (t : TypeId) (x i : Value) (c : Bool) {nn ro : Bool} : Tr (lookupA E t x i c) nn ro := by
  unfold Cm.lookupA
  refine Tr.bind (Tr.lift _) fun _ => Tr.bind (Tr.entriesA _) fun _ => Tr.bind (Tr.lift _) fun _ => ?_
  split
  · exact Tr.bind (Tr.lift _) fun _ => Tr.pure _
  · exact Tr.bind (Tr.lift _) fun _ => Tr.pure _
theorem Tr.updateA (t : TypeId) (m k v : Value) {nn : Bool} : Tr (updateA E t m k v) nn false := by
  unfold Cm.updateA
  split
  · refine Tr.bind (Tr.lift _) fun _ => Tr.bind (Tr.row _) fun _ => Tr.bind (Tr.lift _) fun _ => Tr.bind (Tr.lift _) fun _ => ?_
    split
    · exact Tr.bind (Tr.lift _) fun _ => Tr.bind (Tr.guard _) fun _ => Tr.turn _ _
    · exact Tr.turn _ _
  · exact Tr.fail
theorem Tr.deleteA (t : TypeId) (m k : Value) {nn : Bool} : Tr (deleteA E t m k) nn false := by
  unfold Cm.deleteA
  split
  · refine Tr.bind (Tr.lift _) fun _ => Tr.bind (Tr.row _) fun _ => Tr.bind (Tr.lift _) fun _ => Tr.bind (Tr.lift _) fun _ => ?_
    split
    · exact Tr.bind (Tr.turn _ _) fun _ => Tr.pure _
    · exact Tr.bind (Tr.turn _ _) fun _ => Tr.pure _
  · exact Tr.fail
theorem Tr.rangeA (t : TypeId) (x : Value) {ro : Bool} : Tr (rangeA E t x) false ro :=
  Tr.bind (Tr.lift _) fun _ => Tr.bind (Tr.guard _) fun _ => Tr.bind (Tr.lift _) fun _ => Tr.then_ (Tr.fresh _) fun _ => Silent.pure _
theorem Tr.nextA (it : Value) (b : Bool) {nn : Bool} : Tr (nextA it b) nn false := by
  unfold Cm.nextA
  refine Tr.bind (Tr.guard _) fun _ => Tr.bind (Tr.lift _) fun _ => Tr.bind (Tr.guard _) fun _ => Tr.bind (Tr.row _) fun _ => Tr.bind (Tr.lift _) fun _ => Tr.cond ?_ (Tr.pure _)
  exact Tr.bind (Tr.turn _ _) fun _ => Tr.pure _
theorem Tr.copied (i : Elem) (n : Nat) (x : Value) {nn ro : Bool} : Tr (copied i n x) nn ro := by
  unfold Cm.copied
  split
  · exact Tr.bind (Tr.readA _ _ _) fun _ => Tr.pure _
  · exact Tr.bind (Tr.guard _) fun _ => Tr.pure _
  · exact Tr.readF _ _ _
theorem Tr.copyA (dT : TypeId) (d x : Value) {nn : Bool} : Tr (copyA E dT d x) nn false := by
  refine Tr.bind (Tr.lift _) fun _ => Tr.bind (Tr.lift _) fun _ => Tr.bind (Tr.lift _) fun _ => Tr.bind (Tr.copied _ _ _) fun kl => ?_
  split
  · exact Tr.pure _
  · exact Tr.bind (Tr.lift _) fun _ => Tr.bind (Tr.writeA _ _ _) fun _ => Tr.pure _
end
end Go.Cm
