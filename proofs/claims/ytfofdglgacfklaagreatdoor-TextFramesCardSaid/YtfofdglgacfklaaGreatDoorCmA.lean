/-
  A deterministic machine beside the model's: it runs the model's code over rows of cells with names of its own, and stops where the answer might hang on an order, a capacity or an address. Definitions only.
-/
import Derived.Orders
import Derived.Scope
namespace Go.Cm
open Go

/-- A map from numbers: a tree over their binary digits. -/
inductive T (α : Type) where
  | leaf : T α
  | node : T α → Option α → T α → T α

noncomputable def T.get {α : Type} (t : T α) (n : Nat) : Option α :=
  T.rec (motive := fun _ => Nat → Option α) (fun _ => none) (fun _ v _ gl gr n => Bool.rec (Bool.rec (gr (Nat.pred (Nat.div n 2))) (gl (Nat.div n 2)) (Nat.beq (Nat.mod n 2) 1)) v (Nat.beq n 0)) t n

noncomputable def T.put {α : Type} (x : Option α) (k : Nat) (t : T α) (n : Nat) : T α :=
  Nat.rec (motive := fun _ => T α → Nat → T α) (fun t _ => t) (fun _ ih t n => T.rec (motive := fun _ => T α)
    (Bool.rec (Bool.rec (.node .leaf none (ih .leaf (Nat.pred (Nat.div n 2)))) (.node (ih .leaf (Nat.div n 2)) none .leaf) (Nat.beq (Nat.mod n 2) 1)) (.node .leaf x .leaf) (Nat.beq n 0))
    (fun l v r _ _ => Bool.rec (Bool.rec (.node l v (ih r (Nat.pred (Nat.div n 2)))) (.node (ih l (Nat.div n 2)) v r) (Nat.beq (Nat.mod n 2) 1)) (.node l x r) (Nat.beq n 0)) t) k t n

/-- A map from numbers, four ways at each step: names' rows. -/
inductive D (α : Type) where
  | leaf : D α
  | node : Option α → D α → D α → D α → D α → D α

noncomputable def pick4 {β : Type} (j : Nat) (a b c d : β) : β :=
  Nat.rec (motive := fun _ => β) a (fun j _ => Nat.rec (motive := fun _ => β) b (fun j _ => Nat.rec (motive := fun _ => β) c (fun _ _ => d) j) j) j
noncomputable def D.get {α : Type} (t : D α) (n : Nat) : Option α :=
  D.rec (motive := fun _ => Nat → Option α) (fun _ => none) (fun v _ _ _ _ ga gb gc gd n => Nat.rec (motive := fun _ => Option α) v (fun m _ => pick4 (Nat.mod m 4) ga gb gc gd (Nat.div m 4)) n) t n
noncomputable def D.put {α : Type} (x : Option α) (k : Nat) (t : D α) (n : Nat) : D α :=
  Nat.rec (motive := fun _ => D α → Nat → D α) (fun t _ => t) (fun _ ih t n => D.rec (motive := fun _ => D α)
    (Nat.rec (motive := fun _ => D α) (.node x .leaf .leaf .leaf .leaf) (fun m _ => pick4 (Nat.mod m 4) (.node none (ih .leaf (Nat.div m 4)) .leaf .leaf .leaf) (.node none .leaf (ih .leaf (Nat.div m 4)) .leaf .leaf) (.node none .leaf .leaf (ih .leaf (Nat.div m 4)) .leaf) (.node none .leaf .leaf .leaf (ih .leaf (Nat.div m 4)))) n)
    (fun v a b c d _ _ _ _ => Nat.rec (motive := fun _ => D α) (.node x a b c d) (fun m _ => pick4 (Nat.mod m 4) (.node v (ih a (Nat.div m 4)) b c d) (.node v a (ih b (Nat.div m 4)) c d) (.node v a b (ih c (Nat.div m 4)) d) (.node v a b c (ih d (Nat.div m 4)))) n) t) k t n

/-- What has a name: a row of cells (never written where 'ro'; 'es': cells an element, where the row came of an append), a map, a text's reader. -/
inductive Row where
  | cells (ro : Bool) (es : Nat) (cs : List Value)
  | map (es : List MapEntry) (clock : Nat)
  | iter (s : ByteArray) (pos : Nat)

structure St where
  rows : D Row
  next : Nat
  log : List Nat
  wlog : List Nat

abbrev M (α : Type) := St → Option (α × St)

def M.pure {α : Type} (a : α) : M α := fun s => some (a, s)
def M.fail {α : Type} : M α := fun _ => none
noncomputable def M.bind {α β : Type} (m : M α) (f : α → M β) : M β := fun s => Option.rec none (fun p => Prod.rec (fun a s' => f a s') p) (m s)
noncomputable def M.lift {α : Type} (o : Option α) : M α := fun s => Option.rec none (fun a => some (a, s)) o
noncomputable def M.guard (b : Bool) : M Unit := fun s => Bool.rec none (some ((), s)) b

/-- How deep the tree of names may be. -/
def deep : Nat := 40

/-- A number, counted out before it is handed on. -/
noncomputable def force {α : Type} (n : Nat) (k : Nat → α) : α := Nat.rec (k 0) (fun m _ => k (Nat.succ m)) n
theorem force_eq {α : Type} (n : Nat) (k : Nat → α) : force n k = k n := by cases n <;> rfl
noncomputable def M.row (r : Nat) : M Row := fun s => St.rec (fun rows next log wlog => Bool.rec none (Option.rec none (fun x => some (x, ⟨rows, next, r :: log, wlog⟩)) (rows.get r)) (Nat.ble (Nat.succ r) next)) s
/-- Another thing under a name that is there (none: it goes). -/
noncomputable def M.turn (r : Nat) (x : Option Row) : M Unit := fun s => St.rec (fun rows next log wlog =>
  Bool.rec none (Option.rec none (fun _ => Bool.rec none (some ((), ⟨D.put x deep rows r, next, r :: log, r :: wlog⟩)) (Nat.ble r 1000000000)) (rows.get r)) (Nat.ble (Nat.succ r) next)) s
noncomputable def M.fresh (x : Row) : M Nat := fun s => St.rec (fun rows next log wlog => force next fun next =>
  Bool.rec none (some (next, ⟨D.put (some x) deep rows next, Nat.succ next, log, wlog⟩)) (Nat.ble next 1000000000)) s

noncomputable def below (n : Nat) (l : List Nat) : List Nat := List.rec (motive := fun _ => List Nat) [] (fun x _ ih => Bool.rec (motive := fun _ => List Nat) ih (x :: ih) (Nat.ble (Nat.succ x) n)) l
theorem below_nil (n : Nat) : below n [] = [] := rfl
theorem below_cons (n x : Nat) (l : List Nat) : below n (x :: l) = bif Nat.blt x n then x :: below n l else below n l := by
  show Bool.rec (motive := fun _ => List Nat) (below n l) (x :: below n l) (Nat.blt x n) = _
  cases Nat.blt x n <;> rfl

/-- What was touched inside, without what was made inside. -/
noncomputable def M.within {α : Type} (m : M α) : M α := fun s => St.rec (fun rows next log wlog =>
  Option.rec none (fun p => Prod.rec (fun a s' => St.rec (fun rows' next' log' wlog' => some (a, ⟨rows', next', below next log' ++ log, below next wlog' ++ wlog⟩)) s') p) (m ⟨rows, next, [], []⟩)) s

/-- What was done: the names that were there were below 'lo', those that were made are from 'lo' to below 'hi'; what was touched, and written, of those that were there. -/
structure Did where
  lo : Nat
  hi : Nat
  log : List Nat
  wlog : List Nat

noncomputable def M.watch {α : Type} (m : M α) : M (α × Did) := fun s => St.rec (fun rows next log wlog =>
  Option.rec none (fun p => Prod.rec (fun a s' => St.rec (fun rows' next' log' wlog' =>
    some ((a, { lo := next, hi := next', log := below next log', wlog := below next wlog' }), ⟨rows', next', below next log' ++ log, below next wlog' ++ wlog⟩)) s') p) (m ⟨rows, next, [], []⟩)) s

/-- What of a program is looked up. -/
structure Env where
  P : Program
  und : TypeId → Option TypeDesc
  info : TypeId → Option TypeInfo
  fn : FuncId → Option Func
  ext : FuncId → Option (List Value → Option Value)
  glob : Nat → Bool
  dk : FuncId → Option (List Value → Option (Value × List (Nat × List Value))) := fun _ => none
  /-- What tokens stand for; what operations of them answer; what calls do. -/
  sy : Nat → Value → Prop := fun _ _ => False
  ask : BinOp → Value → Value → Option Value := fun _ _ _ => none
  askLen : TypeId → Value → Option Value := fun _ _ => none
  kt : FuncId → Option (List Value → Option Value) := fun _ => none
  /-- What memory holds that nobody writes; conversions, and slices, of tokens. -/
  fz : Nat → Option Obj := fun _ => none
  askC : TypeId → TypeId → Value → Option Value := fun _ _ _ => none
  askS : TypeId → Value → Option Value → Option Value → Option Value → Option Value := fun _ _ _ _ _ => none
  /-- Which function hands back a map's keys sorted, where it is handed the other one's closure. -/
  sk : FuncId → Option FuncId := fun _ => none
  /-- Which function answers by what its slices hold (so many cells an element), and makes nothing that is seen. -/
  pk : FuncId → Option (Nat × (List (List Value) → Option Value)) := fun _ => none
  /-- Bytes, some of them tokens, as a text; a text's bytes. -/
  askB : List Value → Option Value := fun _ => none
  askY : Value → Option (List Value) := fun _ => none

/-- A value without an address. -/
noncomputable def plainN : Nat → Value → Bool
  | 0, _ => false
  | k + 1, v => match v with
    | .bool _ | .int _ _ | .float _ _ | .complex _ _ _ | .string _ | .pointer none | .slice none _ _ | .map none | .nilFunc | .nilIface => true
    | .func (.func _) a b => a.toList.all (plainN k) && b.toList.all (plainN k)
    | .iface _ v => plainN k v
    | .agg cs => cs.toList.all (plainN k)
    | .tuple cs => cs.toList.all (plainN k)
    | _ => false
noncomputable def plain (v : Value) : Bool := plainN 6 v
noncomputable def plains : List Value → Bool
  | [] => true
  | v :: l => bif plain v then plains l else false

/-- What a piece of the model's does where it looks at no memory and asks nothing. -/
noncomputable def pureRun {α : Type} (P : Program) : Sem α → Option α
  | .pure a => some a
  | .program k => pureRun P (k P)
  | .mark _ k => pureRun P k
  | .choose q k => if q.forced then pureRun P (k 0) else none
  | _ => none

/-- A frame: a tree of fours, so that a slot is a row of projections. -/
structure Q (α : Type) where
  a : α
  b : α
  c : α
  d : α

noncomputable def FT : Nat → Type
  | 0 => Value
  | k + 1 => Q (FT k)

noncomputable def FT.all (v : Value) : (k : Nat) → FT k
  | 0 => v
  | k + 1 => ⟨FT.all v k, FT.all v k, FT.all v k, FT.all v k⟩

/-- By the recursors themselves: the kernel goes them fast. -/
noncomputable def Q.at {α : Type} (q : Q α) (i : Nat) : α := Q.rec (fun a b c d => Nat.rec a (fun i _ => Nat.rec b (fun i _ => Nat.rec c (fun _ _ => d) i) i) i) q
noncomputable def Q.set {α : Type} (q : Q α) (i : Nat) (x : α) : Q α :=
  Q.rec (fun a b c d => Nat.rec ⟨x, b, c, d⟩ (fun i _ => Nat.rec ⟨a, x, c, d⟩ (fun i _ => Nat.rec ⟨a, b, x, d⟩ (fun _ _ => ⟨a, b, c, x⟩) i) i) i) q

noncomputable def FT.get : (k : Nat) → FT k → Nat → Value
  | 0, v, _ => v
  | k + 1, q, i => FT.get k (Q.at q (Nat.mod i 4)) (Nat.div i 4)

noncomputable def FT.put : (k : Nat) → FT k → Nat → Value → FT k
  | 0, _, _, v => v
  | k + 1, q, i, v => Q.set q (Nat.mod i 4) (FT.put k (Q.at q (Nat.mod i 4)) (Nat.div i 4) v)
/-- The same, at the depth that frames have. -/
noncomputable def FT.get5 (t : FT 5) (i : Nat) : Value :=
  Q.at (Q.at (Q.at (Q.at (Q.at t (Nat.mod i 4)) (Nat.mod (Nat.div i 4) 4)) (Nat.mod (Nat.div i 16) 4)) (Nat.mod (Nat.div i 64) 4)) (Nat.mod (Nat.div i 256) 4)
noncomputable def FT.up (k : Nat) (q : Q (FT k)) (j : Nat) (f : FT k → FT k) : Q (FT k) := Q.set q j (f (Q.at q j))
noncomputable def FT.put5 (t : FT 5) (i : Nat) (v : Value) : FT 5 :=
  FT.up 4 t (Nat.mod i 4) fun t => FT.up 3 t (Nat.mod (Nat.div i 4) 4) fun t => FT.up 2 t (Nat.mod (Nat.div i 16) 4) fun t => FT.up 1 t (Nat.mod (Nat.div i 64) 4) fun t => FT.up 0 t (Nat.mod (Nat.div i 256) 4) fun _ => v

structure Fr where
  n : Nat
  t : FT 5

noncomputable def Fr.get (fr : Fr) (i : Nat) : Value := Fr.rec (fun n t => bif Nat.blt i n then FT.get5 t i else undef) fr
noncomputable def Fr.put (fr : Fr) (i : Nat) (v : Value) : Fr := Fr.rec (fun n t => ⟨n, FT.put5 t i v⟩) fr
noncomputable def Fr.fill : List Value → Nat → FT 5 → FT 5
  | [], _, t => t
  | v :: l, i, t => Fr.fill l (Nat.succ i) (FT.put5 t i v)
noncomputable def Fr.init (n : Nat) (args : List Value) : Fr := { n := max n args.length, t := Fr.fill args 0 (FT.all undef 5) }
noncomputable def Fr.eval (fr : Fr) : Operand → Value
  | .tmp t => fr.get t
  | .const v => v
  | .global g => .pointer (some ⟨g, 0, none⟩)
  | .func f => .func (.func f) #[] #[]
noncomputable def Fr.dst (fr : Fr) (d : Option Tmp) (v : Value) : M Fr :=
  match d with
  | none => M.pure fr
  | some d => bif Nat.blt d fr.n then M.pure (fr.put d v) else M.fail

noncomputable def aggT (E : Env) (t : TypeId) : Option Bool :=
  match E.und t with
  | some (.struct _) => some true
  | some (.array _ _) => some true
  | some _ => some false
  | none => none

/-- The cells from a place on, so many. -/
noncomputable def piece (cs : List Value) (off n : Nat) : Option (List Value) :=
  let l := (cs.drop off).take n
  bif Nat.beq l.length n then some l else none

/-- What is cold: n elements that nobody writes any more; and the place of one of its cells. -/
noncomputable def fzs (n : Nat) (cs : List Value) : Value := .func (.yield 0) ⟨cs⟩ #[.int .i64 (.ofNat n)]
noncomputable def fzp (o : Nat) (cs : List Value) : Value := .func (.yield 1) ⟨cs⟩ #[.int .i64 (.ofNat o)]
noncomputable def asFz : Value → Option (Nat × Nat × List Value)
  | .func (.yield k) cs c => (match c.toList with
    | [.int .i64 (.ofNat n)] => some (k, n, cs.toList)
    | _ => none)
  | _ => none

/-- What is not known, and not asked for. -/
noncomputable def junk : Value := .func (.yield 2) #[] #[]
noncomputable def isJunk : Value → Bool
  | .func (.yield (_ + 2)) _ _ => true
  | _ => false

noncomputable def asFunc : Value → Option (FuncId × List Value × List Value)
  | .func (.func f) a c => some (f, a.toList, c.toList)
  | _ => none
/-! Looks at values and types. -/
noncomputable def asRef : Value → Option (Nat × Nat)
  | .pointer (some ⟨r, off, none⟩) => some (r, off)
  | _ => none
noncomputable def asSlice : Value → Option (Option Addr × Nat × Nat)
  | .slice a n c => some (a, n, c)
  | _ => none
noncomputable def asAggA : Value → Option (List Value)
  | .agg cs => some cs.toList
  | _ => none
noncomputable def asStr : Value → Option ByteArray
  | .string s => some s
  | _ => none
noncomputable def idx : Value → Option Nat
  | .int _ (.ofNat n) => some n
  | _ => none
noncomputable def sliceT : TypeDesc → Option TypeId
  | .slice e => some e
  | _ => none
noncomputable def structT : TypeDesc → Option (Array Field)
  | .struct fs => some fs
  | _ => none
noncomputable def arrayT : TypeDesc → Option (Nat × TypeId)
  | .array n e => some (n, e)
  | _ => none
noncomputable def cellsR : Row → Option (List Value)
  | .cells _ _ cs => some cs
  | _ => none
noncomputable def ownR : Row → Option (Nat × List Value)
  | .cells false es cs => some (es, cs)
  | _ => none
noncomputable def guardO (b : Bool) : Option Unit := bif b then some () else none

/-- A value of a type out of cells. -/
noncomputable def partA (E : Env) (t : TypeId) (cs : List Value) (off : Nat) : Option Value :=
  (aggT E t).bind fun g => (E.info t).bind fun i =>
  bif g then (piece cs off i.size).map fun l => .agg ⟨l⟩ else cs[off]?

noncomputable def loadA (E : Env) (t : TypeId) (a : Value) : M Value :=
  match asFz a with
  | some p => M.bind (M.guard (Nat.beq p.1 1)) fun _ => M.lift (partA E t p.2.2 p.2.1)
  | none => M.bind (M.lift (asRef a)) fun p => M.bind (M.row p.1) fun x => M.bind (M.lift (cellsR x)) fun cs => M.lift (partA E t cs p.2)

/-- A row with cells put in from a place on. -/
noncomputable def splice : List Value → Nat → List Value → Option (List Value)
  | cs, _, [] => some cs
  | [], _, _ :: _ => none
  | _ :: cs, 0, v :: l => (splice cs 0 l).map (v :: ·)
  | c :: cs, off + 1, v :: l => (splice cs off (v :: l)).map (c :: ·)

/-- Whether a value fills one cell. -/
noncomputable def one1 : Value → Bool
  | .agg _ | .tuple _ | .func (.yield (_ + 2)) _ _ => false
  | _ => true

noncomputable def oneCells : List Value → Bool
  | [] => true
  | v :: l => bif one1 v then oneCells l else false

noncomputable def writeA (r off : Nat) (l : List Value) : M Unit :=
  M.bind (M.row r) fun x => M.bind (M.lift (ownR x)) fun ec => M.bind (M.guard (oneCells l)) fun _ =>
  M.bind (M.lift (splice ec.2 off l)) fun cs => M.turn r (some (.cells false ec.1 cs))

noncomputable def storeA (E : Env) (t : TypeId) (a v : Value) : M Unit :=
  M.bind (M.lift (asRef a)) fun p => M.bind (M.lift (E.info t)) fun i => M.bind (M.guard (bif isJunk v then false else Nat.beq v.cells.size i.size)) fun _ => writeA p.1 p.2 v.cells.toList

noncomputable def newA (es : Nat) (cs : List Value) : M Value := M.bind (M.fresh (.cells false es cs)) fun r => M.pure (.pointer (some ⟨r, 0, none⟩))

noncomputable def zeroA (E : Env) (t : TypeId) : Option Value :=
  (E.info t).bind fun i => i.zero.bind fun z => (guardO (plain z)).map fun _ => z

noncomputable def repeats (z : List Value) : Nat → List Value
  | 0 => []
  | n + 1 => z ++ repeats z n

/-- The places of a struct's fields. -/
noncomputable def placesA (E : Env) : List Field → Option (List (Nat × Nat))
  | [] => some []
  | f :: l => (E.info f.type).bind fun i => (placesA E l).map fun r => (f.offset, i.size) :: r

noncomputable def fillA (place : Nat → Option (Nat × Nat)) (cs : List Value) : List (Nat × Value) → Option (List Value)
  | [] => some cs
  | (i, v) :: rest => (place i).bind fun p => (guardO (bif isJunk v then false else (Nat.beq v.cells.size p.2 && Nat.ble (p.1 + v.cells.size) cs.length))).bind fun _ => (splice cs p.1 v.cells.toList).bind fun cs => fillA place cs rest

noncomputable def buildStruct (E : Env) (z : List Value) (fs : Array Field) (parts : List (Nat × Value)) : Option Value :=
  (placesA E fs.toList).bind fun ps => (fillA (ps[·]?) z parts).map fun cs => .agg ⟨cs⟩
noncomputable def buildArray (E : Env) (z : List Value) (e : TypeId) (parts : List (Nat × Value)) : Option Value :=
  (E.info e).bind fun i => (fillA (fun k => some (k * i.size, i.size)) z parts).map fun cs => .agg ⟨cs⟩
noncomputable def buildA (E : Env) (t : TypeId) (parts : List (Nat × Value)) : Option Value :=
  (zeroA E t).bind fun z => (E.und t).bind fun d =>
  match d with
  | .struct fs => buildStruct E z.cells.toList fs parts
  | .array _ e => buildArray E z.cells.toList e parts
  | _ => none

/-- What a row bears of its cells: how many an element has (0: one variable), and the type of its block's elements, where it is known (0: it is not; one more than its number else). -/
noncomputable def tagT : Nat := 1099511627776
noncomputable def codeE (size ty : Nat) : Nat := Nat.add size (Nat.mul tagT ty)
noncomputable def sizeE (es : Nat) : Nat := Nat.mod es tagT

/-- The cells of an element type: how many, how many bytes, the zero ones; what a row of them bears. -/
structure Elem where
  size : Nat
  bytes : Nat
  zero : List Value
  es : Nat
noncomputable def elemA (E : Env) (e : TypeId) : Option Elem :=
  (E.info e).bind fun i => (zeroA E e).bind fun z => (guardO (Nat.beq z.cells.size i.size && Nat.blt 0 i.size && Nat.blt i.size tagT)).map fun _ => { size := i.size, bytes := i.bytes, zero := z.cells.toList, es := codeE i.size (Nat.succ e) }

noncomputable def buildSliceA (E : Env) (t : TypeId) (len : Nat) (parts : List (Nat × Value)) : M Value :=
  M.bind (M.lift ((E.und t).bind sliceT)) fun e => M.bind (M.lift (elemA E e)) fun i =>
  M.bind (M.guard (Nat.ble (len * i.size) 16777216)) fun _ =>
  M.bind (M.lift (fillA (fun k => some (k * i.size, i.size)) (repeats i.zero len) parts)) fun cs =>
  M.bind (M.fresh (.cells false i.es cs)) fun r => M.pure (.slice (some ⟨r, 0, none⟩) len len)

/-- A length that is in reach. -/
noncomputable def inReach (n bytes : Nat) : Bool := Nat.ble n 1000000000 && Nat.ble (n * bytes) 1000000000000

noncomputable def makeSliceA (E : Env) (t : TypeId) (l c : Value) : M Value :=
  M.bind (M.lift ((E.und t).bind sliceT)) fun e => M.bind (M.lift (elemA E e)) fun i => M.bind (M.lift (idx l)) fun l => M.bind (M.lift (idx c)) fun c =>
  M.bind (M.guard (Nat.ble l c && inReach c i.bytes)) fun _ =>
  M.bind (M.fresh (.cells false i.es (repeats i.zero c))) fun r => M.pure (.slice (some ⟨r, 0, none⟩) l c)

/-- The cells of a text. -/
noncomputable def bytesOf (s : ByteArray) : List Value := s.data.toList.map fun b => .int .u8 b.toNat

/-- The first cells of a slice. -/
noncomputable def readA (size : Nat) (a : Option Addr) (n : Nat) : M (List Value) :=
  match n with
  | 0 => M.pure []
  | n + 1 => M.bind (M.lift a) fun a => M.bind (M.row a.block) fun x => M.bind (M.lift (cellsR x)) fun cs => M.lift (piece cs a.off ((n + 1) * size))

/-- The first cells of what is cold. -/
noncomputable def readF (size : Nat) (x : Value) (n : Nat → Nat) : M (Nat × List Value) :=
  M.bind (M.lift (asFz x)) fun p => M.bind (M.guard (Nat.beq p.1 0)) fun _ => M.bind (M.guard (Nat.ble (n p.2.1) p.2.1)) fun _ => M.bind (M.lift (piece p.2.2 0 (n p.2.1 * size))) fun l => M.pure (n p.2.1, l)

/-- A token: what stands for something of which only some is known. -/
noncomputable def isTok : Value → Bool
  | .chan (some c) => Nat.ble 3802951800684688204490109616128 c
  | _ => false
/-- What is appended: a slice, a text, or so many zeros. -/
noncomputable def newCells (E : Env) (i : Elem) (zeros : Bool) (x : Value) : M (Nat × List Value) :=
  bif zeros then M.bind (M.lift (idx x)) fun n => M.bind (M.guard (inReach n i.bytes)) fun _ => M.pure (n, repeats i.zero n)
  else match x with
    | .slice a n _ => M.bind (readA i.size a n) fun l => M.pure (n, l)
    | .string s => M.bind (M.guard (Nat.beq i.size 1)) fun _ => M.pure (s.size, bytesOf s)
    | .chan (some c) => M.bind (M.guard (Nat.beq i.size 1 && isTok (.chan (some c)))) fun _ => M.bind (M.lift (E.askY (.chan (some c)))) fun l => M.pure (l.length, l)
    | x => readF i.size x fun n => n

noncomputable def isInt : TypeDesc → Bool
  | .int _ => true
  | _ => false

/-- In place. -/
noncomputable def appendIn (i : Elem) (base : Option Addr) (sLen sCap need : Nat) (l : List Value) : M Value :=
  match l with
  | [] => M.pure (.slice base need sCap)
  | _ :: _ => M.bind (M.lift base) fun a => M.bind (writeA a.block (a.off + sLen * i.size) l) fun _ => M.pure (.slice base need sCap)

/-- The row goes whose slice may be written to in place, beyond what is known of its capacity. -/
noncomputable def leaveA (i : Elem) (base : Option Addr) : M Nat :=
  match base with
  | some ⟨r, _, some _⟩ => M.bind (M.row r) fun x => M.bind (M.lift (ownR x)) fun ec => M.bind (M.guard (Nat.beq (sizeE ec.1) i.size)) fun _ => M.bind (M.turn r none) fun _ => M.pure (bif Nat.beq ec.1 i.es then i.es else i.size)
  | _ => M.pure i.es

/-- In new memory: a slice of a capacity that is not known bears its element's size as its spot. -/
noncomputable def appendNew (i : Elem) (base : Option Addr) (sLen need : Nat) (l : List Value) : M Value :=
  M.bind (M.guard (inReach need i.bytes)) fun _ => M.bind (readA i.size base sLen) fun old => M.bind (leaveA i base) fun es =>
  M.bind (M.fresh (.cells false es (old ++ l))) fun r => M.pure (.slice (some ⟨r, 0, some i.size⟩) need need)

noncomputable def appendA (E : Env) (sT xT : TypeId) (s x : Value) : M Value :=
  M.bind (M.lift ((E.und sT).bind sliceT)) fun e => M.bind (M.lift (elemA E e)) fun i => M.bind (M.lift (E.und xT)) fun d =>
  M.bind (M.lift (asSlice s)) fun b => M.bind (newCells E i (isInt d) x) fun nl => M.bind (M.guard (oneCells nl.2)) fun _ =>
  bif Nat.ble (b.2.1 + nl.1) b.2.2 then appendIn i b.1 b.2.1 b.2.2 (b.2.1 + nl.1) nl.2 else appendNew i b.1 b.2.1 (b.2.1 + nl.1) nl.2

/-- What is copied. -/
noncomputable def copied (i : Elem) (dLen : Nat) (x : Value) : M (Nat × List Value) :=
  match x with
  | .slice a n _ => M.bind (readA i.size a (min n dLen)) fun l => M.pure (min n dLen, l)
  | .string s => M.bind (M.guard (Nat.beq i.size 1)) fun _ => M.pure (min s.size dLen, (bytesOf s).take (min s.size dLen))
  | x => readF i.size x fun n => min n dLen

noncomputable def copyA (E : Env) (dT : TypeId) (d x : Value) : M Value :=
  M.bind (M.lift ((E.und dT).bind sliceT)) fun e => M.bind (M.lift (elemA E e)) fun i => M.bind (M.lift (asSlice d)) fun b =>
  M.bind (copied i b.2.1 x) fun kl =>
  match kl.2 with
  | [] => M.pure (.int .i64 kl.1)
  | _ :: _ => M.bind (M.lift b.1) fun a => M.bind (writeA a.block a.off kl.2) fun _ => M.pure (.int .i64 kl.1)

noncomputable def boundA (v : Option Value) (none : Nat) (most : Nat) : Option Nat :=
  match v with
  | Option.none => some none
  | some v => (idx v).bind fun n => (guardO (Nat.ble n most)).map fun _ => n

noncomputable def sliceStr (s : ByteArray) (lo hi mx : Option Value) : Option Value :=
  match mx with
  | some _ => none
  | none => (boundA hi s.size s.size).bind fun h => (boundA lo 0 h).map fun l => .string (s.extract l h)

/-- Low, high and most; most is told only where high is. -/
noncomputable def boundsA (len cap : Nat) (lo hi mx : Option Value) : Option (Nat × Nat × Nat) :=
  (boundA mx cap cap).bind fun m => (guardO (bif mx.isSome then hi.isSome else true)).bind fun _ => (boundA hi len m).bind fun h => (guardO (Nat.ble h m)).bind fun _ => (boundA lo 0 h).map fun l => (l, h, m)

/-- The place that a slice of a slice begins at. -/
noncomputable def moveA (size : Nat) (a : Addr) (l : Nat) (mx : Option Value) : Option Addr :=
  match mx with
  | some _ => some ⟨a.block, a.off + l * size, none⟩
  | none => match a.spot with
    | none => some ⟨a.block, a.off + l * size, none⟩
    | some es => (guardO (Nat.beq es size)).map fun _ => ⟨a.block, a.off + l * size, some es⟩
noncomputable def movedA (size : Nat) (a : Option Addr) (l : Nat) (mx : Option Value) : Option (Option Addr) :=
  match a with
  | none => some none
  | some a => (moveA size a l mx).map some

/-- Of what is cold: what may be had of it is only as long as it is. -/
noncomputable def sliceF (size : Nat) (p : Nat × Nat × List Value) (lo hi mx : Option Value) : Option Value :=
  (guardO (Nat.beq p.1 0)).bind fun _ => (boundsA p.2.1 p.2.1 lo hi mx).bind fun q => (piece p.2.2 (q.1 * size) ((q.2.1 - q.1) * size)).map fun l =>
    bif mx.isSome && Nat.beq q.2.2 q.1 then .slice (some ⟨0, 0, none⟩) 0 0 else fzs (q.2.1 - q.1) l
noncomputable def plainO : Option Value → Bool
  | none => true
  | some v => plain v
noncomputable def sliceA (E : Env) (t : TypeId) (x : Value) (lo hi mx : Option Value) : Option Value :=
  bif isTok x then (guardO (plainO lo && plainO hi && plainO mx)).bind fun _ => E.askS t x lo hi mx else
  (E.und t).bind fun d =>
  match d with
  | .string => (asStr x).bind fun s => sliceStr s lo hi mx
  | .slice e => (E.info e).bind fun i => match asFz x with
    | some p => sliceF i.size p lo hi mx
    | none => (asSlice x).bind fun b => (boundsA b.2.1 b.2.2 lo hi mx).bind fun q => (movedA i.size b.1 q.1 mx).map fun a =>
      .slice a (q.2.1 - q.1) (q.2.2 - q.1)
  | .array n e => (E.info e).bind fun i => (asRef x).bind fun p => (boundsA n n lo hi mx).map fun q =>
      .slice (some ⟨p.1, p.2 + q.1 * i.size, none⟩) (q.2.1 - q.1) (q.2.2 - q.1)
  | _ => none

noncomputable def fieldAddrA (E : Env) (s : TypeId) (a : Value) (f : Nat) : Option Value :=
  ((E.und s).bind structT).bind fun fs => fs[f]?.bind fun f => (E.info f.type).bind fun i => (guardO (Nat.blt 0 i.size)).bind fun _ => match asFz a with
    | some p => (guardO (Nat.beq p.1 1)).map fun _ => fzp (p.2.1 + f.offset) p.2.2
    | none => (asRef a).map fun p => .pointer (some ⟨p.1, p.2 + f.offset, none⟩)

noncomputable def fieldA (E : Env) (s : TypeId) (x : Value) (f : Nat) : Option Value :=
  ((E.und s).bind structT).bind fun fs => fs[f]?.bind fun f => (asAggA x).bind fun cs => partA E f.type cs f.offset

noncomputable def indexAddrA (E : Env) (t : TypeId) (x i : Value) : Option Value :=
  (E.und t).bind fun d => (idx i).bind fun k =>
  match d with
  | .slice e => (E.info e).bind fun inf => (match asFz x with
    | some p => (guardO (Nat.beq p.1 0 && Nat.blt k p.2.1)).map fun _ => fzp (k * inf.size) p.2.2
    | none => (asSlice x).bind fun b => (guardO (Nat.blt k b.2.1)).bind fun _ => b.1.map fun a =>
      .pointer (some ⟨a.block, a.off + k * inf.size, none⟩))
  | .array n e => (E.info e).bind fun inf => (asRef x).bind fun p => (guardO (Nat.blt k n)).map fun _ => .pointer (some ⟨p.1, p.2 + k * inf.size, none⟩)
  | _ => none

noncomputable def indexA (E : Env) (t : TypeId) (x i : Value) : Option Value :=
  (E.und t).bind fun d => (idx i).bind fun k =>
  match d with
  | .array n e => (E.info e).bind fun inf => (asAggA x).bind fun cs => (guardO (Nat.blt k n)).bind fun _ => partA E e cs (k * inf.size)
  | .string => (asStr x).bind fun s => s.data.toList[k]?.map fun b => .int .u8 b.toNat
  | _ => none

/-- Whether a value that may be nil is: 1 it is, 2 it is not, 0 another one. -/
noncomputable def nilish : Value → Nat
  | .pointer none | .slice none _ _ | .map none | .nilFunc | .nilIface => 1
  | .pointer (some _) | .slice (some _) _ _ | .map (some _) | .func _ _ _ | .iface _ _ => 2
  | _ => 0

noncomputable def nilT : TypeDesc → Value → Value → Bool
  | .pointer _, .pointer _, .pointer _ => true
  | .slice _, .slice _ _ _, .slice _ _ _ => true
  | .map _ _, .map _, .map _ => true
  | .func _ _ _, .nilFunc, .func (.func _) _ _ => true
  | .func _ _ _, .func (.func _) _ _, .nilFunc => true
  | .pointer _, .pointer none, .func (.yield 1) _ _ => true
  | .pointer _, .func (.yield 1) _ _, .pointer none => true
  | .slice _, .slice none _ _, .func (.yield 0) _ _ => true
  | .slice _, .func (.yield 0) _ _, .slice none _ _ => true
  | .interface _, .nilIface, .iface _ _ => true
  | .interface _, .iface _ _, .nilIface => true
  | _, _, _ => false

noncomputable def two63 : Nat := 9223372036854775808
/-- Integers as the kind holds them: the usual cases first. -/
noncomputable def wrapA (k : IntKind) (n : Int) : Int :=
  match k with
  | .i64 => (match n with
    | .ofNat m => bif Nat.blt m two63 then .ofNat m else k.wrap n
    | .negSucc m => bif Nat.blt m two63 then .negSucc m else k.wrap n)
  | _ => k.wrap n
noncomputable def ltA : Int → Int → Bool
  | .ofNat a, .ofNat b => Nat.blt a b
  | .ofNat _, .negSucc _ => false
  | .negSucc _, .ofNat _ => true
  | .negSucc a, .negSucc b => Nat.blt b a
noncomputable def eqA : Int → Int → Bool
  | .ofNat a, .ofNat b => Nat.beq a b
  | .negSucc a, .negSucc b => Nat.beq a b
  | _, _ => false
noncomputable def codeK : IntKind → Nat
  | .i8 => 0 | .i16 => 1 | .i32 => 2 | .i64 => 3 | .u8 => 4 | .u16 => 5 | .u32 => 6 | .u64 => 7
/-- Whole numbers of one kind. -/
noncomputable def intBinA (op : BinOp) (k : IntKind) (a b : Int) : Option Value :=
  match op with
  | .add => some (.int k (wrapA k (Int.add a b)))
  | .sub => some (.int k (wrapA k (Int.sub a b)))
  | .mul => some (.int k (wrapA k (Int.mul a b)))
  | .eql => some (.bool (eqA a b))
  | .neq => some (.bool (!eqA a b))
  | .lss => some (.bool (ltA a b))
  | .leq => some (.bool (!ltA b a))
  | .gtr => some (.bool (ltA b a))
  | .geq => some (.bool (!ltA a b))
  | _ => none
noncomputable def bytesEqA : List UInt8 → List UInt8 → Bool
  | [], [] => true
  | a :: x, b :: y => bif Nat.beq a.toNat b.toNat then bytesEqA x y else false
  | _, _ => false
noncomputable def strBinA (op : BinOp) (a b : ByteArray) : Option Value :=
  match op with
  | .eql => some (.bool (bytesEqA a.data.toList b.data.toList))
  | .neq => some (.bool (!bytesEqA a.data.toList b.data.toList))
  | _ => none
noncomputable def boolBinA (op : BinOp) (a b : Bool) : Option Value :=
  match op with
  | .eql => some (.bool (bif a then b else !b))
  | .neq => some (.bool (bif a then !b else b))
  | _ => none
/-- The rest, by the model's own words. -/
noncomputable def binPlainA (E : Env) (op : BinOp) (t : TypeId) (xo yo : Operand) (x y : Value) : Option Value :=
  pureRun E.P (do eqGuard op t xo yo x y; binOp op t x y)
noncomputable def nilOpA (op : BinOp) : Option Value :=
  match op with
  | .eql => some (.bool false)
  | .neq => some (.bool true)
  | _ => none
noncomputable def binSlowA (E : Env) (op : BinOp) (t : TypeId) (xo yo : Operand) (x y : Value) : Option Value :=
  bif plain x && plain y then (binPlainA E op t xo yo x y).bind fun v => (guardO (plain v)).map fun _ => v
  else (E.und t).bind fun d => (guardO (nilT d x y && Nat.beq (nilish x + nilish y) 3)).bind fun _ => nilOpA op
noncomputable def orA (o : Option Value) (m : Option Value) : Option Value :=
  match o with
  | some v => some v
  | none => m
/-- A number of which only this is known: what 255 leaves of it, divided by m, leaves k (stage 0); what it leaves itself (1); what the bits of m leave of it (2). -/
noncomputable def symM (c : Nat) : Nat := Nat.div (Nat.div c 3) 1024
noncomputable def symK (c : Nat) : Nat := Nat.mod (Nat.div c 3) 1024
noncomputable def symAt (stage m k : Nat) : Value := .chan (some (3 * (1024 * m + k) + stage))
noncomputable def symIn (op : BinOp) (c b : Nat) : Option Value :=
  match op with
  | .and => bif Nat.beq (Nat.mod c 3) 0 && Nat.beq b 255 then some (.chan (some (Nat.succ c))) else
      (bif Nat.beq (Nat.mod c 3) 2 && Nat.beq b (symM c) then some (.int .i64 (.ofNat (symK c))) else none)
  | .rem => bif Nat.beq (Nat.mod c 3) 1 && Nat.beq b (symM c) && Nat.blt 0 b then some (.int .i64 (.ofNat (symK c))) else none
  | _ => none
noncomputable def symBinA (op : BinOp) (c : Nat) (y : Value) : Option Value :=
  match y with
  | .int .i64 (.ofNat b) => symIn op c b
  | _ => none
noncomputable def tokish (v : Value) : Bool := bif isTok v then true else plain v
/-- Two addresses that are one. -/
noncomputable def ptrEqA (E : Env) (op : BinOp) (t : TypeId) (a b : Addr) : Option Value :=
  (E.und t).bind fun d => (match d with | .pointer te => E.info te | _ => none).bind fun _ =>
  (guardO (Nat.beq a.block b.block && Nat.beq a.off b.off && a.spot.isNone && b.spot.isNone)).bind fun _ =>
  match op with
  | .eql => some (.bool true)
  | .neq => some (.bool false)
  | _ => none
noncomputable def binOpA (E : Env) (op : BinOp) (t : TypeId) (xo yo : Operand) (x y : Value) : Option Value :=
  bif (bif isTok x then true else isTok y) then (guardO (tokish x && tokish y)).bind fun _ => E.ask op x y else
  match x with
  | .int k a => (match y with
    | .int k' b => bif Nat.beq (codeK k) (codeK k') then orA (intBinA op k a b) (binSlowA E op t xo yo x y) else binSlowA E op t xo yo x y
    | _ => binSlowA E op t xo yo x y)
  | .string a => (match y with
    | .string b => orA (strBinA op a b) (binSlowA E op t xo yo x y)
    | _ => binSlowA E op t xo yo x y)
  | .chan (some c) => symBinA op c y
  | .pointer (some a) => (match y with
    | .pointer (some b) => ptrEqA E op t a b
    | _ => binSlowA E op t xo yo x y)
  | _ => binSlowA E op t xo yo x y

noncomputable def bytesBack : List Value → Option (List UInt8)
  | [] => some []
  | .int .u8 n :: l => (bytesBack l).map (UInt8.ofNat n.toNat :: ·)
  | _ :: _ => none

/-- What stays plain. -/
noncomputable def plainly (o : Option Value) : Option Value := o.bind fun v => (guardO (plain v)).map fun _ => v

noncomputable def isString : TypeDesc → Bool
  | .string => true
  | _ => false
noncomputable def u8T (E : Env) (e : TypeId) : Option Unit := (E.und e).bind fun d => match d with | .int .u8 => some () | _ => none

/-- A text's bytes, in new memory; the capacity is not known. -/
noncomputable def bytesNew (E : Env) (dst : TypeDesc) (s : ByteArray) : M Value :=
  M.bind (M.lift (sliceT dst)) fun e => M.bind (M.lift (u8T E e)) fun _ => M.bind (M.fresh (.cells false (codeE 1 (Nat.succ e)) (bytesOf s))) fun r =>
  M.pure (.slice (some ⟨r, 0, some 1⟩) s.size s.size)
/-- Bytes as a text. -/
noncomputable def textOf (E : Env) (src : TypeDesc) (a : Option Addr) (n : Nat) : M Value :=
  M.bind (M.lift (sliceT src)) fun e => M.bind (M.lift (u8T E e)) fun _ => M.bind (readA 1 a n) fun l => M.bind (M.lift (bytesBack l)) fun b => M.pure (.string ⟨⟨b⟩⟩)
/-- Cold bytes as a text. -/
noncomputable def textF (E : Env) (src : TypeDesc) (x : Value) : M Value :=
  M.bind (M.lift (sliceT src)) fun e => M.bind (M.lift (u8T E e)) fun _ => M.bind (readF 1 x fun n => n) fun l => M.bind (M.lift (bytesBack l.2)) fun b => M.pure (.string ⟨⟨b⟩⟩)
/-- Bytes as bytes: they stay where they are, in a row of one's own; the model marks their block. -/
noncomputable def markA (E : Env) (src dst : TypeId) (dd : TypeDesc) (a : Option Addr) (n c : Nat) : M Value :=
  M.bind (M.guard (Nat.beq src dst && Nat.blt 0 c)) fun _ => M.bind (M.lift (sliceT dd)) fun e => M.bind (M.lift (u8T E e)) fun _ => M.bind (M.lift a) fun ad =>
  M.bind (M.row ad.block) fun x => M.bind (M.lift (ownR x)) fun _ => M.bind (M.turn ad.block (some x)) fun _ => M.pure (.slice (some ad) n c)
/-- An address as an unsafe.Pointer, and back: of a variable of one's own, or of a row's place. -/
noncomputable def toUnsafe (E : Env) (t : TypeId) (a : Addr) (cs : List Value) : Option Unit :=
  (E.info t).bind fun i => guardO (Nat.blt 0 i.size && Nat.blt a.off cs.length)
noncomputable def ofUnsafe (E : Env) (u : TypeId) (a : Addr) (es : Nat) (cs : List Value) : Option Unit :=
  (E.info u).bind fun i => guardO (Nat.beq es (codeE 0 (Nat.succ u)) && Nat.beq a.off 0 && Nat.blt 0 i.size && Nat.ble i.size cs.length)
noncomputable def ptrT (sd dd : TypeDesc) : Option (Bool × TypeId) :=
  match sd, dd with
  | .pointer t, .unsafePointer => some (true, t)
  | .unsafePointer, .pointer u => some (false, u)
  | _, _ => none
noncomputable def ptrA (E : Env) (sd dd : TypeDesc) (a : Addr) : M Value :=
  M.bind (M.lift (ptrT sd dd)) fun k => M.bind (M.row a.block) fun x => M.bind (M.lift (ownR x)) fun ec => M.bind (M.guard a.spot.isNone) fun _ =>
  M.bind (M.lift (bif k.1 then toUnsafe E k.2 a ec.2 else ofUnsafe E k.2 a ec.1 ec.2)) fun _ => M.pure (.pointer (some a))
noncomputable def convertA (E : Env) (src dst : TypeId) (x : Value) : M Value :=
  bif isTok x then M.lift (E.askC src dst x) else
  M.bind (M.lift (E.und src)) fun sd => M.bind (M.lift (E.und dst)) fun dd =>
  match x with
  | .pointer (some a) => ptrA E sd dd a
  | .string s => bif isString dd then M.pure (.string s) else bytesNew E dd s
  | .slice a n c => bif isString dd then textOf E sd a n else markA E src dst dd a n c
  | x => bif plain x then M.lift (plainly (pureRun E.P (convert src dst x))) else M.bind (M.guard (isString dd)) fun _ => textF E sd x

noncomputable def lenA (E : Env) (t : TypeId) (x : Value) : M Value :=
  bif isTok x then M.lift (E.askLen t x) else
  M.bind (M.lift (E.und t)) fun d =>
  match d with
  | .string => M.bind (M.lift (asStr x)) fun s => M.pure (.int .i64 s.size)
  | .slice _ => (match asFz x with
    | some p => M.bind (M.guard (Nat.beq p.1 0)) fun _ => M.pure (.int .i64 p.2.1)
    | none => M.bind (M.lift (asSlice x)) fun b => M.pure (.int .i64 b.2.1))
  | .array n _ => M.pure (.int .i64 n)
  | .map _ _ => (match x with
    | .map none => M.pure (.int .i64 0)
    | .map (some r) => M.bind (M.row r) fun x => (match x with | .map es _ => M.pure (.int .i64 es.length) | _ => M.fail)
    | _ => M.fail)
  | _ => M.fail

noncomputable def exactCap : Option Addr → Bool
  | some a => a.spot.isNone
  | none => true
noncomputable def capA (E : Env) (t : TypeId) (x : Value) : Option Value :=
  ((E.und t).bind sliceT).bind fun _ => (asSlice x).bind fun b => (guardO (exactCap b.1)).map fun _ => .int .i64 b.2.2

/-- clear, of a slice. -/
noncomputable def clearA (E : Env) (t : TypeId) (x : Value) : M Value :=
  M.bind (M.lift ((E.und t).bind sliceT)) fun e => M.bind (M.lift (elemA E e)) fun i => M.bind (M.lift (asSlice x)) fun b =>
  match b.2.1 with
  | 0 => M.pure (.tuple #[])
  | n + 1 => M.bind (M.lift b.1) fun a => M.bind (writeA a.block a.off (repeats i.zero (n + 1))) fun _ => M.pure (.tuple #[])

/-! Maps: keys are plain. -/
noncomputable def mapKE : TypeDesc → Option (TypeId × TypeId)
  | .map k e => some (k, e)
  | _ => none
noncomputable def keysOf (es : List MapEntry) : List MapEntry := es.map fun e => ⟨e.key, .bool false, e.born⟩
noncomputable def entriesOf : Row → Option (List MapEntry × Nat)
  | .map es c => some (es, c)
  | _ => none
noncomputable def entriesA (x : Value) : M (List MapEntry) :=
  match x with
  | .map none => M.pure []
  | .map (some r) => M.bind (M.row r) fun x => M.bind (M.lift (entriesOf x)) fun p => M.pure p.1
  | _ => M.fail
noncomputable def findA (E : Env) (empty : Bool) (kt : TypeId) (k : Value) (es : List MapEntry) : Option (Option (Nat × Value)) :=
  (guardO (plain k)).bind fun _ => (pureRun E.P (Instr.checkKey empty 10000 kt k)).bind fun _ => pureRun E.P (Instr.findKey kt k (keysOf es))
noncomputable def tupA (commaOk : Bool) (v : Value) (ok : Bool) : Value := bif commaOk then .tuple #[v, .bool ok] else v
noncomputable def lookupA (E : Env) (t : TypeId) (x i : Value) (commaOk : Bool) : M Value :=
  M.bind (M.lift ((E.und t).bind mapKE)) fun ke => M.bind (entriesA x) fun es => M.bind (M.lift (findA E es.isEmpty ke.1 i es)) fun f =>
  match f with
  | some p => M.bind (M.lift (es[p.1]?)) fun e => M.pure (tupA commaOk e.val true)
  | none => M.bind (M.lift (zeroA E ke.2)) fun z => M.pure (tupA commaOk z false)
noncomputable def updateA (E : Env) (t : TypeId) (m k v : Value) : M Unit :=
  match m with
  | .map (some r) => M.bind (M.lift ((E.und t).bind mapKE)) fun ke => M.bind (M.row r) fun x => M.bind (M.lift (entriesOf x)) fun p => M.bind (M.lift (findA E false ke.1 k p.1)) fun f =>
    match f with
    | some q => M.bind (M.lift (p.1[q.1]?)) fun e => M.bind (M.guard (Instr.sameBits 10000 e.key k)) fun _ => M.turn r (some (.map (p.1.modify q.1 fun e => { e with key := k, val := v }) p.2))
    | none => M.turn r (some (.map (p.1 ++ [⟨k, v, p.2⟩]) (Nat.succ p.2)))
  | _ => M.fail
noncomputable def deleteA (E : Env) (t : TypeId) (m k : Value) : M Value :=
  match m with
  | .map (some r) => M.bind (M.lift ((E.und t).bind mapKE)) fun ke => M.bind (M.row r) fun x => M.bind (M.lift (entriesOf x)) fun p => M.bind (M.lift (findA E p.1.isEmpty ke.1 k p.1)) fun f =>
    match f with
    | some q => M.bind (M.turn r (some (.map (p.1.eraseIdx q.1) p.2))) fun _ => M.pure (.tuple #[])
    | none => M.bind (M.turn r (some (.map p.1 p.2))) fun _ => M.pure (.tuple #[])
  | _ => M.fail

inductive Nx where
  | value (v : Value)
  | skip
  | enter (f : FuncId) (args : List Value)
  | known (f : FuncId) (args : List Value) (v : Value)

noncomputable def asV (m : M Value) : M Nx := M.bind m fun x => M.pure (.value x)
noncomputable def asU (m : M Unit) : M Nx := M.bind m fun _ => M.pure .skip

/-- A builtin with one argument, or two. -/
noncomputable def one (f : TypeId → Value → M Value) (ts : List TypeId) (args : List Value) : M Value :=
  match ts with
  | t :: _ => (match args with | x :: _ => f t x | [] => M.fail)
  | [] => M.fail
noncomputable def two (f : TypeId → TypeId → Value → Value → M Value) (ts : List TypeId) (args : List Value) : M Value :=
  match ts with
  | t :: u :: _ => (match args with | x :: y :: _ => f t u x y | _ => M.fail)
  | _ => M.fail
/-- unsafe.SliceData of a slice with room, or of nil; unsafe.String over the head of a row of one's own, which is not written any more. -/
noncomputable def sliceDataA (args : List Value) : Option Value :=
  match args with
  | [.slice none _ _] => some (.pointer none)
  | [.slice (some a) _ (_ + 1)] => some (.pointer (some ⟨a.block, a.off, none⟩))
  | _ => none
noncomputable def pointerT : TypeDesc → Option TypeId
  | .pointer e => some e
  | _ => none
noncomputable def textB (E : Env) (l : List Value) : Option Value :=
  match bytesBack l with
  | some b => some (.string ⟨⟨b⟩⟩)
  | none => E.askB l
noncomputable def stringAt (E : Env) (t : TypeId) (a : Addr) (n : Nat) : M Value :=
  M.bind (M.lift ((E.und t).bind pointerT)) fun e => M.bind (M.lift (u8T E e)) fun _ => M.bind (M.lift (E.info e)) fun i => M.bind (M.row a.block) fun x => M.bind (M.lift (ownR x)) fun ec =>
  M.bind (M.guard (Nat.beq ec.1 (codeE 1 (Nat.succ e)) && Nat.beq i.size 1 && Nat.beq a.off 0 && a.spot.isNone && Nat.blt n two63)) fun _ =>
  M.bind (M.lift (piece ec.2 0 n)) fun l => M.bind (M.lift (textB E l)) fun v => M.bind (M.turn a.block (some (.cells true ec.1 ec.2))) fun _ => M.pure v
noncomputable def unsafeStringA (E : Env) (ts : List TypeId) (args : List Value) : M Value :=
  match args with
  | [.pointer (some a), .int .i64 (.ofNat (n + 1))] => (match ts with
    | t :: _ => stringAt E t a (n + 1)
    | [] => M.fail)
  | [.pointer none, .int .i64 (.ofNat 0)] => (match ts with
    | _ :: _ => M.pure (.string .empty)
    | [] => M.fail)
  | _ => M.fail
noncomputable def builtinA (E : Env) (b : Builtin) (ts : Array TypeId) (type : TypeId) (args : List Value) : M Value :=
  match b with
  | .append => two (appendA E) ts.toList args
  | .copy => two (fun t _ => copyA E t) ts.toList args
  | .len => one (lenA E) ts.toList args
  | .cap => one (fun t x => M.lift (capA E t x)) ts.toList args
  | .clear => one (clearA E) ts.toList args
  | .delete => two (fun t _ => deleteA E t) ts.toList args
  | .max => M.bind (M.guard (plains args)) fun _ => M.lift (plainly (pureRun E.P (Builtin.max_ ts type ⟨args⟩)))
  | .min => M.bind (M.guard (plains args)) fun _ => M.lift (plainly (pureRun E.P (Builtin.min_ ts type ⟨args⟩)))
  | .unsafeSliceData => M.lift (sliceDataA args)
  | .unsafeString => unsafeStringA E ts.toList args
  | _ => M.fail

/-- A call: of what is known beforehand, or of a body. -/
noncomputable def callA (E : Env) (f : FuncId) (args : List Value) : M Nx :=
  match E.ext f with
  | some e => M.bind (M.guard (plains args)) fun _ => M.bind (M.lift (e args)) fun v => M.pure (.known f args v)
  | none => match (E.kt f).bind fun e => e args with
    | some v => M.pure (.known f args v)
    | none => M.bind (M.lift (E.fn f)) fun _ => M.pure (.enter f args)

noncomputable def asIter : Row → Option (ByteArray × Nat)
  | .iter s pos => some (s, pos)
  | _ => none
noncomputable def nextA (it : Value) (isString : Bool) : M Value :=
  M.bind (M.guard isString) fun _ => M.bind (M.lift (asRef it)) fun p => M.bind (M.guard (Nat.beq p.2 0)) fun _ => M.bind (M.row p.1) fun x => M.bind (M.lift (asIter x)) fun sp =>
  bif Nat.blt sp.2 sp.1.size then
    M.bind (M.turn p.1 (some (.iter sp.1 (sp.2 + (Utf8.decode sp.1 sp.2).2)))) fun _ =>
    M.pure (.tuple #[.bool true, .int .i64 sp.2, .int .i32 (Utf8.decode sp.1 sp.2).1])
  else M.pure (.tuple #[.bool false])

noncomputable def pickA (c a b : Value) : Option Value :=
  match c with
  | .bool t => some (bif t then a else b)
  | _ => none
noncomputable def allocA (E : Env) (t : TypeId) : M Value := M.bind (M.lift (zeroA E t)) fun z => newA (codeE 0 (Nat.succ t)) z.cells.toList
noncomputable def nilCheckA (x : Value) : Option Value :=
  match x with
  | .pointer (some a) => some (.pointer (some a))
  | .func (.func f) a b => some (.func (.func f) a b)
  | .func (.yield 0) a b => some (.func (.yield 0) a b)
  | .func (.yield 1) a b => some (.func (.yield 1) a b)
  | .iface t x => some (.iface t x)
  | .slice a n c => some (.slice a n c)
  | .map r => some (.map r)
  | _ => none
noncomputable def unOpA (E : Env) (op : UnOp) (x : Value) : Option Value :=
  (guardO (plain x)).bind fun _ => plainly (pureRun E.P (Op.unary op x))
noncomputable def makeInterfaceA (E : Env) (t : TypeId) (x : Value) : Option Value :=
  (E.und t).bind fun d =>
  match d with
  | .interface _ => none
  | _ => some (.iface t x)
noncomputable def extractA (x : Value) (i : Nat) : Option Value :=
  match x with
  | .tuple vs => vs.toList[i]?
  | _ => none
noncomputable def rangeA (E : Env) (t : TypeId) (x : Value) : M Value :=
  M.bind (M.lift (E.und t)) fun d => M.bind (M.guard (isString d)) fun _ => M.bind (M.lift (asStr x)) fun s =>
  M.bind (M.fresh (.iter s 0)) fun r => M.pure (.pointer (some ⟨r, 0, none⟩))
noncomputable def opCallA (E : Env) (ρ : Operand → Value) (c : Call) (type : TypeId) : M Nx :=
  match c.callee with
  | .builtin b => asV (builtinA E b c.argTypes type (c.args.toList.map ρ))
  | .value f => M.bind (M.lift (asFunc (ρ f))) fun p => callA E p.1 (p.2.1 ++ (c.args.toList.map ρ ++ p.2.2))
  | .invoke _ _ => M.fail
noncomputable def parts (ρ : Operand → Value) (ps : Array (Nat × Operand)) : List (Nat × Value) := ps.toList.map fun p => (p.1, ρ p.2)

/-- What an operation answers that looks at no memory. -/
noncomputable def valueA (E : Env) (ρ : Operand → Value) (o : Op) : Option Value :=
  match o with
  | .move x => some (ρ x)
  | .assign x => some (ρ x)
  | .pick c a b => pickA (ρ c) (ρ a) (ρ b)
  | .build t ps => buildA E t (parts ρ ps)
  | .nilCheck x => nilCheckA (ρ x)
  | .binOp op t x y _ => binOpA E op t x y (ρ x) (ρ y)
  | .unOp op _ x => unOpA E op (ρ x)
  | .makeInterface t x => makeInterfaceA E t (ρ x)
  | .makeFunc fn first captured => (match fn with
    | .func f => some (.func (.func f) (first.map ρ) (captured.map ρ))
    | _ => none)
  | .slice t x lo hi mx => sliceA E t (ρ x) (lo.map ρ) (hi.map ρ) (mx.map ρ)
  | .fieldAddr s x f => fieldAddrA E s (ρ x) f
  | .field t x f => fieldA E t (ρ x) f
  | .indexAddr t x i => indexAddrA E t (ρ x) (ρ i)
  | .index t x i => indexA E t (ρ x) (ρ i)
  | .extract x i => extractA (ρ x) i
  | _ => none

noncomputable def execA (E : Env) (ρ : Operand → Value) (o : Oper) : M Nx :=
  match o.op with
  | .alloc t => asV (allocA E t)
  | .box _ x => bif isJunk (ρ x) then M.fail else asV (newA 0 (ρ x).cells.toList)
  | .buildSlice t len ps => asV (buildSliceA E t len (parts ρ ps))
  | .load t a => asV (loadA E t (ρ a))
  | .store t a x => asU (storeA E t (ρ a) (ρ x))
  | .convert s d x => asV (convertA E s d (ρ x))
  | .makeSlice t l c => asV (makeSliceA E t (ρ l) (ρ c))
  | .range t x => asV (rangeA E t (ρ x))
  | .next it isString => asV (nextA (ρ it) isString)
  | .makeMap _ none => asV (M.bind (M.fresh (.map [] 0)) fun r => M.pure (.map (some r)))
  | .lookup t x i c => asV (lookupA E t (ρ x) (ρ i) c)
  | .mapUpdate t m k v => asU (updateA E t (ρ m) (ρ k) (ρ v))
  | .call c => opCallA E ρ c o.type
  | _ => asV (M.lift (valueA E ρ o.op))

/-- Whether an operation is wanted, by its guard. -/
noncomputable def wantedA (ops : Array Oper) (fr : Fr) (o : Oper) : Bool :=
  match o.guard with
  | none => true
  | some (j, want) => match ops[j]? with
    | some g => match g.dst with
      | some d => match fr.get d with
        | .bool b => bif want then b else !b
        | _ => false
      | none => false
    | none => false

/-- What is not to be asked whether it is true. -/
noncomputable def darkV (v : Value) : Bool := bif isJunk v then true else isTok v
/-- Whether the guard is known. -/
noncomputable def sureA (ops : Array Oper) (fr : Fr) (o : Oper) : Bool :=
  match o.guard with
  | none => true
  | some (j, _) => match ops[j]? with
    | some g => match g.dst with
      | some d => !darkV (fr.get d)
      | none => true
    | none => true

noncomputable def evOp (E : Env) (call : FuncId → List Value → M Value) (ops : Array Oper) (o : Oper) (fr : Fr) : M Fr :=
  bif !sureA ops fr o then M.fail else bif wantedA ops fr o then
    M.bind (execA E fr.eval o) fun nx => match nx with
      | .value v => fr.dst o.dst v
      | .skip => fr.dst o.dst undef
      | .known _ _ v => fr.dst o.dst v
      | .enter f args => M.bind (call f args) fun v => fr.dst o.dst v
  else fr.dst o.dst undef

noncomputable def evOps (E : Env) (call : FuncId → List Value → M Value) (ops : Array Oper) : List Oper → Fr → M Fr
  | [], fr => M.pure fr
  | o :: l, fr => M.bind (evOp E call ops o fr) fun fr => evOps E call ops l fr

noncomputable def meets : List Nat → List Nat → Bool
  | [], _ => false
  | x :: l, k => bif k.any (Nat.beq x) then true else meets l k

noncomputable def hasIn (lo hi : Nat) : List Nat → Bool
  | [] => false
  | x :: l => bif Nat.ble lo x && Nat.blt x hi then true else hasIn lo hi l

/-- Whether the later one might tell whether the earlier one was done. -/
noncomputable def clash (a b : Did) : Bool :=
  bif meets a.wlog b.log then true else bif meets b.wlog a.log then true else bif Nat.beq a.lo a.hi then false else hasIn a.lo a.hi b.log

noncomputable def ordered (before : Array Nat) (i j : Nat) : Bool := (before.getD j 0).testBit i

noncomputable def settled (before : Array Nat) (j : Nat) (b : Did) : List (Nat × Did) → Bool
  | [] => true
  | a :: l => bif clash a.2 b then (bif ordered before a.1 j then settled before j b l else false) else settled before j b l

/-- What need be kept of what was done. -/
noncomputable def keep (i : Nat) (d : Did) (ds : List (Nat × Did)) : List (Nat × Did) :=
  match d.log with
  | [] => bif Nat.beq d.lo d.hi then ds else (i, d) :: ds
  | _ => (i, d) :: ds

noncomputable def evDraw (E : Env) (call : FuncId → List Value → M Value) (ops : Array Oper) (before : Array Nat) : List Oper → Nat → List (Nat × Did) → Fr → M Fr
  | [], _, _, fr => M.pure fr
  | o :: l, i, ds, fr => M.bind (M.watch (evOp E call ops o fr)) fun r =>
    bif settled before i r.2 ds then evDraw E call ops before l (Nat.succ i) (keep i r.2 ds) r.1 else M.fail

inductive X where
  | normal
  | exit (id : Nat)
  | ret

noncomputable def resA (E : Env) (fr : Fr) : ResultVar → M Value
  | .tmp t => M.pure (fr.get t)
  | .cell a t => loadA E t (fr.get a)

noncomputable def resultsA (E : Env) (fr : Fr) : List ResultVar → M (List Value)
  | [] => M.pure []
  | r :: l => M.bind (resA E fr r) fun v => M.bind (resultsA E fr l) fun vs => M.pure (v :: vs)

noncomputable def oneOf : List Value → Value
  | [v] => v
  | vs => .tuple ⟨vs⟩

/-- One behind the other. -/
noncomputable def M.mapL {α β : Type} (f : α → M β) : List α → M (List β)
  | [] => M.pure []
  | a :: l => M.bind (f a) fun b => M.bind (M.mapL f l) fun bs => M.pure (b :: bs)
noncomputable def cellsE : Row → Option (Nat × List Value)
  | .cells _ es cs => some (es, cs)
  | _ => none
/-- A row that is not written any more. -/
noncomputable def coolRow (r : Nat) (x : Row) : M Unit :=
  match x with
  | .cells false es cs => M.turn r (some (.cells true es cs))
  | _ => M.pure ()
/-- What is handed on becomes cold: what it reaches is not written any more. -/
noncomputable def coolN : Nat → Value → M Value
  | 0, _ => M.fail
  | k + 1, v => match v with
    | .slice (some a) (n + 1) c => M.bind (M.guard (Nat.blt n c)) fun _ => M.bind (M.row a.block) fun x => M.bind (M.lift (cellsE x)) fun ec => M.bind (M.guard (Nat.blt 0 (sizeE ec.1))) fun _ =>
        M.bind (M.lift (piece ec.2 a.off ((n + 1) * sizeE ec.1))) fun l => M.bind (coolRow a.block x) fun _ => M.bind (M.mapL (coolN k) l) fun ds => M.pure (fzs (n + 1) ds)
    | .slice (some _) 0 _ => M.pure (fzs 0 [])
    | .agg cs => M.bind (M.mapL (coolN k) cs.toList) fun ds => M.pure (.agg ⟨ds⟩)
    | v => bif plain v then M.pure v else (match asFz v with | some _ => M.pure v | none => M.fail)

noncomputable def freshes : List (Nat × List Value) → M Unit
  | [] => M.pure ()
  | x :: l => M.bind (M.fresh (.cells false x.1 x.2)) fun _ => freshes l
noncomputable def M.nextId : M Nat := fun s => some (s.next, s)
noncomputable def optL {α β : Type} (f : α → Option β) : List α → Option (List β)
  | [] => some []
  | a :: l => (f a).bind fun b => (optL f l).map fun bs => b :: bs
/-- What has names of its own, at others. -/
noncomputable def shiftN (g : Nat → Option Nat) : Nat → Value → Option Value
  | 0, _ => none
  | k + 1, v => match v with
    | .slice (some ⟨r, off, spot⟩) n c => (g r).map fun q => .slice (some ⟨q, off, spot⟩) n c
    | .agg cs => (optL (shiftN g k) cs.toList).map fun l => .agg ⟨l⟩
    | .tuple cs => (optL (shiftN g k) cs.toList).map fun l => .tuple ⟨l⟩
    | v => bif plain v then some v else (match asFz v with | some _ => some v | none => none)
/-- What a call answers whose answer is known. -/
noncomputable def coldB (v : Value) : Bool := bif plain v then true else (asFz v).isSome
noncomputable def coldsB : List Value → Bool
  | [] => true
  | v :: l => bif coldB v then coldsB l else false
noncomputable def coldRows : List (Nat × List Value) → Bool
  | [] => true
  | x :: l => bif coldsB x.2 then coldRows l else false
noncomputable def knownF (F : List Value → Option (Value × List (Nat × List Value))) (args : List Value) : M Value :=
  M.within (M.bind (M.mapL (coolN 8) args) fun ds => M.bind (M.lift (F ds)) fun r => M.bind (M.guard (coldRows r.2)) fun _ =>
    M.bind M.nextId fun b => M.bind (freshes r.2) fun _ => M.lift (shiftN (fun r => some (Nat.add b r)) 3 r.1))
noncomputable def oneV : List Value → Option Value
  | [x] => some x
  | _ => none
noncomputable def noneV : List Value → Bool
  | [] => true
  | _ => false
noncomputable def in64 : Int → Bool
  | .ofNat m => Nat.blt m two63
  | .negSucc m => Nat.blt m two63
noncomputable def keyI : Value → Option Int
  | .int .i64 n => (guardO (in64 n)).map fun _ => n
  | _ => none
noncomputable def keysI : List MapEntry → Option (List Int)
  | [] => some []
  | e :: l => (keyI e.key).bind fun n => (keysI l).map fun r => n :: r
noncomputable def insI (x : Int) : List Int → List Int
  | [] => [x]
  | y :: l => bif ltA x y then x :: y :: l else y :: insI x l
noncomputable def sortI : List Int → List Int
  | [] => []
  | x :: l => insI x (sortI l)
noncomputable def risesI : List Int → Bool
  | [] => true
  | x :: l => (match l with | [] => true | y :: _ => ltA x y) && risesI l
noncomputable def risesE (clock : Nat) : List MapEntry → Bool
  | [] => true
  | e :: l => (match l with | [] => Nat.blt e.born clock | f :: _ => Nat.blt e.born f.born) && risesE clock l
noncomputable def mapR : Row → Option (List MapEntry × Nat)
  | .map es c => some (es, c)
  | _ => none
noncomputable def asMap : Value → Option Nat
  | .map (some r) => some r
  | _ => none
/-- The keys of the map that a closure holds, sorted, in new memory. -/
noncomputable def sortedA (g : FuncId) (args : List Value) : M Value :=
  M.bind (M.lift (oneV args)) fun x => M.bind (M.lift (asFunc x)) fun p => M.bind (M.guard (Nat.beq p.1 g && noneV p.2.1)) fun _ =>
  M.bind (M.lift (oneV p.2.2)) fun a => M.bind (M.lift (asRef a)) fun q => M.bind (M.guard (Nat.beq q.2 0)) fun _ => M.bind (M.row q.1) fun x => M.bind (M.lift (ownR x)) fun ec => M.bind (M.guard (Nat.beq (sizeE ec.1) 0)) fun _ =>
  M.bind (M.lift (ec.2[0]?)) fun mv => M.bind (M.lift (asMap mv)) fun r => M.bind (M.row r) fun y => M.bind (M.lift (mapR y)) fun ek =>
  M.bind (M.lift (keysI ek.1)) fun ks => M.bind (M.guard (risesI (sortI ks) && risesE ek.2 ek.1 && Nat.ble ks.length 1000)) fun _ =>
  match sortI ks with
  | [] => M.pure (.slice none 0 0)
  | n :: l => M.bind (M.fresh (.cells false 1 ((n :: l).map (Value.int .i64)))) fun r => M.pure (.slice (some ⟨r, 0, some 1⟩) (n :: l).length (n :: l).length)
/-- What slices hold. -/
noncomputable def peekA (size : Nat) (v : Value) : M (List Value) :=
  M.bind (M.lift (asSlice v)) fun b => readA size b.1 b.2.1
noncomputable def peeksA (size : Nat) (F : List (List Value) → Option Value) (args : List Value) : M Value :=
  M.bind (M.mapL (peekA size) args) fun ls => M.bind (M.lift (F ls)) fun v => M.bind (M.guard (plain v)) fun _ => M.pure v
noncomputable def callF (E : Env) (ev : Code → Fr → M (X × Fr)) (f : FuncId) (args : List Value) : M Value :=
  match E.dk f with
  | some F => knownF F args
  | none => match E.sk f with
  | some g => M.within (sortedA g args)
  | none => match E.pk f with
  | some p => M.within (peeksA p.1 p.2 args)
  | none => M.within (match E.fn f with
    | some fn => match fn.body with
      | some c => bif Nat.ble (max fn.ntmps args.length) 1024 then
          M.bind (ev c (Fr.init fn.ntmps args)) fun r => match r.1 with
          | .exit _ => M.fail
          | _ => M.bind (resultsA E r.2 fn.results.toList) fun vs => M.pure (oneOf vs)
        else M.fail
      | none => M.fail
    | none => M.fail)

noncomputable def ev (E : Env) : Nat → Code → Fr → M (X × Fr)
  | 0, _, _ => M.fail
  | n + 1, c, fr => match c with
    | .skip => M.pure (.normal, fr)
    | .region _ ops draw => bif draw
        then M.bind (evDraw E (callF E (ev E n)) ops (Region.before ops) ops.toList 0 [] fr) fun fr => M.pure (.normal, fr)
        else M.bind (evOps E (callF E (ev E n)) ops ops.toList fr) fun fr => M.pure (.normal, fr)
    | .seq a b => M.bind (ev E n a fr) fun r => match r.1 with
      | .normal => ev E n b r.2
      | x => M.pure (x, r.2)
    | .cond c a b => match fr.eval c with
      | .bool t => bif t then ev E n a fr else ev E n b fr
      | _ => M.fail
    | .block id c => M.bind (ev E n c fr) fun r => match r.1 with
      | .exit k => bif Nat.beq k id then M.pure (.normal, r.2) else M.pure (.exit k, r.2)
      | x => M.pure (x, r.2)
    | .loop c => M.bind (ev E n c fr) fun r => match r.1 with
      | .normal => ev E n (.loop c) r.2
      | x => M.pure (x, r.2)
    | .exit id => M.pure (.exit id, fr)
    | .scope c => ev E n c fr
    | .label _ => M.pure (.normal, fr)
    | .ret => M.pure (.ret, fr)
    | _ => M.fail

/-- A call from a state on. -/
noncomputable def run (E : Env) (n : Nat) (f : FuncId) (args : List Value) (s : St) : Option (Value × St) := callF E (ev E n) f args s

/-- Nothing yet. -/
noncomputable def St.empty (next : Nat) : St := { rows := .leaf, next := next, log := [], wlog := [] }

/-- Whether a call answers true. -/
noncomputable def yes (E : Env) (n : Nat) (f : FuncId) (args : List Value) (next : Nat) : Bool :=
  match run E n f args (St.empty next) with
  | some (.bool b, _) => b
  | _ => false

end Go.Cm
