/-
  A deterministic machine beside the model's: it runs the model's code over rows of cells with names of its own, and stops where the answer might hang on an order, a capacity or an address. Definitions only. The trees of names and of slots: what is put is got. What a piece of the machine touches is all that it hangs on ('Loc'). What a piece of the machine touches is all that it hangs on: 'Loc', piece by piece.
-/
import Derived.Orders
import Derived.Scope
namespace Go.Cm
open Go

/-- A map from numbers: a tree over their binary digits. -/
inductive T (α : Type) where
  | leaf : T α
  | node : T α → Option α → T α → T α

noncomputable def T.get {α : Type} (t : T α) (n : Nat) : Option α :=
  T.rec (motive := fun _ => Nat → Option α) (fun _ => none) (fun _ v _ gl gr n => Bool.rec (Bool.rec (gr (Nat.pred (Nat.div n 2))) (gl (Nat.div n 2)) (Nat.beq (Nat.mod n 2) 1)) v (Nat.beq n 0)) t n

noncomputable def T.put {α : Type} (x : Option α) (k : Nat) (t : T α) (n : Nat) : T α :=
  Nat.rec (motive := fun _ => T α → Nat → T α) (fun t _ => t) (fun _ ih t n => T.rec (motive := fun _ => T α)
    (Bool.rec (Bool.rec (.node .leaf none (ih .leaf (Nat.pred (Nat.div n 2)))) (.node (ih .leaf (Nat.div n 2)) none .leaf) (Nat.beq (Nat.mod n 2) 1)) (.node .leaf x .leaf) (Nat.beq n 0))
    (fun l v r _ _ => Bool.rec (Bool.rec (.node l v (ih r (Nat.pred (Nat.div n 2)))) (.node (ih l (Nat.div n 2)) v r) (Nat.beq (Nat.mod n 2) 1)) (.node l x r) (Nat.beq n 0)) t) k t n

/-- A map from numbers, four ways at each step: names' rows. -/
inductive D (α : Type) where
  | leaf : D α
  | node : Option α → D α → D α → D α → D α → D α

noncomputable def pick4 {β : Type} (j : Nat) (a b c d : β) : β :=
  Nat.rec (motive := fun _ => β) a (fun j _ => Nat.rec (motive := fun _ => β) b (fun j _ => Nat.rec (motive := fun _ => β) c (fun _ _ => d) j) j) j
noncomputable def D.get {α : Type} (t : D α) (n : Nat) : Option α :=
  D.rec (motive := fun _ => Nat → Option α) (fun _ => none) (fun v _ _ _ _ ga gb gc gd n => Nat.rec (motive := fun _ => Option α) v (fun m _ => pick4 (Nat.mod m 4) ga gb gc gd (Nat.div m 4)) n) t n
noncomputable def D.put {α : Type} (x : Option α) (k : Nat) (t : D α) (n : Nat) : D α :=
  Nat.rec (motive := fun _ => D α → Nat → D α) (fun t _ => t) (fun _ ih t n => D.rec (motive := fun _ => D α)
    (Nat.rec (motive := fun _ => D α) (.node x .leaf .leaf .leaf .leaf) (fun m _ => pick4 (Nat.mod m 4) (.node none (ih .leaf (Nat.div m 4)) .leaf .leaf .leaf) (.node none .leaf (ih .leaf (Nat.div m 4)) .leaf .leaf) (.node none .leaf .leaf (ih .leaf (Nat.div m 4)) .leaf) (.node none .leaf .leaf .leaf (ih .leaf (Nat.div m 4)))) n)
    (fun v a b c d _ _ _ _ => Nat.rec (motive := fun _ => D α) (.node x a b c d) (fun m _ => pick4 (Nat.mod m 4) (.node v (ih a (Nat.div m 4)) b c d) (.node v a (ih b (Nat.div m 4)) c d) (.node v a b (ih c (Nat.div m 4)) d) (.node v a b c (ih d (Nat.div m 4)))) n) t) k t n

/-- What has a name: a row of cells (never written where 'ro'; 'es': cells an element, where the row came of an append), a map, a text's reader. -/
inductive Row where
  | cells (ro : Bool) (es : Nat) (cs : List Value)
  | map (es : List MapEntry) (clock : Nat)
  | iter (s : ByteArray) (pos : Nat)

structure St where
  rows : D Row
  next : Nat
  log : List Nat
  wlog : List Nat

abbrev M (α : Type) := St → Option (α × St)

def M.pure {α : Type} (a : α) : M α := fun s => some (a, s)
def M.fail {α : Type} : M α := fun _ => none
noncomputable def M.bind {α β : Type} (m : M α) (f : α → M β) : M β := fun s => Option.rec none (fun p => Prod.rec (fun a s' => f a s') p) (m s)
noncomputable def M.lift {α : Type} (o : Option α) : M α := fun s => Option.rec none (fun a => some (a, s)) o
noncomputable def M.guard (b : Bool) : M Unit := fun s => Bool.rec none (some ((), s)) b

/-- How deep the tree of names may be. -/
def deep : Nat := 40

/-- A number, counted out before it is handed on. -/
noncomputable def force {α : Type} (n : Nat) (k : Nat → α) : α := Nat.rec (k 0) (fun m _ => k (Nat.succ m)) n
theorem force_eq {α : Type} (n : Nat) (k : Nat → α) : force n k = k n := by cases n <;> rfl
noncomputable def M.row (r : Nat) : M Row := fun s => St.rec (fun rows next log wlog => Bool.rec none (Option.rec none (fun x => some (x, ⟨rows, next, r :: log, wlog⟩)) (rows.get r)) (Nat.ble (Nat.succ r) next)) s
/-- Another thing under a name that is there (none: it goes). -/
noncomputable def M.turn (r : Nat) (x : Option Row) : M Unit := fun s => St.rec (fun rows next log wlog =>
  Bool.rec none (Option.rec none (fun _ => Bool.rec none (some ((), ⟨D.put x deep rows r, next, r :: log, r :: wlog⟩)) (Nat.ble r 1000000000)) (rows.get r)) (Nat.ble (Nat.succ r) next)) s
noncomputable def M.fresh (x : Row) : M Nat := fun s => St.rec (fun rows next log wlog => force next fun next =>
  Bool.rec none (some (next, ⟨D.put (some x) deep rows next, Nat.succ next, log, wlog⟩)) (Nat.ble next 1000000000)) s

noncomputable def below (n : Nat) (l : List Nat) : List Nat := List.rec (motive := fun _ => List Nat) [] (fun x _ ih => Bool.rec (motive := fun _ => List Nat) ih (x :: ih) (Nat.ble (Nat.succ x) n)) l
theorem below_nil (n : Nat) : below n [] = [] := rfl
theorem below_cons (n x : Nat) (l : List Nat) : below n (x :: l) = bif Nat.blt x n then x :: below n l else below n l := by
  show Bool.rec (motive := fun _ => List Nat) (below n l) (x :: below n l) (Nat.blt x n) = _
  cases Nat.blt x n <;> rfl

/-- What was touched inside, without what was made inside. -/
noncomputable def M.within {α : Type} (m : M α) : M α := fun s => St.rec (fun rows next log wlog =>
  Option.rec none (fun p => Prod.rec (fun a s' => St.rec (fun rows' next' log' wlog' => some (a, ⟨rows', next', below next log' ++ log, below next wlog' ++ wlog⟩)) s') p) (m ⟨rows, next, [], []⟩)) s

/-- What was done: the names that were there were below 'lo', those that were made are from 'lo' to below 'hi'; what was touched, and written, of those that were there. -/
structure Did where
  lo : Nat
  hi : Nat
  log : List Nat
  wlog : List Nat

noncomputable def M.watch {α : Type} (m : M α) : M (α × Did) := fun s => St.rec (fun rows next log wlog =>
  Option.rec none (fun p => Prod.rec (fun a s' => St.rec (fun rows' next' log' wlog' =>
    some ((a, { lo := next, hi := next', log := below next log', wlog := below next wlog' }), ⟨rows', next', below next log' ++ log, below next wlog' ++ wlog⟩)) s') p) (m ⟨rows, next, [], []⟩)) s

/-- What of a program is looked up. -/
structure Env where
  P : Program
  und : TypeId → Option TypeDesc
  info : TypeId → Option TypeInfo
  fn : FuncId → Option Func
  ext : FuncId → Option (List Value → Option Value)
  glob : Nat → Bool
  dk : FuncId → Option (List Value → Option (Value × List (Nat × List Value))) := fun _ => none
  /-- What tokens stand for; what operations of them answer; what calls do. -/
  sy : Nat → Value → Prop := fun _ _ => False
  ask : BinOp → Value → Value → Option Value := fun _ _ _ => none
  askLen : TypeId → Value → Option Value := fun _ _ => none
  kt : FuncId → Option (List Value → Option Value) := fun _ => none
  /-- What memory holds that nobody writes; conversions, and slices, of tokens. -/
  fz : Nat → Option Obj := fun _ => none
  askC : TypeId → TypeId → Value → Option Value := fun _ _ _ => none
  askS : TypeId → Value → Option Value → Option Value → Option Value → Option Value := fun _ _ _ _ _ => none
  /-- Which function hands back a map's keys sorted, where it is handed the other one's closure. -/
  sk : FuncId → Option FuncId := fun _ => none
  /-- Which function answers by what its slices hold (so many cells an element), and makes nothing that is seen. -/
  pk : FuncId → Option (Nat × (List (List Value) → Option Value)) := fun _ => none
  /-- Bytes, some of them tokens, as a text; a text's bytes. -/
  askB : List Value → Option Value := fun _ => none
  askY : Value → Option (List Value) := fun _ => none

/-- A value without an address. -/
noncomputable def plainN : Nat → Value → Bool
  | 0, _ => false
  | k + 1, v => match v with
    | .bool _ | .int _ _ | .float _ _ | .complex _ _ _ | .string _ | .pointer none | .slice none _ _ | .map none | .nilFunc | .nilIface => true
    | .func (.func _) a b => a.toList.all (plainN k) && b.toList.all (plainN k)
    | .iface _ v => plainN k v
    | .agg cs => cs.toList.all (plainN k)
    | .tuple cs => cs.toList.all (plainN k)
    | _ => false
noncomputable def plain (v : Value) : Bool := plainN 6 v
noncomputable def plains : List Value → Bool
  | [] => true
  | v :: l => bif plain v then plains l else false

/-- What a piece of the model's does where it looks at no memory and asks nothing. -/
noncomputable def pureRun {α : Type} (P : Program) : Sem α → Option α
  | .pure a => some a
  | .program k => pureRun P (k P)
  | .mark _ k => pureRun P k
  | .choose q k => if q.forced then pureRun P (k 0) else none
  | _ => none

/-- A frame: a tree of fours, so that a slot is a row of projections. -/
structure Q (α : Type) where
  a : α
  b : α
  c : α
  d : α

noncomputable def FT : Nat → Type
  | 0 => Value
  | k + 1 => Q (FT k)

noncomputable def FT.all (v : Value) : (k : Nat) → FT k
  | 0 => v
  | k + 1 => ⟨FT.all v k, FT.all v k, FT.all v k, FT.all v k⟩

/-- By the recursors themselves: the kernel goes them fast. -/
noncomputable def Q.at {α : Type} (q : Q α) (i : Nat) : α := Q.rec (fun a b c d => Nat.rec a (fun i _ => Nat.rec b (fun i _ => Nat.rec c (fun _ _ => d) i) i) i) q
noncomputable def Q.set {α : Type} (q : Q α) (i : Nat) (x : α) : Q α :=
  Q.rec (fun a b c d => Nat.rec ⟨x, b, c, d⟩ (fun i _ => Nat.rec ⟨a, x, c, d⟩ (fun i _ => Nat.rec ⟨a, b, x, d⟩ (fun _ _ => ⟨a, b, c, x⟩) i) i) i) q

noncomputable def FT.get : (k : Nat) → FT k → Nat → Value
  | 0, v, _ => v
  | k + 1, q, i => FT.get k (Q.at q (Nat.mod i 4)) (Nat.div i 4)

noncomputable def FT.put : (k : Nat) → FT k → Nat → Value → FT k
  | 0, _, _, v => v
  | k + 1, q, i, v => Q.set q (Nat.mod i 4) (FT.put k (Q.at q (Nat.mod i 4)) (Nat.div i 4) v)
/-- The same, at the depth that frames have. -/
noncomputable def FT.get5 (t : FT 5) (i : Nat) : Value :=
  Q.at (Q.at (Q.at (Q.at (Q.at t (Nat.mod i 4)) (Nat.mod (Nat.div i 4) 4)) (Nat.mod (Nat.div i 16) 4)) (Nat.mod (Nat.div i 64) 4)) (Nat.mod (Nat.div i 256) 4)
noncomputable def FT.up (k : Nat) (q : Q (FT k)) (j : Nat) (f : FT k → FT k) : Q (FT k) := Q.set q j (f (Q.at q j))
noncomputable def FT.put5 (t : FT 5) (i : Nat) (v : Value) : FT 5 :=
  FT.up 4 t (Nat.mod i 4) fun t => FT.up 3 t (Nat.mod (Nat.div i 4) 4) fun t => FT.up 2 t (Nat.mod (Nat.div i 16) 4) fun t => FT.up 1 t (Nat.mod (Nat.div i 64) 4) fun t => FT.up 0 t (Nat.mod (Nat.div i 256) 4) fun _ => v

structure Fr where
  n : Nat
  t : FT 5

noncomputable def Fr.get (fr : Fr) (i : Nat) : Value := Fr.rec (fun n t => bif Nat.blt i n then FT.get5 t i else undef) fr
noncomputable def Fr.put (fr : Fr) (i : Nat) (v : Value) : Fr := Fr.rec (fun n t => ⟨n, FT.put5 t i v⟩) fr
noncomputable def Fr.fill : List Value → Nat → FT 5 → FT 5
  | [], _, t => t
  | v :: l, i, t => Fr.fill l (Nat.succ i) (FT.put5 t i v)
noncomputable def Fr.init (n : Nat) (args : List Value) : Fr := { n := max n args.length, t := Fr.fill args 0 (FT.all undef 5) }
noncomputable def Fr.eval (fr : Fr) : Operand → Value
  | .tmp t => fr.get t
  | .const v => v
  | .global g => .pointer (some ⟨g, 0, none⟩)
  | .func f => .func (.func f) #[] #[]
noncomputable def Fr.dst (fr : Fr) (d : Option Tmp) (v : Value) : M Fr :=
  match d with
  | none => M.pure fr
  | some d => bif Nat.blt d fr.n then M.pure (fr.put d v) else M.fail

noncomputable def aggT (E : Env) (t : TypeId) : Option Bool :=
  match E.und t with
  | some (.struct _) => some true
  | some (.array _ _) => some true
  | some _ => some false
  | none => none

/-- The cells from a place on, so many. -/
noncomputable def piece (cs : List Value) (off n : Nat) : Option (List Value) :=
  let l := (cs.drop off).take n
  bif Nat.beq l.length n then some l else none

/-- What is cold: n elements that nobody writes any more; and the place of one of its cells. -/
noncomputable def fzs (n : Nat) (cs : List Value) : Value := .func (.yield 0) ⟨cs⟩ #[.int .i64 (.ofNat n)]
noncomputable def fzp (o : Nat) (cs : List Value) : Value := .func (.yield 1) ⟨cs⟩ #[.int .i64 (.ofNat o)]
noncomputable def asFz : Value → Option (Nat × Nat × List Value)
  | .func (.yield k) cs c => (match c.toList with
    | [.int .i64 (.ofNat n)] => some (k, n, cs.toList)
    | _ => none)
  | _ => none

/-- What is not known, and not asked for. -/
noncomputable def junk : Value := .func (.yield 2) #[] #[]
noncomputable def isJunk : Value → Bool
  | .func (.yield (_ + 2)) _ _ => true
  | _ => false

noncomputable def asFunc : Value → Option (FuncId × List Value × List Value)
  | .func (.func f) a c => some (f, a.toList, c.toList)
  | _ => none
/-! Looks at values and types. -/
noncomputable def asRef : Value → Option (Nat × Nat)
  | .pointer (some ⟨r, off, none⟩) => some (r, off)
  | _ => none
noncomputable def asSlice : Value → Option (Option Addr × Nat × Nat)
  | .slice a n c => some (a, n, c)
  | _ => none
noncomputable def asAggA : Value → Option (List Value)
  | .agg cs => some cs.toList
  | _ => none
noncomputable def asStr : Value → Option ByteArray
  | .string s => some s
  | _ => none
noncomputable def idx : Value → Option Nat
  | .int _ (.ofNat n) => some n
  | _ => none
noncomputable def sliceT : TypeDesc → Option TypeId
  | .slice e => some e
  | _ => none
noncomputable def structT : TypeDesc → Option (Array Field)
  | .struct fs => some fs
  | _ => none
noncomputable def arrayT : TypeDesc → Option (Nat × TypeId)
  | .array n e => some (n, e)
  | _ => none
noncomputable def cellsR : Row → Option (List Value)
  | .cells _ _ cs => some cs
  | _ => none
noncomputable def ownR : Row → Option (Nat × List Value)
  | .cells false es cs => some (es, cs)
  | _ => none
noncomputable def guardO (b : Bool) : Option Unit := bif b then some () else none

/-- A value of a type out of cells. -/
noncomputable def partA (E : Env) (t : TypeId) (cs : List Value) (off : Nat) : Option Value :=
  (aggT E t).bind fun g => (E.info t).bind fun i =>
  bif g then (piece cs off i.size).map fun l => .agg ⟨l⟩ else cs[off]?

noncomputable def loadA (E : Env) (t : TypeId) (a : Value) : M Value :=
  match asFz a with
  | some p => M.bind (M.guard (Nat.beq p.1 1)) fun _ => M.lift (partA E t p.2.2 p.2.1)
  | none => M.bind (M.lift (asRef a)) fun p => M.bind (M.row p.1) fun x => M.bind (M.lift (cellsR x)) fun cs => M.lift (partA E t cs p.2)

/-- A row with cells put in from a place on. -/
noncomputable def splice : List Value → Nat → List Value → Option (List Value)
  | cs, _, [] => some cs
  | [], _, _ :: _ => none
  | _ :: cs, 0, v :: l => (splice cs 0 l).map (v :: ·)
  | c :: cs, off + 1, v :: l => (splice cs off (v :: l)).map (c :: ·)

/-- Whether a value fills one cell. -/
noncomputable def one1 : Value → Bool
  | .agg _ | .tuple _ | .func (.yield (_ + 2)) _ _ => false
  | _ => true

noncomputable def oneCells : List Value → Bool
  | [] => true
  | v :: l => bif one1 v then oneCells l else false

noncomputable def writeA (r off : Nat) (l : List Value) : M Unit :=
  M.bind (M.row r) fun x => M.bind (M.lift (ownR x)) fun ec => M.bind (M.guard (oneCells l)) fun _ =>
  M.bind (M.lift (splice ec.2 off l)) fun cs => M.turn r (some (.cells false ec.1 cs))

noncomputable def storeA (E : Env) (t : TypeId) (a v : Value) : M Unit :=
  M.bind (M.lift (asRef a)) fun p => M.bind (M.lift (E.info t)) fun i => M.bind (M.guard (bif isJunk v then false else Nat.beq v.cells.size i.size)) fun _ => writeA p.1 p.2 v.cells.toList

noncomputable def newA (es : Nat) (cs : List Value) : M Value := M.bind (M.fresh (.cells false es cs)) fun r => M.pure (.pointer (some ⟨r, 0, none⟩))

noncomputable def zeroA (E : Env) (t : TypeId) : Option Value :=
  (E.info t).bind fun i => i.zero.bind fun z => (guardO (plain z)).map fun _ => z

noncomputable def repeats (z : List Value) : Nat → List Value
  | 0 => []
  | n + 1 => z ++ repeats z n

/-- The places of a struct's fields. -/
noncomputable def placesA (E : Env) : List Field → Option (List (Nat × Nat))
  | [] => some []
  | f :: l => (E.info f.type).bind fun i => (placesA E l).map fun r => (f.offset, i.size) :: r

noncomputable def fillA (place : Nat → Option (Nat × Nat)) (cs : List Value) : List (Nat × Value) → Option (List Value)
  | [] => some cs
  | (i, v) :: rest => (place i).bind fun p => (guardO (bif isJunk v then false else (Nat.beq v.cells.size p.2 && Nat.ble (p.1 + v.cells.size) cs.length))).bind fun _ => (splice cs p.1 v.cells.toList).bind fun cs => fillA place cs rest

noncomputable def buildStruct (E : Env) (z : List Value) (fs : Array Field) (parts : List (Nat × Value)) : Option Value :=
  (placesA E fs.toList).bind fun ps => (fillA (ps[·]?) z parts).map fun cs => .agg ⟨cs⟩
noncomputable def buildArray (E : Env) (z : List Value) (e : TypeId) (parts : List (Nat × Value)) : Option Value :=
  (E.info e).bind fun i => (fillA (fun k => some (k * i.size, i.size)) z parts).map fun cs => .agg ⟨cs⟩
noncomputable def buildA (E : Env) (t : TypeId) (parts : List (Nat × Value)) : Option Value :=
  (zeroA E t).bind fun z => (E.und t).bind fun d =>
  match d with
  | .struct fs => buildStruct E z.cells.toList fs parts
  | .array _ e => buildArray E z.cells.toList e parts
  | _ => none

/-- What a row bears of its cells: how many an element has (0: one variable), and the type of its block's elements, where it is known (0: it is not; one more than its number else). -/
noncomputable def tagT : Nat := 1099511627776
noncomputable def codeE (size ty : Nat) : Nat := Nat.add size (Nat.mul tagT ty)
noncomputable def sizeE (es : Nat) : Nat := Nat.mod es tagT

/-- The cells of an element type: how many, how many bytes, the zero ones; what a row of them bears. -/
structure Elem where
  size : Nat
  bytes : Nat
  zero : List Value
  es : Nat
noncomputable def elemA (E : Env) (e : TypeId) : Option Elem :=
  (E.info e).bind fun i => (zeroA E e).bind fun z => (guardO (Nat.beq z.cells.size i.size && Nat.blt 0 i.size && Nat.blt i.size tagT)).map fun _ => { size := i.size, bytes := i.bytes, zero := z.cells.toList, es := codeE i.size (Nat.succ e) }

noncomputable def buildSliceA (E : Env) (t : TypeId) (len : Nat) (parts : List (Nat × Value)) : M Value :=
  M.bind (M.lift ((E.und t).bind sliceT)) fun e => M.bind (M.lift (elemA E e)) fun i =>
  M.bind (M.guard (Nat.ble (len * i.size) 16777216)) fun _ =>
  M.bind (M.lift (fillA (fun k => some (k * i.size, i.size)) (repeats i.zero len) parts)) fun cs =>
  M.bind (M.fresh (.cells false i.es cs)) fun r => M.pure (.slice (some ⟨r, 0, none⟩) len len)

/-- A length that is in reach. -/
noncomputable def inReach (n bytes : Nat) : Bool := Nat.ble n 1000000000 && Nat.ble (n * bytes) 1000000000000

noncomputable def makeSliceA (E : Env) (t : TypeId) (l c : Value) : M Value :=
  M.bind (M.lift ((E.und t).bind sliceT)) fun e => M.bind (M.lift (elemA E e)) fun i => M.bind (M.lift (idx l)) fun l => M.bind (M.lift (idx c)) fun c =>
  M.bind (M.guard (Nat.ble l c && inReach c i.bytes)) fun _ =>
  M.bind (M.fresh (.cells false i.es (repeats i.zero c))) fun r => M.pure (.slice (some ⟨r, 0, none⟩) l c)

/-- The cells of a text. -/
noncomputable def bytesOf (s : ByteArray) : List Value := s.data.toList.map fun b => .int .u8 b.toNat

/-- The first cells of a slice. -/
noncomputable def readA (size : Nat) (a : Option Addr) (n : Nat) : M (List Value) :=
  match n with
  | 0 => M.pure []
  | n + 1 => M.bind (M.lift a) fun a => M.bind (M.row a.block) fun x => M.bind (M.lift (cellsR x)) fun cs => M.lift (piece cs a.off ((n + 1) * size))

/-- The first cells of what is cold. -/
noncomputable def readF (size : Nat) (x : Value) (n : Nat → Nat) : M (Nat × List Value) :=
  M.bind (M.lift (asFz x)) fun p => M.bind (M.guard (Nat.beq p.1 0)) fun _ => M.bind (M.guard (Nat.ble (n p.2.1) p.2.1)) fun _ => M.bind (M.lift (piece p.2.2 0 (n p.2.1 * size))) fun l => M.pure (n p.2.1, l)

/-- A token: what stands for something of which only some is known. -/
noncomputable def isTok : Value → Bool
  | .chan (some c) => Nat.ble 3802951800684688204490109616128 c
  | _ => false
/-- What is appended: a slice, a text, or so many zeros. -/
noncomputable def newCells (E : Env) (i : Elem) (zeros : Bool) (x : Value) : M (Nat × List Value) :=
  bif zeros then M.bind (M.lift (idx x)) fun n => M.bind (M.guard (inReach n i.bytes)) fun _ => M.pure (n, repeats i.zero n)
  else match x with
    | .slice a n _ => M.bind (readA i.size a n) fun l => M.pure (n, l)
    | .string s => M.bind (M.guard (Nat.beq i.size 1)) fun _ => M.pure (s.size, bytesOf s)
    | .chan (some c) => M.bind (M.guard (Nat.beq i.size 1 && isTok (.chan (some c)))) fun _ => M.bind (M.lift (E.askY (.chan (some c)))) fun l => M.pure (l.length, l)
    | x => readF i.size x fun n => n

noncomputable def isInt : TypeDesc → Bool
  | .int _ => true
  | _ => false

/-- In place. -/
noncomputable def appendIn (i : Elem) (base : Option Addr) (sLen sCap need : Nat) (l : List Value) : M Value :=
  match l with
  | [] => M.pure (.slice base need sCap)
  | _ :: _ => M.bind (M.lift base) fun a => M.bind (writeA a.block (a.off + sLen * i.size) l) fun _ => M.pure (.slice base need sCap)

/-- The row goes whose slice may be written to in place, beyond what is known of its capacity. -/
noncomputable def leaveA (i : Elem) (base : Option Addr) : M Nat :=
  match base with
  | some ⟨r, _, some _⟩ => M.bind (M.row r) fun x => M.bind (M.lift (ownR x)) fun ec => M.bind (M.guard (Nat.beq (sizeE ec.1) i.size)) fun _ => M.bind (M.turn r none) fun _ => M.pure (bif Nat.beq ec.1 i.es then i.es else i.size)
  | _ => M.pure i.es

/-- In new memory: a slice of a capacity that is not known bears its element's size as its spot. -/
noncomputable def appendNew (i : Elem) (base : Option Addr) (sLen need : Nat) (l : List Value) : M Value :=
  M.bind (M.guard (inReach need i.bytes)) fun _ => M.bind (readA i.size base sLen) fun old => M.bind (leaveA i base) fun es =>
  M.bind (M.fresh (.cells false es (old ++ l))) fun r => M.pure (.slice (some ⟨r, 0, some i.size⟩) need need)

noncomputable def appendA (E : Env) (sT xT : TypeId) (s x : Value) : M Value :=
  M.bind (M.lift ((E.und sT).bind sliceT)) fun e => M.bind (M.lift (elemA E e)) fun i => M.bind (M.lift (E.und xT)) fun d =>
  M.bind (M.lift (asSlice s)) fun b => M.bind (newCells E i (isInt d) x) fun nl => M.bind (M.guard (oneCells nl.2)) fun _ =>
  bif Nat.ble (b.2.1 + nl.1) b.2.2 then appendIn i b.1 b.2.1 b.2.2 (b.2.1 + nl.1) nl.2 else appendNew i b.1 b.2.1 (b.2.1 + nl.1) nl.2

/-- What is copied. -/
noncomputable def copied (i : Elem) (dLen : Nat) (x : Value) : M (Nat × List Value) :=
  match x with
  | .slice a n _ => M.bind (readA i.size a (min n dLen)) fun l => M.pure (min n dLen, l)
  | .string s => M.bind (M.guard (Nat.beq i.size 1)) fun _ => M.pure (min s.size dLen, (bytesOf s).take (min s.size dLen))
  | x => readF i.size x fun n => min n dLen

noncomputable def copyA (E : Env) (dT : TypeId) (d x : Value) : M Value :=
  M.bind (M.lift ((E.und dT).bind sliceT)) fun e => M.bind (M.lift (elemA E e)) fun i => M.bind (M.lift (asSlice d)) fun b =>
  M.bind (copied i b.2.1 x) fun kl =>
  match kl.2 with
  | [] => M.pure (.int .i64 kl.1)
  | _ :: _ => M.bind (M.lift b.1) fun a => M.bind (writeA a.block a.off kl.2) fun _ => M.pure (.int .i64 kl.1)

noncomputable def boundA (v : Option Value) (none : Nat) (most : Nat) : Option Nat :=
  match v with
  | Option.none => some none
  | some v => (idx v).bind fun n => (guardO (Nat.ble n most)).map fun _ => n

noncomputable def sliceStr (s : ByteArray) (lo hi mx : Option Value) : Option Value :=
  match mx with
  | some _ => none
  | none => (boundA hi s.size s.size).bind fun h => (boundA lo 0 h).map fun l => .string (s.extract l h)

/-- Low, high and most; most is told only where high is. -/
noncomputable def boundsA (len cap : Nat) (lo hi mx : Option Value) : Option (Nat × Nat × Nat) :=
  (boundA mx cap cap).bind fun m => (guardO (bif mx.isSome then hi.isSome else true)).bind fun _ => (boundA hi len m).bind fun h => (guardO (Nat.ble h m)).bind fun _ => (boundA lo 0 h).map fun l => (l, h, m)

/-- The place that a slice of a slice begins at. -/
noncomputable def moveA (size : Nat) (a : Addr) (l : Nat) (mx : Option Value) : Option Addr :=
  match mx with
  | some _ => some ⟨a.block, a.off + l * size, none⟩
  | none => match a.spot with
    | none => some ⟨a.block, a.off + l * size, none⟩
    | some es => (guardO (Nat.beq es size)).map fun _ => ⟨a.block, a.off + l * size, some es⟩
noncomputable def movedA (size : Nat) (a : Option Addr) (l : Nat) (mx : Option Value) : Option (Option Addr) :=
  match a with
  | none => some none
  | some a => (moveA size a l mx).map some

/-- Of what is cold: what may be had of it is only as long as it is. -/
noncomputable def sliceF (size : Nat) (p : Nat × Nat × List Value) (lo hi mx : Option Value) : Option Value :=
  (guardO (Nat.beq p.1 0)).bind fun _ => (boundsA p.2.1 p.2.1 lo hi mx).bind fun q => (piece p.2.2 (q.1 * size) ((q.2.1 - q.1) * size)).map fun l =>
    bif mx.isSome && Nat.beq q.2.2 q.1 then .slice (some ⟨0, 0, none⟩) 0 0 else fzs (q.2.1 - q.1) l
noncomputable def plainO : Option Value → Bool
  | none => true
  | some v => plain v
noncomputable def sliceA (E : Env) (t : TypeId) (x : Value) (lo hi mx : Option Value) : Option Value :=
  bif isTok x then (guardO (plainO lo && plainO hi && plainO mx)).bind fun _ => E.askS t x lo hi mx else
  (E.und t).bind fun d =>
  match d with
  | .string => (asStr x).bind fun s => sliceStr s lo hi mx
  | .slice e => (E.info e).bind fun i => match asFz x with
    | some p => sliceF i.size p lo hi mx
    | none => (asSlice x).bind fun b => (boundsA b.2.1 b.2.2 lo hi mx).bind fun q => (movedA i.size b.1 q.1 mx).map fun a =>
      .slice a (q.2.1 - q.1) (q.2.2 - q.1)
  | .array n e => (E.info e).bind fun i => (asRef x).bind fun p => (boundsA n n lo hi mx).map fun q =>
      .slice (some ⟨p.1, p.2 + q.1 * i.size, none⟩) (q.2.1 - q.1) (q.2.2 - q.1)
  | _ => none

noncomputable def fieldAddrA (E : Env) (s : TypeId) (a : Value) (f : Nat) : Option Value :=
  ((E.und s).bind structT).bind fun fs => fs[f]?.bind fun f => (E.info f.type).bind fun i => (guardO (Nat.blt 0 i.size)).bind fun _ => match asFz a with
    | some p => (guardO (Nat.beq p.1 1)).map fun _ => fzp (p.2.1 + f.offset) p.2.2
    | none => (asRef a).map fun p => .pointer (some ⟨p.1, p.2 + f.offset, none⟩)

noncomputable def fieldA (E : Env) (s : TypeId) (x : Value) (f : Nat) : Option Value :=
  ((E.und s).bind structT).bind fun fs => fs[f]?.bind fun f => (asAggA x).bind fun cs => partA E f.type cs f.offset

noncomputable def indexAddrA (E : Env) (t : TypeId) (x i : Value) : Option Value :=
  (E.und t).bind fun d => (idx i).bind fun k =>
  match d with
  | .slice e => (E.info e).bind fun inf => (match asFz x with
    | some p => (guardO (Nat.beq p.1 0 && Nat.blt k p.2.1)).map fun _ => fzp (k * inf.size) p.2.2
    | none => (asSlice x).bind fun b => (guardO (Nat.blt k b.2.1)).bind fun _ => b.1.map fun a =>
      .pointer (some ⟨a.block, a.off + k * inf.size, none⟩))
  | .array n e => (E.info e).bind fun inf => (asRef x).bind fun p => (guardO (Nat.blt k n)).map fun _ => .pointer (some ⟨p.1, p.2 + k * inf.size, none⟩)
  | _ => none

noncomputable def indexA (E : Env) (t : TypeId) (x i : Value) : Option Value :=
  (E.und t).bind fun d => (idx i).bind fun k =>
  match d with
  | .array n e => (E.info e).bind fun inf => (asAggA x).bind fun cs => (guardO (Nat.blt k n)).bind fun _ => partA E e cs (k * inf.size)
  | .string => (asStr x).bind fun s => s.data.toList[k]?.map fun b => .int .u8 b.toNat
  | _ => none

/-- Whether a value that may be nil is: 1 it is, 2 it is not, 0 another one. -/
noncomputable def nilish : Value → Nat
  | .pointer none | .slice none _ _ | .map none | .nilFunc | .nilIface => 1
  | .pointer (some _) | .slice (some _) _ _ | .map (some _) | .func _ _ _ | .iface _ _ => 2
  | _ => 0

noncomputable def nilT : TypeDesc → Value → Value → Bool
  | .pointer _, .pointer _, .pointer _ => true
  | .slice _, .slice _ _ _, .slice _ _ _ => true
  | .map _ _, .map _, .map _ => true
  | .func _ _ _, .nilFunc, .func (.func _) _ _ => true
  | .func _ _ _, .func (.func _) _ _, .nilFunc => true
  | .pointer _, .pointer none, .func (.yield 1) _ _ => true
  | .pointer _, .func (.yield 1) _ _, .pointer none => true
  | .slice _, .slice none _ _, .func (.yield 0) _ _ => true
  | .slice _, .func (.yield 0) _ _, .slice none _ _ => true
  | .interface _, .nilIface, .iface _ _ => true
  | .interface _, .iface _ _, .nilIface => true
  | _, _, _ => false

noncomputable def two63 : Nat := 9223372036854775808
/-- Integers as the kind holds them: the usual cases first. -/
noncomputable def wrapA (k : IntKind) (n : Int) : Int :=
  match k with
  | .i64 => (match n with
    | .ofNat m => bif Nat.blt m two63 then .ofNat m else k.wrap n
    | .negSucc m => bif Nat.blt m two63 then .negSucc m else k.wrap n)
  | _ => k.wrap n
noncomputable def ltA : Int → Int → Bool
  | .ofNat a, .ofNat b => Nat.blt a b
  | .ofNat _, .negSucc _ => false
  | .negSucc _, .ofNat _ => true
  | .negSucc a, .negSucc b => Nat.blt b a
noncomputable def eqA : Int → Int → Bool
  | .ofNat a, .ofNat b => Nat.beq a b
  | .negSucc a, .negSucc b => Nat.beq a b
  | _, _ => false
noncomputable def codeK : IntKind → Nat
  | .i8 => 0 | .i16 => 1 | .i32 => 2 | .i64 => 3 | .u8 => 4 | .u16 => 5 | .u32 => 6 | .u64 => 7
/-- Whole numbers of one kind. -/
noncomputable def intBinA (op : BinOp) (k : IntKind) (a b : Int) : Option Value :=
  match op with
  | .add => some (.int k (wrapA k (Int.add a b)))
  | .sub => some (.int k (wrapA k (Int.sub a b)))
  | .mul => some (.int k (wrapA k (Int.mul a b)))
  | .eql => some (.bool (eqA a b))
  | .neq => some (.bool (!eqA a b))
  | .lss => some (.bool (ltA a b))
  | .leq => some (.bool (!ltA b a))
  | .gtr => some (.bool (ltA b a))
  | .geq => some (.bool (!ltA a b))
  | _ => none
noncomputable def bytesEqA : List UInt8 → List UInt8 → Bool
  | [], [] => true
  | a :: x, b :: y => bif Nat.beq a.toNat b.toNat then bytesEqA x y else false
  | _, _ => false
noncomputable def strBinA (op : BinOp) (a b : ByteArray) : Option Value :=
  match op with
  | .eql => some (.bool (bytesEqA a.data.toList b.data.toList))
  | .neq => some (.bool (!bytesEqA a.data.toList b.data.toList))
  | _ => none
noncomputable def boolBinA (op : BinOp) (a b : Bool) : Option Value :=
  match op with
  | .eql => some (.bool (bif a then b else !b))
  | .neq => some (.bool (bif a then !b else b))
  | _ => none
/-- The rest, by the model's own words. -/
noncomputable def binPlainA (E : Env) (op : BinOp) (t : TypeId) (xo yo : Operand) (x y : Value) : Option Value :=
  pureRun E.P (do eqGuard op t xo yo x y; binOp op t x y)
noncomputable def nilOpA (op : BinOp) : Option Value :=
  match op with
  | .eql => some (.bool false)
  | .neq => some (.bool true)
  | _ => none
noncomputable def binSlowA (E : Env) (op : BinOp) (t : TypeId) (xo yo : Operand) (x y : Value) : Option Value :=
  bif plain x && plain y then (binPlainA E op t xo yo x y).bind fun v => (guardO (plain v)).map fun _ => v
  else (E.und t).bind fun d => (guardO (nilT d x y && Nat.beq (nilish x + nilish y) 3)).bind fun _ => nilOpA op
noncomputable def orA (o : Option Value) (m : Option Value) : Option Value :=
  match o with
  | some v => some v
  | none => m
/-- A number of which only this is known: what 255 leaves of it, divided by m, leaves k (stage 0); what it leaves itself (1); what the bits of m leave of it (2). -/
noncomputable def symM (c : Nat) : Nat := Nat.div (Nat.div c 3) 1024
noncomputable def symK (c : Nat) : Nat := Nat.mod (Nat.div c 3) 1024
noncomputable def symAt (stage m k : Nat) : Value := .chan (some (3 * (1024 * m + k) + stage))
noncomputable def symIn (op : BinOp) (c b : Nat) : Option Value :=
  match op with
  | .and => bif Nat.beq (Nat.mod c 3) 0 && Nat.beq b 255 then some (.chan (some (Nat.succ c))) else
      (bif Nat.beq (Nat.mod c 3) 2 && Nat.beq b (symM c) then some (.int .i64 (.ofNat (symK c))) else none)
  | .rem => bif Nat.beq (Nat.mod c 3) 1 && Nat.beq b (symM c) && Nat.blt 0 b then some (.int .i64 (.ofNat (symK c))) else none
  | _ => none
noncomputable def symBinA (op : BinOp) (c : Nat) (y : Value) : Option Value :=
  match y with
  | .int .i64 (.ofNat b) => symIn op c b
  | _ => none
noncomputable def tokish (v : Value) : Bool := bif isTok v then true else plain v
/-- Two addresses that are one. -/
noncomputable def ptrEqA (E : Env) (op : BinOp) (t : TypeId) (a b : Addr) : Option Value :=
  (E.und t).bind fun d => (match d with | .pointer te => E.info te | _ => none).bind fun _ =>
  (guardO (Nat.beq a.block b.block && Nat.beq a.off b.off && a.spot.isNone && b.spot.isNone)).bind fun _ =>
  match op with
  | .eql => some (.bool true)
  | .neq => some (.bool false)
  | _ => none
noncomputable def binOpA (E : Env) (op : BinOp) (t : TypeId) (xo yo : Operand) (x y : Value) : Option Value :=
  bif (bif isTok x then true else isTok y) then (guardO (tokish x && tokish y)).bind fun _ => E.ask op x y else
  match x with
  | .int k a => (match y with
    | .int k' b => bif Nat.beq (codeK k) (codeK k') then orA (intBinA op k a b) (binSlowA E op t xo yo x y) else binSlowA E op t xo yo x y
    | _ => binSlowA E op t xo yo x y)
  | .string a => (match y with
    | .string b => orA (strBinA op a b) (binSlowA E op t xo yo x y)
    | _ => binSlowA E op t xo yo x y)
  | .chan (some c) => symBinA op c y
  | .pointer (some a) => (match y with
    | .pointer (some b) => ptrEqA E op t a b
    | _ => binSlowA E op t xo yo x y)
  | _ => binSlowA E op t xo yo x y

noncomputable def bytesBack : List Value → Option (List UInt8)
  | [] => some []
  | .int .u8 n :: l => (bytesBack l).map (UInt8.ofNat n.toNat :: ·)
  | _ :: _ => none

/-- What stays plain. -/
noncomputable def plainly (o : Option Value) : Option Value := o.bind fun v => (guardO (plain v)).map fun _ => v

noncomputable def isString : TypeDesc → Bool
  | .string => true
  | _ => false
noncomputable def u8T (E : Env) (e : TypeId) : Option Unit := (E.und e).bind fun d => match d with | .int .u8 => some () | _ => none

/-- A text's bytes, in new memory; the capacity is not known. -/
noncomputable def bytesNew (E : Env) (dst : TypeDesc) (s : ByteArray) : M Value :=
  M.bind (M.lift (sliceT dst)) fun e => M.bind (M.lift (u8T E e)) fun _ => M.bind (M.fresh (.cells false (codeE 1 (Nat.succ e)) (bytesOf s))) fun r =>
  M.pure (.slice (some ⟨r, 0, some 1⟩) s.size s.size)
/-- Bytes as a text. -/
noncomputable def textOf (E : Env) (src : TypeDesc) (a : Option Addr) (n : Nat) : M Value :=
  M.bind (M.lift (sliceT src)) fun e => M.bind (M.lift (u8T E e)) fun _ => M.bind (readA 1 a n) fun l => M.bind (M.lift (bytesBack l)) fun b => M.pure (.string ⟨⟨b⟩⟩)
/-- Cold bytes as a text. -/
noncomputable def textF (E : Env) (src : TypeDesc) (x : Value) : M Value :=
  M.bind (M.lift (sliceT src)) fun e => M.bind (M.lift (u8T E e)) fun _ => M.bind (readF 1 x fun n => n) fun l => M.bind (M.lift (bytesBack l.2)) fun b => M.pure (.string ⟨⟨b⟩⟩)
/-- Bytes as bytes: they stay where they are, in a row of one's own; the model marks their block. -/
noncomputable def markA (E : Env) (src dst : TypeId) (dd : TypeDesc) (a : Option Addr) (n c : Nat) : M Value :=
  M.bind (M.guard (Nat.beq src dst && Nat.blt 0 c)) fun _ => M.bind (M.lift (sliceT dd)) fun e => M.bind (M.lift (u8T E e)) fun _ => M.bind (M.lift a) fun ad =>
  M.bind (M.row ad.block) fun x => M.bind (M.lift (ownR x)) fun _ => M.bind (M.turn ad.block (some x)) fun _ => M.pure (.slice (some ad) n c)
/-- An address as an unsafe.Pointer, and back: of a variable of one's own, or of a row's place. -/
noncomputable def toUnsafe (E : Env) (t : TypeId) (a : Addr) (cs : List Value) : Option Unit :=
  (E.info t).bind fun i => guardO (Nat.blt 0 i.size && Nat.blt a.off cs.length)
noncomputable def ofUnsafe (E : Env) (u : TypeId) (a : Addr) (es : Nat) (cs : List Value) : Option Unit :=
  (E.info u).bind fun i => guardO (Nat.beq es (codeE 0 (Nat.succ u)) && Nat.beq a.off 0 && Nat.blt 0 i.size && Nat.ble i.size cs.length)
noncomputable def ptrT (sd dd : TypeDesc) : Option (Bool × TypeId) :=
  match sd, dd with
  | .pointer t, .unsafePointer => some (true, t)
  | .unsafePointer, .pointer u => some (false, u)
  | _, _ => none
noncomputable def ptrA (E : Env) (sd dd : TypeDesc) (a : Addr) : M Value :=
  M.bind (M.lift (ptrT sd dd)) fun k => M.bind (M.row a.block) fun x => M.bind (M.lift (ownR x)) fun ec => M.bind (M.guard a.spot.isNone) fun _ =>
  M.bind (M.lift (bif k.1 then toUnsafe E k.2 a ec.2 else ofUnsafe E k.2 a ec.1 ec.2)) fun _ => M.pure (.pointer (some a))
noncomputable def convertA (E : Env) (src dst : TypeId) (x : Value) : M Value :=
  bif isTok x then M.lift (E.askC src dst x) else
  M.bind (M.lift (E.und src)) fun sd => M.bind (M.lift (E.und dst)) fun dd =>
  match x with
  | .pointer (some a) => ptrA E sd dd a
  | .string s => bif isString dd then M.pure (.string s) else bytesNew E dd s
  | .slice a n c => bif isString dd then textOf E sd a n else markA E src dst dd a n c
  | x => bif plain x then M.lift (plainly (pureRun E.P (convert src dst x))) else M.bind (M.guard (isString dd)) fun _ => textF E sd x

noncomputable def lenA (E : Env) (t : TypeId) (x : Value) : M Value :=
  bif isTok x then M.lift (E.askLen t x) else
  M.bind (M.lift (E.und t)) fun d =>
  match d with
  | .string => M.bind (M.lift (asStr x)) fun s => M.pure (.int .i64 s.size)
  | .slice _ => (match asFz x with
    | some p => M.bind (M.guard (Nat.beq p.1 0)) fun _ => M.pure (.int .i64 p.2.1)
    | none => M.bind (M.lift (asSlice x)) fun b => M.pure (.int .i64 b.2.1))
  | .array n _ => M.pure (.int .i64 n)
  | .map _ _ => (match x with
    | .map none => M.pure (.int .i64 0)
    | .map (some r) => M.bind (M.row r) fun x => (match x with | .map es _ => M.pure (.int .i64 es.length) | _ => M.fail)
    | _ => M.fail)
  | _ => M.fail

noncomputable def exactCap : Option Addr → Bool
  | some a => a.spot.isNone
  | none => true
noncomputable def capA (E : Env) (t : TypeId) (x : Value) : Option Value :=
  ((E.und t).bind sliceT).bind fun _ => (asSlice x).bind fun b => (guardO (exactCap b.1)).map fun _ => .int .i64 b.2.2

/-- clear, of a slice. -/
noncomputable def clearA (E : Env) (t : TypeId) (x : Value) : M Value :=
  M.bind (M.lift ((E.und t).bind sliceT)) fun e => M.bind (M.lift (elemA E e)) fun i => M.bind (M.lift (asSlice x)) fun b =>
  match b.2.1 with
  | 0 => M.pure (.tuple #[])
  | n + 1 => M.bind (M.lift b.1) fun a => M.bind (writeA a.block a.off (repeats i.zero (n + 1))) fun _ => M.pure (.tuple #[])

/-! Maps: keys are plain. -/
noncomputable def mapKE : TypeDesc → Option (TypeId × TypeId)
  | .map k e => some (k, e)
  | _ => none
noncomputable def keysOf (es : List MapEntry) : List MapEntry := es.map fun e => ⟨e.key, .bool false, e.born⟩
noncomputable def entriesOf : Row → Option (List MapEntry × Nat)
  | .map es c => some (es, c)
  | _ => none
noncomputable def entriesA (x : Value) : M (List MapEntry) :=
  match x with
  | .map none => M.pure []
  | .map (some r) => M.bind (M.row r) fun x => M.bind (M.lift (entriesOf x)) fun p => M.pure p.1
  | _ => M.fail
noncomputable def findA (E : Env) (empty : Bool) (kt : TypeId) (k : Value) (es : List MapEntry) : Option (Option (Nat × Value)) :=
  (guardO (plain k)).bind fun _ => (pureRun E.P (Instr.checkKey empty 10000 kt k)).bind fun _ => pureRun E.P (Instr.findKey kt k (keysOf es))
noncomputable def tupA (commaOk : Bool) (v : Value) (ok : Bool) : Value := bif commaOk then .tuple #[v, .bool ok] else v
noncomputable def lookupA (E : Env) (t : TypeId) (x i : Value) (commaOk : Bool) : M Value :=
  M.bind (M.lift ((E.und t).bind mapKE)) fun ke => M.bind (entriesA x) fun es => M.bind (M.lift (findA E es.isEmpty ke.1 i es)) fun f =>
  match f with
  | some p => M.bind (M.lift (es[p.1]?)) fun e => M.pure (tupA commaOk e.val true)
  | none => M.bind (M.lift (zeroA E ke.2)) fun z => M.pure (tupA commaOk z false)
noncomputable def updateA (E : Env) (t : TypeId) (m k v : Value) : M Unit :=
  match m with
  | .map (some r) => M.bind (M.lift ((E.und t).bind mapKE)) fun ke => M.bind (M.row r) fun x => M.bind (M.lift (entriesOf x)) fun p => M.bind (M.lift (findA E false ke.1 k p.1)) fun f =>
    match f with
    | some q => M.bind (M.lift (p.1[q.1]?)) fun e => M.bind (M.guard (Instr.sameBits 10000 e.key k)) fun _ => M.turn r (some (.map (p.1.modify q.1 fun e => { e with key := k, val := v }) p.2))
    | none => M.turn r (some (.map (p.1 ++ [⟨k, v, p.2⟩]) (Nat.succ p.2)))
  | _ => M.fail
noncomputable def deleteA (E : Env) (t : TypeId) (m k : Value) : M Value :=
  match m with
  | .map (some r) => M.bind (M.lift ((E.und t).bind mapKE)) fun ke => M.bind (M.row r) fun x => M.bind (M.lift (entriesOf x)) fun p => M.bind (M.lift (findA E p.1.isEmpty ke.1 k p.1)) fun f =>
    match f with
    | some q => M.bind (M.turn r (some (.map (p.1.eraseIdx q.1) p.2))) fun _ => M.pure (.tuple #[])
    | none => M.bind (M.turn r (some (.map p.1 p.2))) fun _ => M.pure (.tuple #[])
  | _ => M.fail

inductive Nx where
  | value (v : Value)
  | skip
  | enter (f : FuncId) (args : List Value)
  | known (f : FuncId) (args : List Value) (v : Value)

noncomputable def asV (m : M Value) : M Nx := M.bind m fun x => M.pure (.value x)
noncomputable def asU (m : M Unit) : M Nx := M.bind m fun _ => M.pure .skip

/-- A builtin with one argument, or two. -/
noncomputable def one (f : TypeId → Value → M Value) (ts : List TypeId) (args : List Value) : M Value :=
  match ts with
  | t :: _ => (match args with | x :: _ => f t x | [] => M.fail)
  | [] => M.fail
noncomputable def two (f : TypeId → TypeId → Value → Value → M Value) (ts : List TypeId) (args : List Value) : M Value :=
  match ts with
  | t :: u :: _ => (match args with | x :: y :: _ => f t u x y | _ => M.fail)
  | _ => M.fail
/-- unsafe.SliceData of a slice with room, or of nil; unsafe.String over the head of a row of one's own, which is not written any more. -/
noncomputable def sliceDataA (args : List Value) : Option Value :=
  match args with
  | [.slice none _ _] => some (.pointer none)
  | [.slice (some a) _ (_ + 1)] => some (.pointer (some ⟨a.block, a.off, none⟩))
  | _ => none
noncomputable def pointerT : TypeDesc → Option TypeId
  | .pointer e => some e
  | _ => none
noncomputable def textB (E : Env) (l : List Value) : Option Value :=
  match bytesBack l with
  | some b => some (.string ⟨⟨b⟩⟩)
  | none => E.askB l
noncomputable def stringAt (E : Env) (t : TypeId) (a : Addr) (n : Nat) : M Value :=
  M.bind (M.lift ((E.und t).bind pointerT)) fun e => M.bind (M.lift (u8T E e)) fun _ => M.bind (M.lift (E.info e)) fun i => M.bind (M.row a.block) fun x => M.bind (M.lift (ownR x)) fun ec =>
  M.bind (M.guard (Nat.beq ec.1 (codeE 1 (Nat.succ e)) && Nat.beq i.size 1 && Nat.beq a.off 0 && a.spot.isNone && Nat.blt n two63)) fun _ =>
  M.bind (M.lift (piece ec.2 0 n)) fun l => M.bind (M.lift (textB E l)) fun v => M.bind (M.turn a.block (some (.cells true ec.1 ec.2))) fun _ => M.pure v
noncomputable def unsafeStringA (E : Env) (ts : List TypeId) (args : List Value) : M Value :=
  match args with
  | [.pointer (some a), .int .i64 (.ofNat (n + 1))] => (match ts with
    | t :: _ => stringAt E t a (n + 1)
    | [] => M.fail)
  | [.pointer none, .int .i64 (.ofNat 0)] => (match ts with
    | _ :: _ => M.pure (.string .empty)
    | [] => M.fail)
  | _ => M.fail
noncomputable def builtinA (E : Env) (b : Builtin) (ts : Array TypeId) (type : TypeId) (args : List Value) : M Value :=
  match b with
  | .append => two (appendA E) ts.toList args
  | .copy => two (fun t _ => copyA E t) ts.toList args
  | .len => one (lenA E) ts.toList args
  | .cap => one (fun t x => M.lift (capA E t x)) ts.toList args
  | .clear => one (clearA E) ts.toList args
  | .delete => two (fun t _ => deleteA E t) ts.toList args
  | .max => M.bind (M.guard (plains args)) fun _ => M.lift (plainly (pureRun E.P (Builtin.max_ ts type ⟨args⟩)))
  | .min => M.bind (M.guard (plains args)) fun _ => M.lift (plainly (pureRun E.P (Builtin.min_ ts type ⟨args⟩)))
  | .unsafeSliceData => M.lift (sliceDataA args)
  | .unsafeString => unsafeStringA E ts.toList args
  | _ => M.fail

/-- A call: of what is known beforehand, or of a body. -/
noncomputable def callA (E : Env) (f : FuncId) (args : List Value) : M Nx :=
  match E.ext f with
  | some e => M.bind (M.guard (plains args)) fun _ => M.bind (M.lift (e args)) fun v => M.pure (.known f args v)
  | none => match (E.kt f).bind fun e => e args with
    | some v => M.pure (.known f args v)
    | none => M.bind (M.lift (E.fn f)) fun _ => M.pure (.enter f args)

noncomputable def asIter : Row → Option (ByteArray × Nat)
  | .iter s pos => some (s, pos)
  | _ => none
noncomputable def nextA (it : Value) (isString : Bool) : M Value :=
  M.bind (M.guard isString) fun _ => M.bind (M.lift (asRef it)) fun p => M.bind (M.guard (Nat.beq p.2 0)) fun _ => M.bind (M.row p.1) fun x => M.bind (M.lift (asIter x)) fun sp =>
  bif Nat.blt sp.2 sp.1.size then
    M.bind (M.turn p.1 (some (.iter sp.1 (sp.2 + (Utf8.decode sp.1 sp.2).2)))) fun _ =>
    M.pure (.tuple #[.bool true, .int .i64 sp.2, .int .i32 (Utf8.decode sp.1 sp.2).1])
  else M.pure (.tuple #[.bool false])

noncomputable def pickA (c a b : Value) : Option Value :=
  match c with
  | .bool t => some (bif t then a else b)
  | _ => none
noncomputable def allocA (E : Env) (t : TypeId) : M Value := M.bind (M.lift (zeroA E t)) fun z => newA (codeE 0 (Nat.succ t)) z.cells.toList
noncomputable def nilCheckA (x : Value) : Option Value :=
  match x with
  | .pointer (some a) => some (.pointer (some a))
  | .func (.func f) a b => some (.func (.func f) a b)
  | .func (.yield 0) a b => some (.func (.yield 0) a b)
  | .func (.yield 1) a b => some (.func (.yield 1) a b)
  | .iface t x => some (.iface t x)
  | .slice a n c => some (.slice a n c)
  | .map r => some (.map r)
  | _ => none
noncomputable def unOpA (E : Env) (op : UnOp) (x : Value) : Option Value :=
  (guardO (plain x)).bind fun _ => plainly (pureRun E.P (Op.unary op x))
noncomputable def makeInterfaceA (E : Env) (t : TypeId) (x : Value) : Option Value :=
  (E.und t).bind fun d =>
  match d with
  | .interface _ => none
  | _ => some (.iface t x)
noncomputable def extractA (x : Value) (i : Nat) : Option Value :=
  match x with
  | .tuple vs => vs.toList[i]?
  | _ => none
noncomputable def rangeA (E : Env) (t : TypeId) (x : Value) : M Value :=
  M.bind (M.lift (E.und t)) fun d => M.bind (M.guard (isString d)) fun _ => M.bind (M.lift (asStr x)) fun s =>
  M.bind (M.fresh (.iter s 0)) fun r => M.pure (.pointer (some ⟨r, 0, none⟩))
noncomputable def opCallA (E : Env) (ρ : Operand → Value) (c : Call) (type : TypeId) : M Nx :=
  match c.callee with
  | .builtin b => asV (builtinA E b c.argTypes type (c.args.toList.map ρ))
  | .value f => M.bind (M.lift (asFunc (ρ f))) fun p => callA E p.1 (p.2.1 ++ (c.args.toList.map ρ ++ p.2.2))
  | .invoke _ _ => M.fail
noncomputable def parts (ρ : Operand → Value) (ps : Array (Nat × Operand)) : List (Nat × Value) := ps.toList.map fun p => (p.1, ρ p.2)

/-- What an operation answers that looks at no memory. -/
noncomputable def valueA (E : Env) (ρ : Operand → Value) (o : Op) : Option Value :=
  match o with
  | .move x => some (ρ x)
  | .assign x => some (ρ x)
  | .pick c a b => pickA (ρ c) (ρ a) (ρ b)
  | .build t ps => buildA E t (parts ρ ps)
  | .nilCheck x => nilCheckA (ρ x)
  | .binOp op t x y _ => binOpA E op t x y (ρ x) (ρ y)
  | .unOp op _ x => unOpA E op (ρ x)
  | .makeInterface t x => makeInterfaceA E t (ρ x)
  | .makeFunc fn first captured => (match fn with
    | .func f => some (.func (.func f) (first.map ρ) (captured.map ρ))
    | _ => none)
  | .slice t x lo hi mx => sliceA E t (ρ x) (lo.map ρ) (hi.map ρ) (mx.map ρ)
  | .fieldAddr s x f => fieldAddrA E s (ρ x) f
  | .field t x f => fieldA E t (ρ x) f
  | .indexAddr t x i => indexAddrA E t (ρ x) (ρ i)
  | .index t x i => indexA E t (ρ x) (ρ i)
  | .extract x i => extractA (ρ x) i
  | _ => none

noncomputable def execA (E : Env) (ρ : Operand → Value) (o : Oper) : M Nx :=
  match o.op with
  | .alloc t => asV (allocA E t)
  | .box _ x => bif isJunk (ρ x) then M.fail else asV (newA 0 (ρ x).cells.toList)
  | .buildSlice t len ps => asV (buildSliceA E t len (parts ρ ps))
  | .load t a => asV (loadA E t (ρ a))
  | .store t a x => asU (storeA E t (ρ a) (ρ x))
  | .convert s d x => asV (convertA E s d (ρ x))
  | .makeSlice t l c => asV (makeSliceA E t (ρ l) (ρ c))
  | .range t x => asV (rangeA E t (ρ x))
  | .next it isString => asV (nextA (ρ it) isString)
  | .makeMap _ none => asV (M.bind (M.fresh (.map [] 0)) fun r => M.pure (.map (some r)))
  | .lookup t x i c => asV (lookupA E t (ρ x) (ρ i) c)
  | .mapUpdate t m k v => asU (updateA E t (ρ m) (ρ k) (ρ v))
  | .call c => opCallA E ρ c o.type
  | _ => asV (M.lift (valueA E ρ o.op))

/-- Whether an operation is wanted, by its guard. -/
noncomputable def wantedA (ops : Array Oper) (fr : Fr) (o : Oper) : Bool :=
  match o.guard with
  | none => true
  | some (j, want) => match ops[j]? with
    | some g => match g.dst with
      | some d => match fr.get d with
        | .bool b => bif want then b else !b
        | _ => false
      | none => false
    | none => false

/-- What is not to be asked whether it is true. -/
noncomputable def darkV (v : Value) : Bool := bif isJunk v then true else isTok v
/-- Whether the guard is known. -/
noncomputable def sureA (ops : Array Oper) (fr : Fr) (o : Oper) : Bool :=
  match o.guard with
  | none => true
  | some (j, _) => match ops[j]? with
    | some g => match g.dst with
      | some d => !darkV (fr.get d)
      | none => true
    | none => true

noncomputable def evOp (E : Env) (call : FuncId → List Value → M Value) (ops : Array Oper) (o : Oper) (fr : Fr) : M Fr :=
  bif !sureA ops fr o then M.fail else bif wantedA ops fr o then
    M.bind (execA E fr.eval o) fun nx => match nx with
      | .value v => fr.dst o.dst v
      | .skip => fr.dst o.dst undef
      | .known _ _ v => fr.dst o.dst v
      | .enter f args => M.bind (call f args) fun v => fr.dst o.dst v
  else fr.dst o.dst undef

noncomputable def evOps (E : Env) (call : FuncId → List Value → M Value) (ops : Array Oper) : List Oper → Fr → M Fr
  | [], fr => M.pure fr
  | o :: l, fr => M.bind (evOp E call ops o fr) fun fr => evOps E call ops l fr

noncomputable def meets : List Nat → List Nat → Bool
  | [], _ => false
  | x :: l, k => bif k.any (Nat.beq x) then true else meets l k

noncomputable def hasIn (lo hi : Nat) : List Nat → Bool
  | [] => false
  | x :: l => bif Nat.ble lo x && Nat.blt x hi then true else hasIn lo hi l

/-- Whether the later one might tell whether the earlier one was done. -/
noncomputable def clash (a b : Did) : Bool :=
  bif meets a.wlog b.log then true else bif meets b.wlog a.log then true else bif Nat.beq a.lo a.hi then false else hasIn a.lo a.hi b.log

noncomputable def ordered (before : Array Nat) (i j : Nat) : Bool := (before.getD j 0).testBit i

noncomputable def settled (before : Array Nat) (j : Nat) (b : Did) : List (Nat × Did) → Bool
  | [] => true
  | a :: l => bif clash a.2 b then (bif ordered before a.1 j then settled before j b l else false) else settled before j b l

/-- What need be kept of what was done. -/
noncomputable def keep (i : Nat) (d : Did) (ds : List (Nat × Did)) : List (Nat × Did) :=
  match d.log with
  | [] => bif Nat.beq d.lo d.hi then ds else (i, d) :: ds
  | _ => (i, d) :: ds

noncomputable def evDraw (E : Env) (call : FuncId → List Value → M Value) (ops : Array Oper) (before : Array Nat) : List Oper → Nat → List (Nat × Did) → Fr → M Fr
  | [], _, _, fr => M.pure fr
  | o :: l, i, ds, fr => M.bind (M.watch (evOp E call ops o fr)) fun r =>
    bif settled before i r.2 ds then evDraw E call ops before l (Nat.succ i) (keep i r.2 ds) r.1 else M.fail

inductive X where
  | normal
  | exit (id : Nat)
  | ret

noncomputable def resA (E : Env) (fr : Fr) : ResultVar → M Value
  | .tmp t => M.pure (fr.get t)
  | .cell a t => loadA E t (fr.get a)

noncomputable def resultsA (E : Env) (fr : Fr) : List ResultVar → M (List Value)
  | [] => M.pure []
  | r :: l => M.bind (resA E fr r) fun v => M.bind (resultsA E fr l) fun vs => M.pure (v :: vs)

noncomputable def oneOf : List Value → Value
  | [v] => v
  | vs => .tuple ⟨vs⟩

/-- One behind the other. -/
noncomputable def M.mapL {α β : Type} (f : α → M β) : List α → M (List β)
  | [] => M.pure []
  | a :: l => M.bind (f a) fun b => M.bind (M.mapL f l) fun bs => M.pure (b :: bs)
noncomputable def cellsE : Row → Option (Nat × List Value)
  | .cells _ es cs => some (es, cs)
  | _ => none
/-- A row that is not written any more. -/
noncomputable def coolRow (r : Nat) (x : Row) : M Unit :=
  match x with
  | .cells false es cs => M.turn r (some (.cells true es cs))
  | _ => M.pure ()
/-- What is handed on becomes cold: what it reaches is not written any more. -/
noncomputable def coolN : Nat → Value → M Value
  | 0, _ => M.fail
  | k + 1, v => match v with
    | .slice (some a) (n + 1) c => M.bind (M.guard (Nat.blt n c)) fun _ => M.bind (M.row a.block) fun x => M.bind (M.lift (cellsE x)) fun ec => M.bind (M.guard (Nat.blt 0 (sizeE ec.1))) fun _ =>
        M.bind (M.lift (piece ec.2 a.off ((n + 1) * sizeE ec.1))) fun l => M.bind (coolRow a.block x) fun _ => M.bind (M.mapL (coolN k) l) fun ds => M.pure (fzs (n + 1) ds)
    | .slice (some _) 0 _ => M.pure (fzs 0 [])
    | .agg cs => M.bind (M.mapL (coolN k) cs.toList) fun ds => M.pure (.agg ⟨ds⟩)
    | v => bif plain v then M.pure v else (match asFz v with | some _ => M.pure v | none => M.fail)

noncomputable def freshes : List (Nat × List Value) → M Unit
  | [] => M.pure ()
  | x :: l => M.bind (M.fresh (.cells false x.1 x.2)) fun _ => freshes l
noncomputable def M.nextId : M Nat := fun s => some (s.next, s)
noncomputable def optL {α β : Type} (f : α → Option β) : List α → Option (List β)
  | [] => some []
  | a :: l => (f a).bind fun b => (optL f l).map fun bs => b :: bs
/-- What has names of its own, at others. -/
noncomputable def shiftN (g : Nat → Option Nat) : Nat → Value → Option Value
  | 0, _ => none
  | k + 1, v => match v with
    | .slice (some ⟨r, off, spot⟩) n c => (g r).map fun q => .slice (some ⟨q, off, spot⟩) n c
    | .agg cs => (optL (shiftN g k) cs.toList).map fun l => .agg ⟨l⟩
    | .tuple cs => (optL (shiftN g k) cs.toList).map fun l => .tuple ⟨l⟩
    | v => bif plain v then some v else (match asFz v with | some _ => some v | none => none)
/-- What a call answers whose answer is known. -/
noncomputable def coldB (v : Value) : Bool := bif plain v then true else (asFz v).isSome
noncomputable def coldsB : List Value → Bool
  | [] => true
  | v :: l => bif coldB v then coldsB l else false
noncomputable def coldRows : List (Nat × List Value) → Bool
  | [] => true
  | x :: l => bif coldsB x.2 then coldRows l else false
noncomputable def knownF (F : List Value → Option (Value × List (Nat × List Value))) (args : List Value) : M Value :=
  M.within (M.bind (M.mapL (coolN 8) args) fun ds => M.bind (M.lift (F ds)) fun r => M.bind (M.guard (coldRows r.2)) fun _ =>
    M.bind M.nextId fun b => M.bind (freshes r.2) fun _ => M.lift (shiftN (fun r => some (Nat.add b r)) 3 r.1))
noncomputable def oneV : List Value → Option Value
  | [x] => some x
  | _ => none
noncomputable def noneV : List Value → Bool
  | [] => true
  | _ => false
noncomputable def in64 : Int → Bool
  | .ofNat m => Nat.blt m two63
  | .negSucc m => Nat.blt m two63
noncomputable def keyI : Value → Option Int
  | .int .i64 n => (guardO (in64 n)).map fun _ => n
  | _ => none
noncomputable def keysI : List MapEntry → Option (List Int)
  | [] => some []
  | e :: l => (keyI e.key).bind fun n => (keysI l).map fun r => n :: r
noncomputable def insI (x : Int) : List Int → List Int
  | [] => [x]
  | y :: l => bif ltA x y then x :: y :: l else y :: insI x l
noncomputable def sortI : List Int → List Int
  | [] => []
  | x :: l => insI x (sortI l)
noncomputable def risesI : List Int → Bool
  | [] => true
  | x :: l => (match l with | [] => true | y :: _ => ltA x y) && risesI l
noncomputable def risesE (clock : Nat) : List MapEntry → Bool
  | [] => true
  | e :: l => (match l with | [] => Nat.blt e.born clock | f :: _ => Nat.blt e.born f.born) && risesE clock l
noncomputable def mapR : Row → Option (List MapEntry × Nat)
  | .map es c => some (es, c)
  | _ => none
noncomputable def asMap : Value → Option Nat
  | .map (some r) => some r
  | _ => none
/-- The keys of the map that a closure holds, sorted, in new memory. -/
noncomputable def sortedA (g : FuncId) (args : List Value) : M Value :=
  M.bind (M.lift (oneV args)) fun x => M.bind (M.lift (asFunc x)) fun p => M.bind (M.guard (Nat.beq p.1 g && noneV p.2.1)) fun _ =>
  M.bind (M.lift (oneV p.2.2)) fun a => M.bind (M.lift (asRef a)) fun q => M.bind (M.guard (Nat.beq q.2 0)) fun _ => M.bind (M.row q.1) fun x => M.bind (M.lift (ownR x)) fun ec => M.bind (M.guard (Nat.beq (sizeE ec.1) 0)) fun _ =>
  M.bind (M.lift (ec.2[0]?)) fun mv => M.bind (M.lift (asMap mv)) fun r => M.bind (M.row r) fun y => M.bind (M.lift (mapR y)) fun ek =>
  M.bind (M.lift (keysI ek.1)) fun ks => M.bind (M.guard (risesI (sortI ks) && risesE ek.2 ek.1 && Nat.ble ks.length 1000)) fun _ =>
  match sortI ks with
  | [] => M.pure (.slice none 0 0)
  | n :: l => M.bind (M.fresh (.cells false 1 ((n :: l).map (Value.int .i64)))) fun r => M.pure (.slice (some ⟨r, 0, some 1⟩) (n :: l).length (n :: l).length)
/-- What slices hold. -/
noncomputable def peekA (size : Nat) (v : Value) : M (List Value) :=
  M.bind (M.lift (asSlice v)) fun b => readA size b.1 b.2.1
noncomputable def peeksA (size : Nat) (F : List (List Value) → Option Value) (args : List Value) : M Value :=
  M.bind (M.mapL (peekA size) args) fun ls => M.bind (M.lift (F ls)) fun v => M.bind (M.guard (plain v)) fun _ => M.pure v
noncomputable def callF (E : Env) (ev : Code → Fr → M (X × Fr)) (f : FuncId) (args : List Value) : M Value :=
  match E.dk f with
  | some F => knownF F args
  | none => match E.sk f with
  | some g => M.within (sortedA g args)
  | none => match E.pk f with
  | some p => M.within (peeksA p.1 p.2 args)
  | none => M.within (match E.fn f with
    | some fn => match fn.body with
      | some c => bif Nat.ble (max fn.ntmps args.length) 1024 then
          M.bind (ev c (Fr.init fn.ntmps args)) fun r => match r.1 with
          | .exit _ => M.fail
          | _ => M.bind (resultsA E r.2 fn.results.toList) fun vs => M.pure (oneOf vs)
        else M.fail
      | none => M.fail
    | none => M.fail)

noncomputable def ev (E : Env) : Nat → Code → Fr → M (X × Fr)
  | 0, _, _ => M.fail
  | n + 1, c, fr => match c with
    | .skip => M.pure (.normal, fr)
    | .region _ ops draw => bif draw
        then M.bind (evDraw E (callF E (ev E n)) ops (Region.before ops) ops.toList 0 [] fr) fun fr => M.pure (.normal, fr)
        else M.bind (evOps E (callF E (ev E n)) ops ops.toList fr) fun fr => M.pure (.normal, fr)
    | .seq a b => M.bind (ev E n a fr) fun r => match r.1 with
      | .normal => ev E n b r.2
      | x => M.pure (x, r.2)
    | .cond c a b => match fr.eval c with
      | .bool t => bif t then ev E n a fr else ev E n b fr
      | _ => M.fail
    | .block id c => M.bind (ev E n c fr) fun r => match r.1 with
      | .exit k => bif Nat.beq k id then M.pure (.normal, r.2) else M.pure (.exit k, r.2)
      | x => M.pure (x, r.2)
    | .loop c => M.bind (ev E n c fr) fun r => match r.1 with
      | .normal => ev E n (.loop c) r.2
      | x => M.pure (x, r.2)
    | .exit id => M.pure (.exit id, fr)
    | .scope c => ev E n c fr
    | .label _ => M.pure (.normal, fr)
    | .ret => M.pure (.ret, fr)
    | _ => M.fail

/-- A call from a state on. -/
noncomputable def run (E : Env) (n : Nat) (f : FuncId) (args : List Value) (s : St) : Option (Value × St) := callF E (ev E n) f args s

/-- Nothing yet. -/
noncomputable def St.empty (next : Nat) : St := { rows := .leaf, next := next, log := [], wlog := [] }

/-- Whether a call answers true. -/
noncomputable def yes (E : Env) (n : Nat) (f : FuncId) (args : List Value) (next : Nat) : Bool :=
  match run E n f args (St.empty next) with
  | some (.bool b, _) => b
  | _ => false

end Go.Cm
namespace Go.Cm
open Go

theorem M.bind_eq {α β : Type} (m : M α) (f : α → M β) (s : St) : M.bind m f s = match m s with | some (a, s') => f a s' | none => none := by
  unfold M.bind; cases m s <;> rfl
theorem M.row_eq (r : Nat) (s : St) : M.row r s = bif Nat.blt r s.next then (match s.rows.get r with | some x => some (x, { s with log := r :: s.log }) | none => none) else none := by
  cases s with | mk rows next log wlog => show Bool.rec (motive := fun _ => Option (Row × St)) none (Option.rec (motive := fun _ => Option (Row × St)) none (fun x => some (x, ⟨rows, next, r :: log, wlog⟩)) (rows.get r)) (Nat.blt r next) = _; simp only; cases Nat.blt r next <;> cases D.get rows r <;> rfl
theorem M.turn_eq (r : Nat) (x : Option Row) (s : St) : M.turn r x s = bif Nat.blt r s.next then
    match s.rows.get r with
    | some _ => bif Nat.ble r 1000000000 then some ((), { s with rows := D.put x deep s.rows r, log := r :: s.log, wlog := r :: s.wlog }) else none
    | none => none
  else none := by
  cases s with | mk rows next log wlog => show Bool.rec (motive := fun _ => Option (Unit × St)) none (Option.rec (motive := fun _ => Option (Unit × St)) none (fun _ => Bool.rec (motive := fun _ => Option (Unit × St)) none (some ((), ⟨D.put x deep rows r, next, r :: log, r :: wlog⟩)) (Nat.ble r 1000000000)) (rows.get r)) (Nat.blt r next) = _; simp only; cases Nat.blt r next <;> cases D.get rows r <;> cases Nat.ble r 1000000000 <;> rfl
theorem M.fresh_eq (x : Row) (s : St) : M.fresh x s = bif Nat.ble s.next 1000000000 then some (s.next, { s with rows := D.put (some x) deep s.rows s.next, next := Nat.succ s.next }) else none := by
  unfold M.fresh; cases s with | mk rows next log wlog => simp only [force_eq]; cases Nat.ble next 1000000000 <;> rfl
theorem M.within_eq {α : Type} (m : M α) (s : St) : M.within m s = match m { s with log := [], wlog := [] } with
  | some (a, s') => some (a, { s' with log := below s.next s'.log ++ s.log, wlog := below s.next s'.wlog ++ s.wlog })
  | none => none := by
  unfold M.within; cases s with | mk rows next log wlog => simp only; cases m ⟨rows, next, [], []⟩ <;> rfl
theorem M.watch_eq {α : Type} (m : M α) (s : St) : M.watch m s = match m { s with log := [], wlog := [] } with
  | some (a, s') => some ((a, { lo := s.next, hi := s'.next, log := below s.next s'.log, wlog := below s.next s'.wlog }),
      { s' with log := below s.next s'.log ++ s.log, wlog := below s.next s'.wlog ++ s.wlog })
  | none => none := by
  unfold M.watch; cases s with | mk rows next log wlog => simp only; cases m ⟨rows, next, [], []⟩ <;> rfl
theorem M.lift_eq {α : Type} (o : Option α) (s : St) : M.lift o s = match o with | some a => some (a, s) | none => none := by
  unfold M.lift; cases o <;> rfl
theorem FT.get5_eq (t : FT 5) (i : Nat) : FT.get5 t i = FT.get 5 t i := by
  have e1 : Nat.div i 16 = i / 4 / 4 := by show i / 16 = _; rw [Nat.div_div_eq_div_mul]
  have e2 : Nat.div i 64 = i / 4 / 4 / 4 := by show i / 64 = _; rw [Nat.div_div_eq_div_mul, Nat.div_div_eq_div_mul]
  have e3 : Nat.div i 256 = i / 4 / 4 / 4 / 4 := by show i / 256 = _; rw [Nat.div_div_eq_div_mul, Nat.div_div_eq_div_mul, Nat.div_div_eq_div_mul]
  unfold FT.get5; rw [e1, e2, e3]; rfl
theorem FT.put5_eq (t : FT 5) (i : Nat) (v : Value) : FT.put5 t i v = FT.put 5 t i v := by
  have e1 : Nat.div i 16 = i / 4 / 4 := by show i / 16 = _; rw [Nat.div_div_eq_div_mul]
  have e2 : Nat.div i 64 = i / 4 / 4 / 4 := by show i / 64 = _; rw [Nat.div_div_eq_div_mul, Nat.div_div_eq_div_mul]
  have e3 : Nat.div i 256 = i / 4 / 4 / 4 / 4 := by show i / 256 = _; rw [Nat.div_div_eq_div_mul, Nat.div_div_eq_div_mul, Nat.div_div_eq_div_mul]
  unfold FT.put5 FT.up; rw [e1, e2, e3]; rfl
theorem Fr.get_eq (fr : Fr) (i : Nat) : fr.get i = bif Nat.blt i fr.n then FT.get 5 fr.t i else undef := by
  unfold Fr.get; cases fr; simp only [FT.get5_eq]
theorem Fr.put_eq (fr : Fr) (i : Nat) (v : Value) : fr.put i v = { fr with t := FT.put 5 fr.t i v } := by
  unfold Fr.put; cases fr; simp only [FT.put5_eq]
theorem Fr.fill_cons (v : Value) (l : List Value) (i : Nat) (t : FT 5) : Fr.fill (v :: l) i t = Fr.fill l (i + 1) (FT.put 5 t i v) := by
  rw [Fr.fill, FT.put5_eq]

theorem beq_ite {α : Sort _} (n m : Nat) (x y : α) : (bif Nat.beq n m then x else y) = if n = m then x else y := by
  by_cases h : n = m
  · subst h; simp
  · have : Nat.beq n m = false := by
      cases hb : Nat.beq n m
      · rfl
      · exact absurd (Nat.eq_of_beq_eq_true hb) h
    rw [this, if_neg h]; rfl

theorem T.get_leaf {α : Type} (n : Nat) : (T.leaf : T α).get n = none := rfl
theorem rec_cond {α : Type} (b : Bool) (x y : α) : (Bool.rec y x b : α) = bif b then x else y := by cases b <;> rfl
theorem T.get_node {α : Type} (l r : T α) (v : Option α) (n : Nat) :
    (T.node l v r).get n = if n = 0 then v else if n % 2 = 1 then l.get (n / 2) else r.get (n / 2 - 1) := by
  rw [← beq_ite, ← beq_ite, ← rec_cond, ← rec_cond]; rfl
theorem T.put_leaf {α : Type} (x : Option α) (k n : Nat) :
    T.put x (k + 1) .leaf n = if n = 0 then .node .leaf x .leaf else if n % 2 = 1 then .node (T.put x k .leaf (n / 2)) none .leaf else .node .leaf none (T.put x k .leaf (n / 2 - 1)) := by
  rw [← beq_ite, ← beq_ite, ← rec_cond, ← rec_cond]; rfl
theorem T.put_node {α : Type} (x : Option α) (k n : Nat) (l r : T α) (v : Option α) :
    T.put x (k + 1) (.node l v r) n = if n = 0 then .node l x r else if n % 2 = 1 then .node (T.put x k l (n / 2)) v r else .node l v (T.put x k r (n / 2 - 1)) := by
  rw [← beq_ite, ← beq_ite, ← rec_cond, ← rec_cond]; rfl

theorem pick4_eq {β : Type} (j : Nat) (a b c d : β) : pick4 j a b c d = if j = 0 then a else if j = 1 then b else if j = 2 then c else d := by rcases j with _ | _ | _ | j <;> rfl
theorem D.get_leaf {α : Type} (n : Nat) : (D.leaf : D α).get n = none := rfl
theorem D.get_zero {α : Type} (v : Option α) (a b c d : D α) : (D.node v a b c d).get 0 = v := rfl
theorem D.get_succ {α : Type} (v : Option α) (a b c d : D α) (m : Nat) : (D.node v a b c d).get (m + 1) = if m % 4 = 0 then a.get (m / 4) else if m % 4 = 1 then b.get (m / 4) else if m % 4 = 2 then c.get (m / 4) else d.get (m / 4) := by
  show pick4 (m % 4) a.get b.get c.get d.get (m / 4) = _
  rw [pick4_eq]; split <;> (try rfl); split <;> (try rfl); split <;> rfl
theorem D.put_leaf {α : Type} (x : Option α) (k n : Nat) : D.put x (k + 1) .leaf n = D.put x (k + 1) (.node none .leaf .leaf .leaf .leaf) n := by cases n <;> rfl
theorem D.put_zero {α : Type} (x : Option α) (k : Nat) (v : Option α) (a b c d : D α) : D.put x (k + 1) (.node v a b c d) 0 = .node x a b c d := rfl
theorem D.put_succ {α : Type} (x : Option α) (k : Nat) (v : Option α) (a b c d : D α) (m : Nat) : D.put x (k + 1) (.node v a b c d) (m + 1) =
    if m % 4 = 0 then .node v (D.put x k a (m / 4)) b c d else if m % 4 = 1 then .node v a (D.put x k b (m / 4)) c d else if m % 4 = 2 then .node v a b (D.put x k c (m / 4)) d else .node v a b c (D.put x k d (m / 4)) := by
  show pick4 (m % 4) _ _ _ _ = _
  rw [pick4_eq]; rfl
theorem D.get_put {α : Type} (x : Option α) : ∀ (k : Nat) (t : D α) (n m : Nat), n + 1 < 2 ^ k → (D.put x k t n).get m = if m = n then x else t.get m
  | 0, _, n, m, h => by simp at h
  | k + 1, t, n, m, h => by
    have hp : 2 ^ (k + 1) = 2 * 2 ^ k := by rw [Nat.pow_succ]; omega
    have key : ∀ (v : Option α) (a b c d : D α), (D.put x (k + 1) (.node v a b c d) n).get m = if m = n then x else (D.node v a b c d).get m := by
      intro v a b c d
      cases n with
      | zero =>
        rw [D.put_zero]
        cases m with
        | zero => rfl
        | succ m => rw [if_neg (show ¬ (m + 1 = 0) by omega), D.get_succ, D.get_succ]
      | succ n =>
        have hk : n / 4 + 1 < 2 ^ k := by omega
        have ih := fun (t : D α) (m : Nat) => D.get_put x k t (n / 4) m hk
        rw [D.put_succ]
        cases m with
        | zero =>
          rw [if_neg (show ¬ (0 = n + 1) by omega), D.get_zero]
          split
          · rfl
          · split
            · rfl
            · split <;> rfl
        | succ m =>
          have h4 : n % 4 = 0 ∨ n % 4 = 1 ∨ n % 4 = 2 ∨ n % 4 = 3 := by omega
          have m4 : m % 4 = 0 ∨ m % 4 = 1 ∨ m % 4 = 2 ∨ m % 4 = 3 := by omega
          by_cases e : m = n
          · subst e
            rw [if_pos rfl]
            rcases h4 with h4 | h4 | h4 | h4 <;> simp [h4, D.get_succ, ih]
          · rcases h4 with h4 | h4 | h4 | h4 <;> rcases m4 with m4 | m4 | m4 | m4 <;> first
              | (have e3 : ¬ m / 4 = n / 4 := by omega
                 simp [h4, m4, D.get_succ, ih, e, e3])
              | simp [h4, m4, D.get_succ, e]
    cases t with
    | leaf =>
      rw [D.put_leaf, key none .leaf .leaf .leaf .leaf]
      have : ∀ m, (D.node none .leaf .leaf .leaf .leaf : D α).get m = none := by
        intro m
        cases m with
        | zero => rfl
        | succ m => rw [D.get_succ]; simp [D.get_leaf]
      rw [this, D.get_leaf]
    | node v a b c d => exact key v a b c d

/-- The form in which it is used: a name up to 10^9. -/
theorem D.got {α : Type} (x : Option α) (t : D α) (n m : Nat) (h : Nat.ble n 1000000000 = true) : (D.put x deep t n).get m = if m = n then x else t.get m :=
  D.get_put x deep t n m (by have := Nat.le_of_ble_eq_true h; show n + 1 < 2 ^ 40; omega)

theorem Q.at_set {α : Type} (q : Q α) (i m : Nat) (x : α) (hi : i < 4) (hm : m < 4) : (Q.set q i x).at m = if m = i then x else q.at m := by
  rcases (by omega : i = 0 ∨ i = 1 ∨ i = 2 ∨ i = 3) with rfl | rfl | rfl | rfl <;>
    rcases (by omega : m = 0 ∨ m = 1 ∨ m = 2 ∨ m = 3) with rfl | rfl | rfl | rfl <;> rfl
theorem FT.get_put_step (k : Nat) (q : Q (FT k)) (i j : Nat) (v : Value) (_hi : i < 4 * 4 ^ k) (_hj : j < 4 * 4 ^ k)
    (ih : ∀ q' : FT k, FT.get k (FT.put k q' (i / 4) v) (j / 4) = if j / 4 = i / 4 then v else FT.get k q' (j / 4)) :
    FT.get k (Q.at (Q.set q (i % 4) (FT.put k (Q.at q (i % 4)) (i / 4) v)) (j % 4)) (j / 4) = if j = i then v else FT.get k (Q.at q (j % 4)) (j / 4) := by
  rw [Q.at_set _ _ _ _ (by omega) (by omega)]
  by_cases e : j % 4 = i % 4
  · rw [if_pos e, ih, e]
    by_cases e' : j = i
    · rw [if_pos e', if_pos (by omega)]
    · rw [if_neg e', if_neg (by omega)]
  · rw [if_neg e, if_neg (by omega)]
theorem FT.get_put : ∀ (k : Nat) (q : FT k) (i j : Nat) (v : Value), i < 4 ^ k → j < 4 ^ k → FT.get k (FT.put k q i v) j = if j = i then v else FT.get k q j
  | 0, _, i, j, v, hi, hj => by
    have : j = i := by simp at hi hj; omega
    rw [if_pos this]; rfl
  | k + 1, q, i, j, v, hi, hj => by
    have hp : 4 ^ (k + 1) = 4 * 4 ^ k := by rw [Nat.pow_succ]; omega
    exact FT.get_put_step k q i j v (by omega) (by omega) (fun q' => FT.get_put k q' (i / 4) (j / 4) v (by omega) (by omega))

theorem Q.at_same {α : Type} (x : α) (i : Nat) : Q.at ⟨x, x, x, x⟩ i = x := by
  match i with | 0 => rfl | 1 => rfl | 2 => rfl | _ + 3 => rfl
theorem FT.get_all (v : Value) : ∀ (k i : Nat), FT.get k (FT.all v k) i = v
  | 0, _ => rfl
  | k + 1, i => by
    have h : FT.get k (Q.at ⟨FT.all v k, FT.all v k, FT.all v k, FT.all v k⟩ (i % 4)) (i / 4) = v := by rw [Q.at_same]; exact FT.get_all v k _
    exact h

end Go.Cm
namespace Go.Cm
open Go

/-- A run, seen from elsewhere: L was touched, W written; where L reads the same, and what is made is new, the same comes of it. -/
structure Ran {α : Type} (m : M α) (s : St) (a : α) (s' : St) (L W : List Nat) : Prop where
  next : s.next ≤ s'.next
  log : s'.log = L ++ s.log
  wlog : s'.wlog = W ++ s.wlog
  sub : ∀ r, r ∈ W → r ∈ L
  lt : ∀ r, r ∈ L → r < s'.next
  same : ∀ r, r ∉ W → (r < s.next ∨ s'.next ≤ r) → s'.rows.get r = s.rows.get r
  again : ∀ s2 : St, s2.next = s.next → (∀ r, r ∈ L → r < s.next → s2.rows.get r = s.rows.get r) →
    ∃ s2' : St, m s2 = some (a, s2') ∧ s2'.next = s'.next ∧ s2'.log = L ++ s2.log ∧ s2'.wlog = W ++ s2.wlog ∧
      ∀ r, s2'.rows.get r = if (r ∈ W ∨ s.next ≤ r) ∧ r < s'.next then s'.rows.get r else s2.rows.get r

def Loc {α : Type} (m : M α) : Prop := ∀ s a s', m s = some (a, s') → ∃ L W, Ran m s a s' L W

theorem Ran.still {α : Type} {m : M α} {s : St} {a : α} (h : ∀ s2 : St, m s2 = some (a, s2)) : Ran m s a s [] [] where
  next := Nat.le_refl _
  log := rfl
  wlog := rfl
  sub := fun _ h => h
  lt := fun _ h => by simp at h
  same := fun _ _ _ => rfl
  again := fun s2 hn _ => ⟨s2, h s2, hn, rfl, rfl, fun r => by rw [if_neg]; rintro ⟨h | h, h'⟩ <;> first | (simp at h; done) | omega⟩

theorem Loc.pure {α : Type} (a : α) : Loc (M.pure a) := by
  intro s a' s' h
  injection h with h; injection h with h1 h2; subst h1; subst h2
  exact ⟨[], [], Ran.still (fun _ => rfl)⟩
theorem Loc.fail {α : Type} : Loc (M.fail : M α) := by intro s a s' h; cases h
theorem Loc.lift {α : Type} (o : Option α) : Loc (M.lift o) := by
  cases o with
  | none => intro s a s' h; cases h
  | some a =>
    intro s a' s' h
    injection h with h; injection h with h1 h2; subst h1; subst h2
    exact ⟨[], [], Ran.still (fun _ => rfl)⟩
theorem blt_lt0 {a b : Nat} (h : Nat.blt a b = true) : a < b := Nat.le_of_ble_eq_true h
theorem lt_blt0 {a b : Nat} (h : a < b) : Nat.blt a b = true := Nat.ble_eq_true_of_le h
theorem Loc.row (r : Nat) : Loc (M.row r) := by
  intro s a s' h
  rw [M.row_eq] at h
  cases hb : Nat.blt r s.next with
  | false => rw [hb] at h; cases h
  | true =>
    have hlt := blt_lt0 hb
    rw [hb] at h
    cases hr : s.rows.get r with
    | none => rw [hr] at h; cases h
    | some x =>
      rw [hr] at h
      injection h with h; injection h with h1 h2; subst h1; subst h2
      refine ⟨[r], [], Nat.le_refl _, rfl, rfl, fun _ h => by simp at h, fun q h => by simp at h; subst h; exact hlt, fun _ _ _ => rfl, fun s2 hn hs => ?_⟩
      refine ⟨{ s2 with log := r :: s2.log }, ?_, hn, rfl, rfl, fun q => ?_⟩
      · rw [M.row_eq]; rw [hn, hb, hs r (by simp) hlt, hr]; rfl
      · rw [if_neg]; rintro ⟨h | h, h'⟩
        · simp at h
        · have : q < s.next := h'; omega
theorem Loc.turn (r : Nat) (x : Option Row) : Loc (M.turn r x) := by
  intro s a s' h
  rw [M.turn_eq] at h
  cases hb0 : Nat.blt r s.next with
  | false => rw [hb0] at h; cases h
  | true =>
    have hlt := blt_lt0 hb0
    rw [hb0] at h
    cases hr : s.rows.get r with
    | none => rw [hr] at h; cases h
    | some y =>
      rw [hr] at h
      cases hb : Nat.ble r 1000000000 with
      | false => rw [hb] at h; cases h
      | true =>
        rw [hb] at h
        injection h with h; injection h with h1 h2; subst h1; subst h2
        refine ⟨[r], [r], Nat.le_refl _, rfl, rfl, fun _ h => h, fun q h => by simp at h; subst h; exact hlt, fun q h _ => ?_, fun s2 hn hs => ?_⟩
        · show (D.put x deep s.rows r).get q = _
          rw [D.got _ _ _ _ hb, if_neg (by simpa using h)]
        · refine ⟨{ s2 with rows := D.put x deep s2.rows r, log := r :: s2.log, wlog := r :: s2.wlog }, ?_, hn, rfl, rfl, fun q => ?_⟩
          · rw [M.turn_eq]; rw [hn, hb0, hs r (by simp) hlt, hr]; simp only [hb, cond_true]
          · show (D.put x deep s2.rows r).get q = if _ then (D.put x deep s.rows r).get q else _
            rw [D.got _ _ _ _ hb, D.got _ _ _ _ hb]
            by_cases e : q = r
            · subst e; rw [if_pos rfl, if_pos rfl]; split <;> first | rfl | (rename_i hh; exact absurd ⟨Or.inl (by simp), hlt⟩ hh)
            · rw [if_neg e, if_neg e]
              rw [if_neg]; rintro ⟨h | h, h'⟩
              · simp at h; exact e h
              · have h2 : q < s.next := h'; omega
theorem Loc.fresh (x : Row) : Loc (M.fresh x) := by
  intro s a s' h
  rw [M.fresh_eq] at h
  cases hb : Nat.ble s.next 1000000000 with
  | false => rw [hb] at h; cases h
  | true =>
    rw [hb] at h
    injection h with h; injection h with h1 h2; subst h1; subst h2
    refine ⟨[], [], Nat.le_succ _, rfl, rfl, fun _ h => h, fun q h => by simp at h, fun q _ hq => ?_, fun s2 hn _ => ?_⟩
    · show (D.put (some x) deep s.rows s.next).get q = _
      have hq' : q < s.next ∨ s.next + 1 ≤ q := hq
      rw [D.got _ _ _ _ hb, if_neg (by omega)]
    · refine ⟨{ s2 with rows := D.put (some x) deep s2.rows s2.next, next := Nat.succ s2.next }, ?_, by rw [← hn], rfl, rfl, fun q => ?_⟩
      · rw [M.fresh_eq]; rw [hn, hb]; rfl
      · show (D.put (some x) deep s2.rows s2.next).get q = if (q ∈ ([] : List Nat) ∨ s.next ≤ q) ∧ q < s.next + 1 then (D.put (some x) deep s.rows s.next).get q else _
        rw [hn, D.got _ _ _ _ hb, D.got _ _ _ _ hb]
        by_cases e : q = s.next
        · subst e; rw [if_pos rfl, if_pos rfl]; split <;> first | rfl | (rename_i hh; exact absurd ⟨Or.inr (Nat.le_refl _), Nat.lt_succ_self _⟩ hh)
        · rw [if_neg e, if_neg e, if_neg]
          rintro ⟨h | h, h'⟩
          · simp at h
          · omega
theorem Loc.bind {α β : Type} {m : M α} {f : α → M β} (hm : Loc m) (hf : ∀ a, Loc (f a)) : Loc (M.bind m f) := by
  intro s b s' h
  rw [M.bind_eq] at h
  cases h1 : m s with
  | none => rw [h1] at h; cases h
  | some p =>
    obtain ⟨a, s1⟩ := p
    rw [h1] at h
    obtain ⟨L1, W1, r1⟩ := hm s a s1 h1
    obtain ⟨L2, W2, r2⟩ := hf a s1 b s' h
    have n1 := r1.next
    have n2 := r2.next
    refine ⟨L2 ++ L1, W2 ++ W1, by omega, ?_, ?_, ?_, ?_, ?_, ?_⟩
    · rw [r2.log, r1.log, List.append_assoc]
    · rw [r2.wlog, r1.wlog, List.append_assoc]
    · intro r h; simp only [List.mem_append] at h ⊢; exact h.imp (r2.sub r) (r1.sub r)
    · intro r h; simp only [List.mem_append] at h
      rcases h with h | h
      · exact r2.lt r h
      · have := r1.lt r h; omega
    · intro r h hr
      simp only [List.mem_append, not_or] at h
      rw [r2.same r h.1 (by omega), r1.same r h.2 (by omega)]
    · intro s2 hn hs
      obtain ⟨t1, e1, en1, el1, ew1, er1⟩ := r1.again s2 hn (fun r hr hl => hs r (by simp [hr]) hl)
      obtain ⟨t2, e2, en2, el2, ew2, er2⟩ := r2.again t1 en1 (fun r hr hl => by
          rw [er1]
          by_cases c : (r ∈ W1 ∨ s.next ≤ r) ∧ r < s1.next
          · rw [if_pos c]
          · rw [if_neg c]
            have hw : r ∉ W1 := fun hw => c ⟨Or.inl hw, hl⟩
            have hlt : r < s.next := by
              rcases Nat.lt_or_ge r s.next with h | h
              · exact h
              · exact absurd ⟨Or.inr h, hl⟩ c
            rw [hs r (by simp [hr]) hlt, r1.same r hw (Or.inl hlt)])
      refine ⟨t2, ?_, en2, ?_, ?_, fun r => ?_⟩
      · rw [M.bind_eq]; rw [e1]; exact e2
      · rw [el2, el1, List.append_assoc]
      · rw [ew2, ew1, List.append_assoc]
      · rw [er2, er1]
        by_cases c2 : (r ∈ W2 ∨ s1.next ≤ r) ∧ r < s'.next
        · rw [if_pos c2, if_pos ⟨by rcases c2.1 with h | h; exact Or.inl (by simp [h]); exact Or.inr (by omega), c2.2⟩]
        · rw [if_neg c2]
          by_cases c1 : (r ∈ W1 ∨ s.next ≤ r) ∧ r < s1.next
          · have hw2 : r ∉ W2 := fun hw => c2 ⟨Or.inl hw, by omega⟩
            rw [if_pos c1, if_pos ⟨by rcases c1.1 with h | h; exact Or.inl (by simp [h]); exact Or.inr h, by omega⟩]
            exact (r2.same r hw2 (Or.inl c1.2)).symm
          · rw [if_neg c1, if_neg]
            rintro ⟨h, h'⟩
            rcases h with h | h
            · simp only [List.mem_append] at h
              rcases h with h | h
              · exact c2 ⟨Or.inl h, h'⟩
              · exact c1 ⟨Or.inl h, r1.lt r (r1.sub r h)⟩
            · rcases Nat.lt_or_ge r s1.next with h2 | h2
              · exact c1 ⟨Or.inr h, h2⟩
              · exact c2 ⟨Or.inr h2, h'⟩

theorem mem_below (n r : Nat) : ∀ l : List Nat, r ∈ below n l ↔ r ∈ l ∧ r < n
  | [] => by simp [below_nil]
  | x :: l => by
    rw [below_cons]
    cases h : Nat.blt x n with
    | true =>
      have hx : x < n := Nat.le_of_ble_eq_true h
      simp only [cond_true, List.mem_cons, mem_below n r l]
      constructor
      · rintro (h | h)
        · subst h; exact ⟨Or.inl rfl, hx⟩
        · exact ⟨Or.inr h.1, h.2⟩
      · rintro ⟨h | h, h'⟩
        · exact Or.inl h
        · exact Or.inr ⟨h, h'⟩
    | false =>
      have hx : ¬ x < n := by
        intro hx
        have : Nat.blt x n = true := Nat.ble_eq_true_of_le hx
        rw [this] at h; cases h
      simp only [cond_false, List.mem_cons, mem_below n r l]
      constructor
      · rintro ⟨h, h'⟩; exact ⟨Or.inr h, h'⟩
      · rintro ⟨h | h, h'⟩
        · subst h; exact absurd h' hx
        · exact ⟨h, h'⟩

theorem Loc.within {α : Type} {m : M α} (hm : Loc m) : Loc (M.within m) := by
  intro s a s' h
  rw [M.within_eq] at h
  cases h1 : m { s with log := [], wlog := [] } with
  | none => rw [h1] at h; cases h
  | some p =>
    obtain ⟨a1, s1⟩ := p
    rw [h1] at h
    injection h with h; injection h with e1 e2; subst e1; subst e2
    obtain ⟨L, W, r⟩ := hm { s with log := [], wlog := [] } a1 s1 h1
    have hlog : s1.log = L := by have := r.log; simpa using this
    have hwlog : s1.wlog = W := by have := r.wlog; simpa using this
    refine ⟨below s.next L, below s.next W, r.next, by rw [← hlog], by rw [← hwlog], ?_, ?_, ?_, ?_⟩
    · intro q hq; rw [mem_below] at hq ⊢; exact ⟨r.sub q hq.1, hq.2⟩
    · intro q hq; rw [mem_below] at hq; exact r.lt q hq.1
    · intro q hq hl
      refine r.same q (fun h => hq ((mem_below _ _ _).2 ⟨h, ?_⟩)) hl
      rcases hl with hl | hl
      · exact hl
      · have h1 := r.lt q (r.sub q h)
        have h2 : s1.next ≤ q := hl
        omega
    · intro s2 hn hs
      obtain ⟨t, e, en, el, ew, er⟩ := r.again { s2 with log := [], wlog := [] } hn (fun q hq hl => hs q ((mem_below _ _ _).2 ⟨hq, hl⟩) hl)
      refine ⟨{ t with log := below s2.next t.log ++ s2.log, wlog := below s2.next t.wlog ++ s2.wlog }, ?_, en, ?_, ?_, fun q => ?_⟩
      · rw [M.within_eq]; rw [e]
      · show below s2.next t.log ++ s2.log = _
        rw [el, hn]; simp
      · show below s2.next t.wlog ++ s2.wlog = _
        rw [ew, hn]; simp
      · show t.rows.get q = _
        rw [er]
        show (if (q ∈ W ∨ s.next ≤ q) ∧ q < s1.next then s1.rows.get q else s2.rows.get q) = if (q ∈ below s.next W ∨ s.next ≤ q) ∧ q < s1.next then s1.rows.get q else s2.rows.get q
        by_cases c : (q ∈ W ∨ s.next ≤ q) ∧ q < s1.next
        · rw [if_pos c, if_pos]
          refine ⟨?_, c.2⟩
          rcases Nat.lt_or_ge q s.next with h | h
          · rcases c.1 with hw | hw
            · exact Or.inl ((mem_below _ _ _).2 ⟨hw, h⟩)
            · exact Or.inr hw
          · exact Or.inr h
        · rw [if_neg c, if_neg]
          rintro ⟨h, h'⟩
          refine c ⟨?_, h'⟩
          rcases h with h | h
          · exact Or.inl ((mem_below _ _ _).1 h).1
          · exact Or.inr h

theorem Loc.watch {α : Type} {m : M α} (hm : Loc m) : Loc (M.watch m) := by
  intro s a s' h
  rw [M.watch_eq] at h
  cases h1 : m { s with log := [], wlog := [] } with
  | none => rw [h1] at h; cases h
  | some p =>
    obtain ⟨a1, s1⟩ := p
    rw [h1] at h
    injection h with h; injection h with e1 e2; subst e1; subst e2
    obtain ⟨L, W, r⟩ := hm { s with log := [], wlog := [] } a1 s1 h1
    have hlog : s1.log = L := by have := r.log; simpa using this
    have hwlog : s1.wlog = W := by have := r.wlog; simpa using this
    refine ⟨below s.next L, below s.next W, r.next, by rw [← hlog], by rw [← hwlog], ?_, ?_, ?_, ?_⟩
    · intro q hq; rw [mem_below] at hq ⊢; exact ⟨r.sub q hq.1, hq.2⟩
    · intro q hq; rw [mem_below] at hq; exact r.lt q hq.1
    · intro q hq hl
      refine r.same q (fun h => hq ((mem_below _ _ _).2 ⟨h, ?_⟩)) hl
      rcases hl with hl | hl
      · exact hl
      · have h1 := r.lt q (r.sub q h)
        have h2 : s1.next ≤ q := hl
        omega
    · intro s2 hn hs
      obtain ⟨t, e, en, el, ew, er⟩ := r.again { s2 with log := [], wlog := [] } hn (fun q hq hl => hs q ((mem_below _ _ _).2 ⟨hq, hl⟩) hl)
      have el' : t.log = L := by rw [el]; simp
      have ew' : t.wlog = W := by rw [ew]; simp
      refine ⟨{ t with log := below s2.next t.log ++ s2.log, wlog := below s2.next t.wlog ++ s2.wlog }, ?_, en, ?_, ?_, fun q => ?_⟩
      · rw [M.watch_eq]; rw [e]; simp only [hn, en, el', ew', hlog, hwlog]
      · show below s2.next t.log ++ s2.log = _
        rw [el', hn]
      · show below s2.next t.wlog ++ s2.wlog = _
        rw [ew', hn]
      · show t.rows.get q = _
        rw [er]
        show (if (q ∈ W ∨ s.next ≤ q) ∧ q < s1.next then s1.rows.get q else s2.rows.get q) = if (q ∈ below s.next W ∨ s.next ≤ q) ∧ q < s1.next then s1.rows.get q else s2.rows.get q
        by_cases c : (q ∈ W ∨ s.next ≤ q) ∧ q < s1.next
        · rw [if_pos c, if_pos]
          refine ⟨?_, c.2⟩
          rcases Nat.lt_or_ge q s.next with h | h
          · rcases c.1 with hw | hw
            · exact Or.inl ((mem_below _ _ _).2 ⟨hw, h⟩)
            · exact Or.inr hw
          · exact Or.inr h
        · rw [if_neg c, if_neg]
          rintro ⟨h, h'⟩
          refine c ⟨?_, h'⟩
          rcases h with h | h
          · exact Or.inl ((mem_below _ _ _).1 h).1
          · exact Or.inr h

theorem Loc.cond {α : Type} {b : Bool} {m m' : M α} (h : Loc m) (h' : Loc m') : Loc (bif b then m else m') := by cases b; exact h'; exact h


section
variable (E : Env)

theorem Loc.guard (b : Bool) : Loc (M.guard b) := by
  unfold M.guard
  intro s a s' h
  cases b with
  | false => cases h
  | true => injection h with h; injection h with h1 h2; subst h2; exact ⟨[], [], Ran.still (fun _ => rfl)⟩

theorem Loc.loadA (t : TypeId) (a : Value) : Loc (loadA E t a) := by
  unfold Cm.loadA
  split
  · exact Loc.bind (Loc.guard _) fun _ => Loc.lift _
  · exact Loc.bind (Loc.lift _) fun _ => Loc.bind (Loc.row _) fun _ => Loc.bind (Loc.lift _) fun _ => Loc.lift _
theorem Loc.readF (size : Nat) (x : Value) (n : Nat → Nat) : Loc (readF size x n) :=
  Loc.bind (Loc.lift _) fun _ => Loc.bind (Loc.guard _) fun _ => Loc.bind (Loc.guard _) fun _ => Loc.bind (Loc.lift _) fun _ => Loc.pure _
theorem Loc.writeA (r off : Nat) (l : List Value) : Loc (writeA r off l) :=
  Loc.bind (Loc.row _) fun _ => Loc.bind (Loc.lift _) fun _ => Loc.bind (Loc.guard _) fun _ => Loc.bind (Loc.lift _) fun _ => Loc.turn _ _
theorem Loc.storeA (t : TypeId) (a v : Value) : Loc (storeA E t a v) :=
  Loc.bind (Loc.lift _) fun _ => Loc.bind (Loc.lift _) fun _ => Loc.bind (Loc.guard _) fun _ => Loc.writeA _ _ _
theorem Loc.newA (es : Nat) (cs : List Value) : Loc (newA es cs) := Loc.bind (Loc.fresh _) fun _ => Loc.pure _
theorem Loc.readA (size : Nat) (a : Option Addr) (n : Nat) : Loc (readA size a n) := by
  cases n with
  | zero => exact Loc.pure _
  | succ n => unfold Cm.readA; exact Loc.bind (Loc.lift _) fun _ => Loc.bind (Loc.row _) fun _ => Loc.bind (Loc.lift _) fun _ => Loc.lift _
theorem Loc.buildSliceA (t : TypeId) (len : Nat) (ps : List (Nat × Value)) : Loc (buildSliceA E t len ps) :=
  Loc.bind (Loc.lift _) fun _ => Loc.bind (Loc.lift _) fun _ => Loc.bind (Loc.guard _) fun _ => Loc.bind (Loc.lift _) fun _ => Loc.bind (Loc.fresh _) fun _ => Loc.pure _
theorem Loc.makeSliceA (t : TypeId) (l c : Value) : Loc (makeSliceA E t l c) :=
  Loc.bind (Loc.lift _) fun _ => Loc.bind (Loc.lift _) fun _ => Loc.bind (Loc.lift _) fun _ => Loc.bind (Loc.lift _) fun _ => Loc.bind (Loc.guard _) fun _ => Loc.bind (Loc.fresh _) fun _ => Loc.pure _
theorem Loc.newCells (i : Elem) (z : Bool) (x : Value) : Loc (newCells E i z x) := by
  unfold Cm.newCells
  cases z with
  | true => simp only [cond_true]; exact Loc.bind (Loc.lift _) fun _ => Loc.bind (Loc.guard _) fun _ => Loc.pure _
  | false =>
    simp only [cond_false]
    split
    · exact Loc.bind (Loc.readA _ _ _) fun _ => Loc.pure _
    · exact Loc.bind (Loc.guard _) fun _ => Loc.pure _
    · exact Loc.bind (Loc.guard _) fun _ => Loc.bind (Loc.lift _) fun _ => Loc.pure _
    · exact Loc.readF _ _ _
theorem Loc.leaveA (i : Elem) (b : Option Addr) : Loc (leaveA i b) := by
  unfold Cm.leaveA
  split
  · exact Loc.bind (Loc.row _) fun _ => Loc.bind (Loc.lift _) fun _ => Loc.bind (Loc.guard _) fun _ => Loc.bind (Loc.turn _ _) fun _ => Loc.pure _
  · exact Loc.pure _
theorem Loc.appendA (sT xT : TypeId) (v x : Value) : Loc (appendA E sT xT v x) := by
  refine Loc.bind (Loc.lift _) fun _ => Loc.bind (Loc.lift _) fun _ => Loc.bind (Loc.lift _) fun _ => Loc.bind (Loc.lift _) fun _ => Loc.bind (Loc.newCells _ _ _ _) fun nl => Loc.bind (Loc.guard _) fun _ => Loc.cond ?_ ?_
  · unfold Cm.appendIn
    cases nl.2 with
    | nil => exact Loc.pure _
    | cons => exact Loc.bind (Loc.lift _) fun _ => Loc.bind (Loc.writeA _ _ _) fun _ => Loc.pure _
  · exact Loc.bind (Loc.guard _) fun _ => Loc.bind (Loc.readA _ _ _) fun _ => Loc.bind (Loc.leaveA _ _) fun _ => Loc.bind (Loc.fresh _) fun _ => Loc.pure _
theorem Loc.copied (i : Elem) (n : Nat) (x : Value) : Loc (copied i n x) := by
  unfold Cm.copied
  split
  · exact Loc.bind (Loc.readA _ _ _) fun _ => Loc.pure _
  · exact Loc.bind (Loc.guard _) fun _ => Loc.pure _
  · exact Loc.readF _ _ _
theorem Loc.copyA (dT : TypeId) (d x : Value) : Loc (copyA E dT d x) := by
  refine Loc.bind (Loc.lift _) fun _ => Loc.bind (Loc.lift _) fun _ => Loc.bind (Loc.lift _) fun _ => Loc.bind (Loc.copied _ _ _) fun kl => ?_
  split
  · exact Loc.pure _
  · exact Loc.bind (Loc.lift _) fun _ => Loc.bind (Loc.writeA _ _ _) fun _ => Loc.pure _
theorem Loc.convertA (s d : TypeId) (x : Value) : Loc (convertA E s d x) := by
  unfold Cm.convertA
  refine Loc.cond (Loc.lift _) ?_
  refine Loc.bind (Loc.lift _) fun _ => Loc.bind (Loc.lift _) fun _ => ?_
  split
  · exact Loc.bind (Loc.lift _) fun _ => Loc.bind (Loc.row _) fun _ => Loc.bind (Loc.lift _) fun _ => Loc.bind (Loc.guard _) fun _ => Loc.bind (Loc.lift _) fun _ => Loc.pure _
  · exact Loc.cond (Loc.pure _) (Loc.bind (Loc.lift _) fun _ => Loc.bind (Loc.lift _) fun _ => Loc.bind (Loc.fresh _) fun _ => Loc.pure _)
  · exact Loc.cond (Loc.bind (Loc.lift _) fun _ => Loc.bind (Loc.lift _) fun _ => Loc.bind (Loc.readA _ _ _) fun _ => Loc.bind (Loc.lift _) fun _ => Loc.pure _)
      (Loc.bind (Loc.guard _) fun _ => Loc.bind (Loc.lift _) fun _ => Loc.bind (Loc.lift _) fun _ => Loc.bind (Loc.lift _) fun _ => Loc.bind (Loc.row _) fun _ => Loc.bind (Loc.lift _) fun _ => Loc.bind (Loc.turn _ _) fun _ => Loc.pure _)
  · exact Loc.cond (Loc.lift _) (Loc.bind (Loc.guard _) fun _ => Loc.bind (Loc.lift _) fun _ => Loc.bind (Loc.lift _) fun _ => Loc.bind (Loc.readF _ _ _) fun _ => Loc.bind (Loc.lift _) fun _ => Loc.pure _)
theorem Loc.lenA (t : TypeId) (x : Value) : Loc (lenA E t x) := by
  unfold Cm.lenA
  refine Loc.cond (Loc.lift _) ?_
  refine Loc.bind (Loc.lift _) fun d => ?_
  split
  · exact Loc.bind (Loc.lift _) fun _ => Loc.pure _
  · split
    · exact Loc.bind (Loc.guard _) fun _ => Loc.pure _
    · exact Loc.bind (Loc.lift _) fun _ => Loc.pure _
  · exact Loc.pure _
  · split
    · exact Loc.pure _
    · refine Loc.bind (Loc.row _) fun x => ?_
      split
      · exact Loc.pure _
      · exact Loc.fail
    · exact Loc.fail
  · exact Loc.fail
theorem Loc.clearA (t : TypeId) (x : Value) : Loc (clearA E t x) := by
  refine Loc.bind (Loc.lift _) fun _ => Loc.bind (Loc.lift _) fun _ => Loc.bind (Loc.lift _) fun b => ?_
  split
  · exact Loc.pure _
  · exact Loc.bind (Loc.lift _) fun _ => Loc.bind (Loc.writeA _ _ _) fun _ => Loc.pure _
theorem Loc.asV {m : M Value} (h : Loc m) : Loc (asV m) := Loc.bind h fun _ => Loc.pure _
theorem Loc.asU {m : M Unit} (h : Loc m) : Loc (asU m) := Loc.bind h fun _ => Loc.pure _
theorem Loc.one {f : TypeId → Value → M Value} (h : ∀ t x, Loc (f t x)) (ts : List TypeId) (args : List Value) : Loc (one f ts args) := by
  unfold Cm.one
  repeat' split
  all_goals first | exact h _ _ | exact Loc.fail
theorem Loc.two {f : TypeId → TypeId → Value → Value → M Value} (h : ∀ t u x y, Loc (f t u x y)) (ts : List TypeId) (args : List Value) : Loc (two f ts args) := by
  unfold Cm.two
  repeat' split
  all_goals first | exact h _ _ _ _ | exact Loc.fail
theorem Loc.deleteA (t : TypeId) (m k : Value) : Loc (deleteA E t m k) := by
  unfold Cm.deleteA
  split
  · refine Loc.bind (Loc.lift _) fun _ => Loc.bind (Loc.row _) fun _ => Loc.bind (Loc.lift _) fun _ => Loc.bind (Loc.lift _) fun _ => ?_
    split
    · exact Loc.bind (Loc.turn _ _) fun _ => Loc.pure _
    · exact Loc.bind (Loc.turn _ _) fun _ => Loc.pure _
  · exact Loc.fail
theorem Loc.stringAt (t : TypeId) (a : Addr) (n : Nat) : Loc (stringAt E t a n) :=
  Loc.bind (Loc.lift _) fun _ => Loc.bind (Loc.lift _) fun _ => Loc.bind (Loc.lift _) fun _ => Loc.bind (Loc.row _) fun _ => Loc.bind (Loc.lift _) fun _ => Loc.bind (Loc.guard _) fun _ => Loc.bind (Loc.lift _) fun _ => Loc.bind (Loc.lift _) fun _ => Loc.bind (Loc.turn _ _) fun _ => Loc.pure _
theorem Loc.unsafeStringA (ts : List TypeId) (args : List Value) : Loc (unsafeStringA E ts args) := by
  unfold Cm.unsafeStringA
  split
  · split
    · exact Loc.stringAt _ _ _ _
    · exact Loc.fail
  · split
    · exact Loc.pure _
    · exact Loc.fail
  · exact Loc.fail
theorem Loc.builtinA (b : Builtin) (ts : Array TypeId) (type : TypeId) (args : List Value) : Loc (builtinA E b ts type args) := by
  unfold Cm.builtinA
  split
  · exact Loc.two (fun _ _ _ _ => Loc.appendA _ _ _ _ _) _ _
  · exact Loc.two (fun _ _ _ _ => Loc.copyA _ _ _ _) _ _
  · exact Loc.one (fun _ _ => Loc.lenA _ _ _) _ _
  · exact Loc.one (fun _ _ => Loc.lift _) _ _
  · exact Loc.one (fun _ _ => Loc.clearA _ _ _) _ _
  · exact Loc.two (fun _ _ _ _ => Loc.deleteA _ _ _ _) _ _
  · exact Loc.bind (Loc.guard _) fun _ => Loc.lift _
  · exact Loc.bind (Loc.guard _) fun _ => Loc.lift _
  · exact Loc.lift _
  · exact Loc.unsafeStringA _ _ _
  · exact Loc.fail
theorem Loc.callA (f : FuncId) (args : List Value) : Loc (callA E f args) := by
  unfold Cm.callA
  split
  · exact Loc.bind (Loc.guard _) fun _ => Loc.bind (Loc.lift _) fun _ => Loc.pure _
  · split
    · exact Loc.pure _
    · exact Loc.bind (Loc.lift _) fun _ => Loc.pure _
theorem Loc.nextA (it : Value) (b : Bool) : Loc (nextA it b) :=
  Loc.bind (Loc.guard _) fun _ => Loc.bind (Loc.lift _) fun _ => Loc.bind (Loc.guard _) fun _ => Loc.bind (Loc.row _) fun _ => Loc.bind (Loc.lift _) fun _ =>
    Loc.cond (Loc.bind (Loc.turn _ _) fun _ => Loc.pure _) (Loc.pure _)
theorem Loc.entriesA (x : Value) : Loc (entriesA x) := by
  unfold Cm.entriesA
  split
  · exact Loc.pure _
  · exact Loc.bind (Loc.row _) fun _ => Loc.bind (Loc.lift _) fun _ => Loc.pure _
  · exact Loc.fail
theorem Loc.lookupA (t : TypeId) (x i : Value) (c : Bool) : Loc (lookupA E t x i c) := by
  refine Loc.bind (Loc.lift _) fun _ => Loc.bind (Loc.entriesA _) fun _ => Loc.bind (Loc.lift _) fun _ => ?_
  split
  · exact Loc.bind (Loc.lift _) fun _ => Loc.pure _
  · exact Loc.bind (Loc.lift _) fun _ => Loc.pure _
theorem Loc.updateA (t : TypeId) (m k v : Value) : Loc (updateA E t m k v) := by
  unfold Cm.updateA
  split
  · refine Loc.bind (Loc.lift _) fun _ => Loc.bind (Loc.row _) fun _ => Loc.bind (Loc.lift _) fun _ => Loc.bind (Loc.lift _) fun _ => ?_
    split
    · exact Loc.bind (Loc.lift _) fun _ => Loc.bind (Loc.guard _) fun _ => Loc.turn _ _
    · exact Loc.turn _ _
  · exact Loc.fail
theorem Loc.execA (ρ : Operand → Value) (o : Oper) : Loc (execA E ρ o) := by
  unfold Cm.execA
  split
  · exact Loc.asV (Loc.bind (Loc.lift _) fun _ => Loc.newA _ _)
  · exact Loc.cond Loc.fail (Loc.asV (Loc.newA _ _))
  · exact Loc.asV (Loc.buildSliceA _ _ _ _)
  · exact Loc.asV (Loc.loadA _ _ _)
  · exact Loc.asU (Loc.storeA _ _ _ _)
  · exact Loc.asV (Loc.convertA _ _ _ _)
  · exact Loc.asV (Loc.makeSliceA _ _ _ _)
  · exact Loc.asV (Loc.bind (Loc.lift _) fun _ => Loc.bind (Loc.guard _) fun _ => Loc.bind (Loc.lift _) fun _ => Loc.bind (Loc.fresh _) fun _ => Loc.pure _)
  · exact Loc.asV (Loc.nextA _ _)
  · exact Loc.asV (Loc.bind (Loc.fresh _) fun _ => Loc.pure _)
  · exact Loc.asV (Loc.lookupA _ _ _ _ _)
  · exact Loc.asU (Loc.updateA _ _ _ _ _)
  · unfold opCallA
    split
    · exact Loc.asV (Loc.builtinA _ _ _ _ _)
    · exact Loc.bind (Loc.lift _) fun _ => Loc.callA _ _ _
    · exact Loc.fail
  · exact Loc.asV (Loc.lift _)

theorem Loc.dst (fr : Fr) (d : Option Tmp) (v : Value) : Loc (fr.dst d v) := by
  unfold Fr.dst
  split
  · exact Loc.pure _
  · exact Loc.cond (Loc.pure _) Loc.fail

variable {call : FuncId → List Value → M Value} (hc : ∀ f args, Loc (call f args))
include hc
theorem Loc.evOp (ops : Array Oper) (o : Oper) (fr : Fr) : Loc (evOp E call ops o fr) := by
  unfold Cm.evOp
  refine Loc.cond Loc.fail (Loc.cond (Loc.bind (Loc.execA _ _ _) fun nx => ?_) (Loc.dst _ _ _))
  split
  · exact Loc.dst _ _ _
  · exact Loc.dst _ _ _
  · exact Loc.dst _ _ _
  · exact Loc.bind (hc _ _) fun _ => Loc.dst _ _ _
theorem Loc.evOps (ops : Array Oper) : ∀ (l : List Oper) (fr : Fr), Loc (evOps E call ops l fr)
  | [], _ => Loc.pure _
  | o :: l, fr => Loc.bind (Loc.evOp E hc ops o fr) fun fr => Loc.evOps ops l fr
theorem Loc.evDraw (ops : Array Oper) (before : Array Nat) : ∀ (l : List Oper) (i : Nat) (ds : List (Nat × Did)) (fr : Fr), Loc (evDraw E call ops before l i ds fr)
  | [], _, _, _ => Loc.pure _
  | o :: l, _, _, fr => Loc.bind (Loc.watch (Loc.evOp E hc ops o fr)) fun _ => Loc.cond (Loc.evDraw ops before l _ _ _) Loc.fail
end

theorem Loc.resA (E : Env) (fr : Fr) (r : ResultVar) : Loc (resA E fr r) := by
  cases r
  · exact Loc.pure _
  · exact Loc.loadA _ _ _
theorem Loc.resultsA (E : Env) (fr : Fr) : ∀ l : List ResultVar, Loc (resultsA E fr l)
  | [] => Loc.pure _
  | r :: l => Loc.bind (Loc.resA E fr r) fun _ => Loc.bind (Loc.resultsA E fr l) fun _ => Loc.pure _
theorem Loc.mapL {α β : Type} {f : α → M β} (h : ∀ a, Loc (f a)) : ∀ l : List α, Loc (M.mapL f l)
  | [] => Loc.pure _
  | a :: l => Loc.bind (h a) fun _ => Loc.bind (Loc.mapL h l) fun _ => Loc.pure _
theorem Loc.coolRow (r : Nat) (x : Row) : Loc (coolRow r x) := by
  unfold Cm.coolRow
  split
  · exact Loc.turn _ _
  · exact Loc.pure _
theorem Loc.coolN : ∀ (k : Nat) (v : Value), Loc (coolN k v)
  | 0, _ => Loc.fail
  | k + 1, v => by
    have ih := Loc.coolN k
    unfold Cm.coolN
    split
    · exact Loc.bind (Loc.guard _) fun _ => Loc.bind (Loc.row _) fun _ => Loc.bind (Loc.lift _) fun _ => Loc.bind (Loc.guard _) fun _ => Loc.bind (Loc.lift _) fun _ => Loc.bind (Loc.coolRow _ _) fun _ => Loc.bind (Loc.mapL ih _) fun _ => Loc.pure _
    · exact Loc.pure _
    · exact Loc.bind (Loc.mapL ih _) fun _ => Loc.pure _
    · refine Loc.cond (Loc.pure _) ?_
      split
      · exact Loc.pure _
      · exact Loc.fail
theorem Loc.freshes : ∀ l : List (Nat × List Value), Loc (freshes l)
  | [] => Loc.pure _
  | _ :: l => Loc.bind (Loc.fresh _) fun _ => Loc.freshes l
theorem Loc.nextId : Loc M.nextId := by
  intro s a s' h
  injection h with h; injection h with h1 h2; subst h1; subst h2
  refine ⟨[], [], Nat.le_refl _, rfl, rfl, fun _ h => h, fun q h => by simp at h, fun _ _ _ => rfl, fun s2 hn _ => ⟨s2, ?_, hn, rfl, rfl, fun q => ?_⟩⟩
  · unfold M.nextId; rw [hn]
  · rw [if_neg]; rintro ⟨h | h, h'⟩
    · simp at h
    · omega
theorem Loc.knownF (F : List Value → Option (Value × List (Nat × List Value))) (args : List Value) : Loc (knownF F args) :=
  Loc.within (Loc.bind (Loc.mapL (Loc.coolN 8) _) fun _ => Loc.bind (Loc.lift _) fun _ => Loc.bind (Loc.guard _) fun _ => Loc.bind Loc.nextId fun _ => Loc.bind (Loc.freshes _) fun _ => Loc.lift _)
theorem Loc.sortedA (g : FuncId) (args : List Value) : Loc (sortedA g args) := by
  unfold Cm.sortedA
  refine Loc.bind (Loc.lift _) fun _ => Loc.bind (Loc.lift _) fun _ => Loc.bind (Loc.guard _) fun _ => Loc.bind (Loc.lift _) fun _ => Loc.bind (Loc.lift _) fun _ => Loc.bind (Loc.guard _) fun _ => Loc.bind (Loc.row _) fun _ => Loc.bind (Loc.lift _) fun _ => Loc.bind (Loc.guard _) fun _ =>
    Loc.bind (Loc.lift _) fun _ => Loc.bind (Loc.lift _) fun _ => Loc.bind (Loc.row _) fun _ => Loc.bind (Loc.lift _) fun _ => Loc.bind (Loc.lift _) fun _ => Loc.bind (Loc.guard _) fun _ => ?_
  split
  · exact Loc.pure _
  · exact Loc.bind (Loc.fresh _) fun _ => Loc.pure _
theorem Loc.peeksA (size : Nat) (F : List (List Value) → Option Value) (args : List Value) : Loc (peeksA size F args) :=
  Loc.bind (Loc.mapL (fun _ => Loc.bind (Loc.lift _) fun _ => Loc.readA _ _ _) _) fun _ => Loc.bind (Loc.lift _) fun _ => Loc.bind (Loc.guard _) fun _ => Loc.pure _
theorem Loc.callF (E : Env) {ev : Code → Fr → M (X × Fr)} (h : ∀ c fr, Loc (ev c fr)) (f : FuncId) (args : List Value) : Loc (callF E ev f args) := by
  unfold Cm.callF
  split
  · exact Loc.knownF _ _
  split
  · exact Loc.within (Loc.sortedA _ _)
  split
  · exact Loc.within (Loc.peeksA _ _ _)
  refine Loc.within ?_
  split
  · split
    · refine Loc.cond (Loc.bind (h _ _) fun r => ?_) Loc.fail
      split
      · exact Loc.fail
      · exact Loc.bind (Loc.resultsA _ _ _) fun _ => Loc.pure _
    · exact Loc.fail
  · exact Loc.fail
theorem Loc.ev (E : Env) : ∀ (n : Nat) (c : Code) (fr : Fr), Loc (ev E n c fr)
  | 0, _, _ => Loc.fail
  | n + 1, c, fr => by
    have ih := Loc.ev E n
    have hcall := Loc.callF E ih
    unfold Cm.ev
    split
    · exact Loc.pure _
    · exact Loc.cond (Loc.bind (Loc.evDraw E hcall _ _ _ _ _ _) fun _ => Loc.pure _) (Loc.bind (Loc.evOps E hcall _ _ _) fun _ => Loc.pure _)
    · refine Loc.bind (ih _ _) fun r => ?_
      split
      · exact ih _ _
      · exact Loc.pure _
    · split
      · exact Loc.cond (ih _ _) (ih _ _)
      · exact Loc.fail
    · refine Loc.bind (ih _ _) fun r => ?_
      split
      · exact Loc.cond (Loc.pure _) (Loc.pure _)
      · exact Loc.pure _
    · refine Loc.bind (ih _ _) fun r => ?_
      split
      · exact ih _ _
      · exact Loc.pure _
    · exact Loc.pure _
    · exact ih _ _
    · exact Loc.pure _
    · exact Loc.pure _
    · exact Loc.fail

end Go.Cm
