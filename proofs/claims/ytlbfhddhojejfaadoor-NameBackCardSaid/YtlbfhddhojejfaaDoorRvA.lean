/- The abstract evaluator: types, cells, states, shapes, evaluation of operations and of code. Plain definitions, no theorem about the machine. -/
import Derived.Calls
set_option linter.all false
namespace Rv
open Go

abbrev Str := List UInt8
def mkS (s : Str) : ByteArray := ⟨⟨s⟩⟩

inductive Ty where
  | int (k : IntKind) | bool | str | sl (t : Ty) | nil | pair (a b : Ty)
  deriving DecidableEq

@[reducible] def Ty.D : Ty → Type
  | .int _ => Int
  | .bool => Bool
  | .str => Str
  | .sl t => List t.D
  | .nil => Unit
  | .pair a b => a.D × b.D

def Ty.size : Ty → Nat
  | .nil => 0
  | .pair a b => a.size + b.size
  | _ => 1

def Ty.dflt : (t : Ty) → t.D
  | .int _ => (0 : Int)
  | .bool => false
  | .str => ([] : Str)
  | .sl _ => []
  | .nil => ()
  | .pair a b => (a.dflt, b.dflt)

/-- A key and its version, and the version of its contents. -/
abbrev Dep := Option (Nat × Nat × Nat)

inductive Cell where
  | int (k : IntKind) (n : Int)
  | bool (b : Bool)
  | str (s : Str)
  | sl (d : Dep) (t : Ty) (xs : List t.D)
  | nilS
  | own (k v : Nat)
  | ownP (k v n : Nat)
  | ptr (k v off : Nat)
  | elt (k v i off : Nat)
  | slp (d : Dep) (t : Ty) (xs : List t.D) (i off : Nat)
  | raw (v : Value)
  | err (b : Bool)
  | ifo (t : TypeId) (k : IntKind) (o : Option Int)
  | glob (g : Nat)
  | pel (k v base n i : Nat)
  | dead

inductive V1 where
  | c (x : Cell)
  | agg (cs : List Cell)

inductive V where
  | v (x : V1)
  | tup (xs : List V1)
  | clo (f : FuncId) (cs : List Cell)
  | no

inductive Box where
  | cells (l : List Cell)
  | row (e : TypeId) (t : Ty) (xs : List t.D)
  | pub (t : Ty) (xs : List t.D)
  | gone

/-- What is at a key: its version, the version of its contents, what it is. -/
structure En where
  ver : Nat
  dver : Nat
  box : Box

abbrev Heap := Nat → Option En

structure St where
  s : List V
  h : Heap

def V.dead : V := .no

def Heap.at (h : Heap) (k v : Nat) : Option Box :=
  match h k with
  | some e => if e.ver = v then some e.box else none
  | none => none

def Heap.depOk (h : Heap) : Dep → Bool
  | none => true
  | some (k, v, dv) => match h k with
    | some e => decide (e.ver = v ∧ e.dver = dv)
    | none => false

def Heap.set (h : Heap) (k : Nat) (e : En) : Heap := fun j => if j = k then some e else h j

def Heap.next (h : Heap) (k : Nat) : Nat :=
  match h k with
  | some e => e.ver + 1
  | none => 0

def Heap.ofList : List (Nat × En) → Heap
  | [], _ => none
  | (k, e) :: r, j => if j = k then some e else Heap.ofList r j

/-- What an operation does: what it yields, which keys it looks at, what it sets. -/
structure Dl where
  v : V
  rd : List Nat
  up : List (Nat × En)

def St.put (st : St) (d : Option Nat) (v : V) : St :=
  match d with
  | some d => ⟨st.s.set d v, st.h⟩
  | none => st

def St.app (st : St) (d : Option Nat) (x : Dl) : St := (⟨st.s, x.up.foldl (fun h p => h.set p.1 p.2) st.h⟩ : St).put d x.v

def Cell.keys : Cell → List Nat
  | .own k _ => [k]
  | .ownP k _ _ => [k]
  | .ptr k _ _ => [k]
  | .elt k _ _ _ => [k]
  | .pel k _ _ _ _ => [k]
  | .sl (some (k, _, _)) _ _ => [k]
  | .slp (some (k, _, _)) _ _ _ _ => [k]
  | _ => []

def V1.cells : V1 → List Cell
  | .c x => [x]
  | .agg cs => cs

def V1.keys (x : V1) : List Nat := x.cells.flatMap Cell.keys

/- The plain values in memory. -/
def Ty.cells (d : Dep) : (t : Ty) → t.D → List Cell
  | .int k, n => [.int k n]
  | .bool, b => [.bool b]
  | .str, s => [.str s]
  | .sl t, xs => [.sl d t xs]
  | .nil, _ => []
  | .pair a b, x => a.cells d x.1 ++ b.cells d x.2

def Ty.parse : (t : Ty) → List Cell → Option (t.D × List Cell)
  | .int k, .int j n :: r => if j = k then some (n, r) else none
  | .bool, .bool b :: r => some (b, r)
  | .str, .str s :: r => some (s, r)
  | .sl _, .nilS :: r => some ([], r)
  | .sl t, .sl none t' xs :: r => if h : t' = t then some (h ▸ xs, r) else none
  | .nil, r => some ((), r)
  | .pair a b, r =>
    match a.parse r with
    | some (x, r) =>
      match b.parse r with
      | some (y, r) => some ((x, y), r)
      | none => none
    | none => none
  | _, _ => none

def Ty.ofCells (t : Ty) (l : List Cell) : Option t.D :=
  match t.parse l with
  | some (x, []) => some x
  | _ => none

/- What is known of a type. -/
structure TI where
  size : Nat
  agg : Bool
  bytes : Nat
  zero : List Cell
  fields : List (Nat × Nat × Bool)
  elem : Option TypeId
  ty : Option Ty
  int : Option IntKind
  str : Bool
  iface : Bool
  cmp : Bool
  eq : Option Ty
  arr : Option Nat

def mkV (agg : Bool) (cs : List Cell) : Option V1 :=
  if agg then some (.agg cs) else match cs with
    | [c] => some (.c c)
    | _ => none

def ofConst : Value → Option V1
  | .int k n => some (.c (.int k n))
  | .bool b => some (.c (.bool b))
  | .string s => some (.c (.str s.data.toList))
  | .slice none 0 0 => some (.c .nilS)
  | .nilIface => some (.c (.raw .nilIface))
  | .pointer none => some (.c (.raw (.pointer none)))
  | .nilFunc => some (.c (.raw .nilFunc))
  | _ => none

def opd (st : St) : Operand → Option V1
  | .tmp t => match st.s[t]? with
    | some (.v (.c .dead)) => none
    | some (.v x) => some x
    | _ => none
  | .const v => ofConst v
  | .func f => some (.c (.raw (.func (.func f) #[] #[])))
  | .global _ => none

/-- A value that is only handed on: it may be a row of results. -/
def opdV (st : St) (x : Operand) : Option V :=
  match x with
  | .tmp t => match st.s[t]? with
    | some (.tup vs) => some (.tup vs)
    | some (.clo f cs) => some (.clo f cs)
    | some (.v (.c .dead)) => none
    | some (.v x) => some (.v x)
    | _ => none
  | x => match opd st x with
    | some v => some (.v v)
    | none => none

/-- A slice's row: what it reads as. -/
def rowOf (h : Heap) : Cell → Option ((t : Ty) × List t.D)
  | .sl d t xs => if h.depOk d then some ⟨t, xs⟩ else none
  | .own k v => match h.at k v with
    | some (.row _ t xs) => some ⟨t, xs⟩
    | some (.pub t xs) => some ⟨t, xs⟩
    | _ => none
  | .ownP k v n => match h.at k v with
    | some (.row _ t xs) => some ⟨t, xs.take n⟩
    | some (.pub t xs) => some ⟨t, xs.take n⟩
    | _ => none
  | _ => none

/-- What hangs on the contents of a slice's row. -/
def depOf (h : Heap) : Cell → Dep
  | .sl d _ _ => d
  | .own k v => (h k).map fun e => (k, v, e.dver)
  | .ownP k v _ => (h k).map fun e => (k, v, e.dver)
  | _ => none

def bt (s : Str) (i : Int) : Int := ((s.getD i.toNat 0).toNat : Int)

def bitsI (op : BinOp) (k : IntKind) (x y : Int) : Int :=
  let a := BitVec.ofInt k.bits x
  let b := BitVec.ofInt k.bits y
  match op with
  | .and => k.wrap (a &&& b).toNat
  | .or => k.wrap (a ||| b).toNat
  | .xor => k.wrap (a ^^^ b).toNat
  | _ => k.wrap (a &&& ~~~b).toNat

variable {R : Type}

def binI (op : BinOp) (k : IntKind) (x y : Int) (K : Cell → Option R) : Option R :=
  match op with
  | .add => K (.int k (k.wrap (x + y)))
  | .sub => K (.int k (k.wrap (x - y)))
  | .mul => K (.int k (k.wrap (x * y)))
  | .quo => if y = 0 then none else K (.int k (k.wrap (x.tdiv y)))
  | .rem => if y = 0 then none else K (.int k (x.tmod y))
  | .and => K (.int k (bitsI .and k x y))
  | .or => K (.int k (bitsI .or k x y))
  | .xor => K (.int k (bitsI .xor k x y))
  | .andNot => K (.int k (bitsI .andNot k x y))
  | .eql => K (.bool (decide (x = y)))
  | .neq => K (.bool (decide (x ≠ y)))
  | .lss => K (.bool (decide (x < y)))
  | .leq => K (.bool (decide (x ≤ y)))
  | .gtr => K (.bool (decide (y < x)))
  | .geq => K (.bool (decide (y ≤ x)))
  | _ => none

def binS (op : BinOp) (x y : Str) (K : Cell → Option R) : Option R :=
  match op with
  | .add => if x.length + y.length ≤ 9223372036854775807 then K (.str (x ++ y)) else none
  | .eql => K (.bool (decide (x = y)))
  | .neq => K (.bool (!decide (x = y)))
  | .lss => K (.bool (Op.bytesLess x y))
  | .leq => K (.bool (Op.bytesLess x y || decide (x = y)))
  | .gtr => K (.bool (!(Op.bytesLess x y || decide (x = y))))
  | .geq => K (.bool (!(Op.bytesLess x y)))
  | _ => none

def shI (op : BinOp) (k : IntKind) (x y : Int) (K : Cell → Option R) : Option R :=
  if y < 0 then none else
  match op with
  | .shl => K (.int k (k.wrap (x * 2 ^ (min y.toNat k.bits))))
  | _ => K (.int k (x.fdiv (2 ^ (min y.toNat k.bits))))

/-- '==' of plain values. -/
def Ty.eqv : (t : Ty) → t.D → t.D → Bool
  | .int _, x, y => decide (x = y)
  | .bool, x, y => x == y
  | .str, x, y => decide (x = y)
  | .sl _, _, _ => false
  | .nil, _, _ => true
  | .pair a b, x, y => a.eqv x.1 y.1 && b.eqv x.2 y.2

def eqAgg (T : Ty) (xs ys : List Cell) (K : Bool → Option R) : Option R :=
  match T.ofCells xs, T.ofCells ys with
  | some x, some y => K (T.eqv x y)
  | _, _ => none

def binK (isB isI isX : Bool) (ik : TypeId → Option IntKind) (et : Option Ty) (op : BinOp) (a b : V1) (K : V1 → Option R) : Option R :=
  match op, a, b with
  | .shl, .c (.int k x), .c (.int _ y) => shI .shl k x y fun c => K (.c c)
  | .shr, .c (.int k x), .c (.int _ y) => shI .shr k x y fun c => K (.c c)
  | op, .c (.int k x), .c (.int k' y) => if k = k' then binI op k x y fun c => K (.c c) else none
  | op, .c (.str x), .c (.str y) => binS op x y fun c => K (.c c)
  | .eql, .c (.bool x), .c (.bool y) => if isB = true then K (.c (.bool (x == y))) else none
  | .neq, .c (.bool x), .c (.bool y) => if isB = true then K (.c (.bool (!(x == y)))) else none
  | .eql, .c (.err b), .c (.raw .nilIface) => if isI = true then K (.c (.bool b)) else none
  | .neq, .c (.err b), .c (.raw .nilIface) => if isI = true then K (.c (.bool (!b))) else none
  | .eql, .c (.ifo _ _ o), .c (.raw .nilIface) => if isI = true then K (.c (.bool o.isNone)) else none
  | .neq, .c (.ifo _ _ o), .c (.raw .nilIface) => if isI = true then K (.c (.bool (!o.isNone))) else none
  | .eql, .c (.ifo t k o), .c (.ifo t' k' (some m)) => if isX = true ∧ t = t' ∧ k = k' ∧ ik t = some k then K (.c (.bool (decide (o = some m)))) else none
  | .neq, .c (.ifo t k o), .c (.ifo t' k' (some m)) => if isX = true ∧ t = t' ∧ k = k' ∧ ik t = some k then K (.c (.bool (!decide (o = some m)))) else none
  | .eql, .agg xs, .agg ys => match et with
    | some T => eqAgg T xs ys fun b => K (.c (.bool b))
    | none => none
  | .neq, .agg xs, .agg ys => match et with
    | some T => eqAgg T xs ys fun b => K (.c (.bool (!b)))
    | none => none
  | _, _, _ => none

def unK (op : UnOp) (a : V1) (K : V1 → Option R) : Option R :=
  match op, a with
  | .not, .c (.bool b) => K (.c (.bool (!b)))
  | .neg, .c (.int k n) => K (.c (.int k (k.wrap (0 - n))))
  | .xor, .c (.int k n) => K (.c (.int k (bitsI .xor k (if k.signed then -1 else k.max) n)))
  | _, _ => none

def mn (a b : Int) : Int := if b < a then b else a
def mx (a b : Int) : Int := if b > a then b else a

/-- Cells of one kind, at a place. -/
def intsOf (k : IntKind) : List Cell → Option (List Int)
  | [] => some []
  | .int j n :: r => if j = k then (match intsOf k r with | some l => some (n :: l) | none => none) else none
  | _ => none

def strsOf : List Cell → Option (List Str)
  | [] => some []
  | .str s :: r => match strsOf r with | some l => some (s :: l) | none => none
  | _ => none

def boolsOf : List Cell → Option (List Bool)
  | [] => some []
  | .bool s :: r => match boolsOf r with | some l => some (s :: l) | none => none
  | _ => none

def aggAt (cs : List Cell) (i : Nat) : Option Cell :=
  match cs with
  | .int k _ :: _ => match intsOf k cs with | some l => some (.int k (l.getD i 0)) | none => none
  | .str _ :: _ => match strsOf cs with | some l => some (.str (l.getD i [])) | none => none
  | .bool _ :: _ => match boolsOf cs with | some l => some (.bool (l.getD i false)) | none => none
  | _ => none

def bytesOf (xs : List Int) : Str := xs.map fun n => UInt8.ofNat n.toNat

end Rv
