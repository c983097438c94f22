/- Shapes of states, and the evaluation of operations and of code. -/
import Derived.Test.YtlbfhddhojejfaaDoorRvA
set_option linter.all false
namespace Rv
open Go

/- Shapes: which slots are alive, and as what. -/
inductive CD where
  | int (k : IntKind) | bool | str | sl (t : Ty) | row (e : TypeId) (t : Ty) | ptr (i off : Nat) | raw (v : Value) | err | ifo (t : TypeId) (k : IntKind) | any

@[reducible] def CD.T : CD → Type
  | .int _ => Int
  | .bool => Bool
  | .str => Str
  | .sl t => List t.D
  | .row _ t => List t.D
  | .err => Bool
  | .ifo _ _ => Option Int
  | _ => Unit

inductive SD where
  | c (x : CD)
  | agg (l : List CD)
  | clo (f : FuncId) (l : List CD)

def SD.cds : SD → List CD
  | .c x => [x]
  | .agg l => l
  | .clo _ l => l

@[reducible] def TL : List CD → Type
  | [] => Unit
  | c :: r => c.T × TL r

/-- Slots with their kinds; boxes: at which place of the flat row of cells its pointer stands (none: it is what the function was lent, under its first name), and its cells' kinds. -/
structure Shape where
  slots : List (Nat × SD)
  boxes : List (Option Nat × List CD)

def Shape.all (sh : Shape) : List CD := (sh.slots.flatMap fun p => p.2.cds) ++ sh.boxes.flatMap (·.2)

@[reducible] def Shape.T (sh : Shape) : Type := TL sh.all

/-- Key and version of box or row number i. -/
abbrev Nm := Nat → Nat × Nat

def CD.mk (nm : Nm) : (c : CD) → c.T → Nat → Cell × List (Nat × En) × Nat
  | .int k, n, m => (.int k n, [], m)
  | .bool, b, m => (.bool b, [], m)
  | .str, s, m => (.str s, [], m)
  | .sl t, xs, m => (.sl none t xs, [], m)
  | .row e t, xs, m => (.own (nm m).1 (nm m).2, [((nm m).1, ⟨(nm m).2, 0, .row e t xs⟩)], m + 1)
  | .ptr i off, _, m => (.ptr (nm i).1 (nm i).2 off, [], m)
  | .raw v, _, m => (.raw v, [], m)
  | .err, b, m => (.err b, [], m)
  | .ifo t k, o, m => (.ifo t k o, [], m)
  | .any, _, m => (.dead, [], m)

def mkL (nm : Nm) : (l : List CD) → TL l → Nat → List Cell × List (Nat × En) × Nat
  | [], _, m => ([], [], m)
  | c :: r, x, m =>
    let a := c.mk nm x.1 m
    let b := mkL nm r x.2 a.2.2
    (a.1 :: b.1, a.2.1 ++ b.2.1, b.2.2)

def putSlots (l : List V) : List (Nat × SD) → List Cell → List V × List Cell
  | [], cs => (l, cs)
  | (i, .c _) :: r, cs => putSlots (l.set i (.v (.c (cs.headD .dead)))) r cs.tail
  | (i, .agg ds) :: r, cs => putSlots (l.set i (.v (.agg (cs.take ds.length)))) r (cs.drop ds.length)
  | (i, .clo f ds) :: r, cs => putSlots (l.set i (.clo f (cs.take ds.length))) r (cs.drop ds.length)

def putBoxes (nm : Nm) : Nat → List (Option Nat × List CD) → List Cell → List (Nat × En)
  | _, [], _ => []
  | i, (_, ds) :: r, cs => ((nm i).1, ⟨(nm i).2, 0, .cells (cs.take ds.length)⟩) :: putBoxes nm (i + 1) r (cs.drop ds.length)

/-- The slots, the boxes' entries and the rows'. -/
structure Mk where
  s : List V
  bs : List (Nat × En)
  rs : List (Nat × En)

def Shape.mkAll (sh : Shape) (nm : Nm) (N : Nat) (x : sh.T) : Mk :=
  let a := mkL nm sh.all x sh.boxes.length
  let b := putSlots (List.replicate N V.dead) sh.slots a.1
  ⟨b.1, putBoxes nm 0 sh.boxes b.2, a.2.1⟩

def nmJ : Nm := fun i => (16 * i + 15, 0)

def Shape.mk' (sh : Shape) (nm : Nm) (N : Nat) (x : sh.T) : St :=
  let m := sh.mkAll nm N x
  ⟨m.s, Heap.ofList (m.bs ++ m.rs)⟩

def rawEq : Value → Value → Bool
  | .nilIface, .nilIface => true
  | .pointer none, .pointer none => true
  | .nilFunc, .nilFunc => true
  | .func (.func f) a b, .func (.func g) c d => f == g && a.isEmpty && b.isEmpty && c.isEmpty && d.isEmpty
  | _, _ => false

/-- What was met: the keys of boxes, of rows that are handed on, of rows that are only read. -/
structure Met where
  rows : List (Option Nat)
  deps : List Nat

def castD (t t' : Ty) (xs : List t.D) : Option (List t'.D) := if h : t = t' then some (h ▸ xs) else none

def castB (h : Heap) (t : Ty) : Box → Option (List t.D)
  | .row _ t' xs => castD t' t xs
  | .pub t' xs => castD t' t xs
  | _ => none

def CD.abs (h : Heap) (bm : List Nat) : (c : CD) → Cell → Option (c.T × Met)
  | .int k, .int j n => if j = k then some (n, ⟨[], []⟩) else none
  | .bool, .bool b => some (b, ⟨[], []⟩)
  | .str, .str s => some (s, ⟨[], []⟩)
  | .sl _, .nilS => some ([], ⟨[], []⟩)
  | .sl t, .sl d t' xs => if h.depOk d then match castD t' t xs with
    | some ys => some (ys, ⟨[], (d.map (·.1)).toList⟩)
    | none => none
    else none
  | .sl t, .own k v => match h.at k v with
    | some b => match castB h t b with
      | some ys => some (ys, ⟨[], [k]⟩)
      | none => none
    | none => none
  | .sl t, .ownP k v n => match h.at k v with
    | some b => match castB h t b with
      | some ys => some (ys.take n, ⟨[], [k]⟩)
      | none => none
    | none => none
  | .row _ _, .nilS => some ([], ⟨[none], []⟩)
  | .row e t, .own k v => match h.at k v with
    | some (.row e' t' xs) => if e' = e then match castD t' t xs with
      | some ys => some (ys, ⟨[some k], []⟩)
      | none => none
      else none
    | _ => none
  | .row e t, .ownP k v n => match h.at k v with
    | some (.row e' t' xs) => if e' = e then match castD t' t xs with
      | some ys => some (ys.take n, ⟨[some k], []⟩)
      | none => none
      else none
    | _ => none
  | .ptr i off, .ptr k v o => if bm[i]? = some k then (if off = o then (match h.at k v with
    | some (.cells _) => some ((), ⟨[], []⟩)
    | _ => none) else none) else none
  | .raw v, .raw u => if rawEq v u then some ((), ⟨[], []⟩) else none
  | .err, .err b => some (b, ⟨[], []⟩)
  | .err, .raw u => if rawEq u .nilIface then some (true, ⟨[], []⟩) else none
  | .err, .ifo _ _ o => some (o.isNone, ⟨[], []⟩)
  | .ifo t k, .ifo t' k' o => if t' = t ∧ k' = k then some (o, ⟨[], []⟩) else none
  | .ifo _ _, .raw u => if rawEq u .nilIface then some (none, ⟨[], []⟩) else none
  | .any, _ => some ((), ⟨[], []⟩)
  | _, _ => none

def absL (h : Heap) (bm : List Nat) : (l : List CD) → List Cell → Option (TL l × Met)
  | [], [] => some ((), ⟨[], []⟩)
  | c :: r, x :: xs => match c.abs h bm x with
    | some (y, m) => match absL h bm r xs with
      | some (ys, m') => some ((y, ys), ⟨m.rows ++ m'.rows, m.deps ++ m'.deps⟩)
      | none => none
    | none => none
  | _, _ => none

def gatherS (l : List V) : List (Nat × SD) → Option (List Cell)
  | [] => some []
  | (i, .c _) :: r => match l[i]? with
    | some (.v (.c x)) => match gatherS l r with
      | some cs => some (x :: cs)
      | none => none
    | _ => none
  | (i, .agg ds) :: r => match l[i]? with
    | some (.v (.agg xs)) => if xs.length = ds.length then match gatherS l r with
      | some cs => some (xs ++ cs)
      | none => none
      else none
    | _ => none
  | (i, .clo f ds) :: r => match l[i]? with
    | some (.clo f' xs) => if f' = f ∧ xs.length = ds.length then match gatherS l r with
      | some cs => some (xs ++ cs)
      | none => none
      else none
    | _ => none

/-- The boxes' cells behind those of the slots, and the boxes' keys. -/
def gatherB (h : Heap) : List (Option Nat × List CD) → List Cell → List Nat → Option (List Cell × List Nat)
  | [], cs, bm => some (cs, bm)
  | (none, ds) :: r, cs, bm => match h.at (nmJ bm.length).1 0 with
    | some (.cells l) => if l.length = ds.length then gatherB h r (cs ++ l) (bm ++ [(nmJ bm.length).1]) else none
    | _ => none
  | (some p, ds) :: r, cs, bm => match cs[p]? with
    | some (.ptr k v _) => match h.at k v with
      | some (.cells l) => if l.length = ds.length then gatherB h r (cs ++ l) (bm ++ [k]) else none
      | _ => none
    | _ => none

structure Abs (α : Type) where
  x : α
  bm : List Nat
  m : Met

def nodupB : List Nat → Bool
  | [] => true
  | a :: r => !(r.contains a) && nodupB r

def Shape.abs (sh : Shape) (st : St) : Option (Abs sh.T) :=
  match gatherS st.s sh.slots with
  | some cs => match gatherB st.h sh.boxes cs [] with
    | some (all, bm) => match absL st.h bm sh.all all with
      | some (x, m) => if nodupB (bm ++ m.rows.filterMap id) && m.deps.all (fun d => !((bm ++ m.rows.filterMap id).contains d)) then some ⟨x, bm, m⟩ else none
      | none => none
    | none => none
  | none => none

def Abs.keys {α : Type} (a : Abs α) : List Nat := a.bm ++ a.m.rows.filterMap id

/-- Are the first n boxes those that the function was lent? -/
def Shape.pins (sh : Shape) (n : Nat) : Bool := decide (n ≤ sh.boxes.length) && (sh.boxes.take n).all fun p => p.1.isNone

/- What is told of a function: its arguments' shape, its results' shape (slots 0, 1, ..; the boxes are the arguments'), and what it does. -/
structure Spec where
  a : Shape
  r : Shape
  f : a.T → Option r.T

structure JH (R : Type) where
  sh : Shape
  j : List Nat → sh.T → Option R

structure LH (R : Type) where
  sh : Shape
  l : List Nat → Nat → sh.T → Option R

structure Env (R : Type) where
  te : TypeId → Option TI
  spec : FuncId → List FuncId → Option Spec
  join : Nat → Option (JH R)
  loop : Nat → Option (LH R)
  lab : Nat → Option (LH R)
  n : Nat
  N : Nat
  nl : Nat := 0
  maps : Nat → TypeId → Option (Cell → Option (Cell × Bool)) := fun _ _ => none

def Ty.hasSl : Ty → Bool
  | .sl _ => true
  | .pair a b => a.hasSl || b.hasSl
  | _ => false

def CD.shares : CD → Bool
  | .sl _ => true
  | .row _ t => t.hasSl
  | _ => false

def V.toV1 : V → V1
  | .v x => x
  | _ => .c .dead

/-- What a call does in the caller's state. -/
def pubsOf (h : Heap) (deps : List Nat) : List (Nat × En) :=
  deps.filterMap fun k => match h k with
    | some ⟨v, dv, .row _ t xs⟩ => some (k, (⟨v, dv, .pub t xs⟩ : En))
    | _ => none

def resV : List V → V
  | [v] => v
  | l => .tup (l.map V.toV1)

def nmP (h : Heap) (d : Nat) : Nm := fun i => (16 * d + i, h.next (16 * d + i))

/-- Boxes stay where they are; rows get new names. -/
def nmI (h : Heap) (d : Nat) (bm : List Nat) : Nm := fun i =>
  match bm[i]? with
  | some k => (k, match h k with | some e => e.ver | none => 0)
  | none => nmP h d i

def keepOf (h : Heap) (ks : List Nat) : List (Nat × En) := ks.filterMap fun k => (h k).map fun e => (k, e)

def goneOf (h : Heap) (ks : List Nat) : List (Nat × En) := ks.map fun k => (k, ⟨h.next k, 0, .gone⟩)

def install (st : St) (d : Nat) (sp : Spec) (a : Abs sp.a.T) (y : sp.r.T) : Dl :=
  let m := sp.r.mkAll (nmI st.h d a.bm) sp.r.slots.length y
  ⟨resV m.s, [], (if a.keys.isEmpty then [] else keepOf st.h a.m.deps) ++ ((if sp.r.all.any CD.shares then pubsOf st.h a.m.deps else []) ++ (goneOf st.h (a.m.rows.filterMap id) ++ (m.bs ++ m.rs)))⟩

def CD.isRow : CD → Bool
  | .row _ _ => true
  | _ => false

def CD.ptrB (n : Nat) : CD → Bool
  | .ptr i _ => decide (i < n)
  | _ => true

/-- Slots that hold one value each. -/
def SD.isV : SD → Bool
  | .clo _ _ => false
  | _ => true

/-- May what a function yields be laid in the caller's state so? -/
def Shape.okRes (r : Shape) (nb : Nat) : Bool := decide (r.boxes.length = nb) && r.pins nb && decide (r.slots.map (·.1) = List.range r.slots.length) && r.all.all (CD.ptrB nb) && r.slots.all fun p => p.2.isV

def isBox0 (h : Heap) (k : Nat) : Bool :=
  match h k with
  | some e => decide (e.dver = 0)
  | none => false

/-- The keys that a call's new rows get. -/
def newKeys (d : Nat) (r : Shape) : List Nat := (List.range (r.all.filter CD.isRow).length).map fun j => 16 * d + (r.boxes.length + j)

def callOk (h : Heap) (d : Nat) (sp : Spec) (a : Abs sp.a.T) (n : Nat) : Bool :=
  decide (n = sp.a.slots.length) && sp.r.okRes sp.a.boxes.length && a.bm.all (isBox0 h) && (newKeys d sp.r).all fun k => !a.keys.contains k

def opds (st : St) : List Operand → Option (List V1)
  | [] => some []
  | x :: r => match opd st x with
    | some v => match opds st r with
      | some l => some (v :: l)
      | none => none
    | none => none

/-- A call's arguments: they may be functions that captured something. -/
def opdsV (st : St) : List Operand → Option (List V)
  | [] => some []
  | x :: r => match opdV st x with
    | some v => match opdsV st r with
      | some l => some (v :: l)
      | none => none
    | none => none

def V.cloId : V → Option FuncId
  | .clo f _ => some f
  | _ => none

/-- What a function captures. -/
def capCells : List V1 → Option (List Cell)
  | [] => some []
  | .c x :: r => match capCells r with
    | some l => some (x :: l)
    | none => none
  | .agg _ :: _ => none

/-- What is called, and with what behind the arguments. -/
def calleeOf (st : St) : Operand → Option (FuncId × List Cell)
  | .func f => some (f, [])
  | .tmp t => match st.s[t]? with
    | some (.clo f cs) => some (f, cs)
    | _ => none
  | _ => none

variable {R : Type}

def one (K : V → Option R) : V1 → Option R := fun x => K (.v x)

def orNone {α : Type} (x : Option α) (K : α → Option R) : Option R :=
  match x with
  | some a => K a
  | none => none

/-- Bounds of x[lo:hi:max] where x has n elements (no room behind them is used). -/
def boundsK (n : Nat) (lo hi mx : Option V1) (K : Nat → Nat → Option R) : Option R :=
  let top : (Int → Option R) → Option R := fun C => match mx with
    | none => C n
    | some (.c (.int _ m)) => if 0 ≤ m ∧ m ≤ (n : Int) then C m else none
    | some _ => none
  top fun m =>
  let high : (Int → Option R) → Option R := fun C => match hi, mx with
    | none, none => C n
    | some (.c (.int _ h)), _ => if 0 ≤ h ∧ h ≤ m then C h else none
    | _, _ => none
  high fun h =>
  match lo with
  | none => K 0 h.toNat
  | some (.c (.int _ l)) => if 0 ≤ l ∧ l ≤ h then K l.toNat h.toNat else none
  | some _ => none

def optOpd (st : St) : Option Operand → Option (Option V1)
  | none => some none
  | some x => match opd st x with
    | some v => some (some v)
    | none => none

def fillCells (place : Nat → Option (Nat × Nat)) (cells : List Cell) : List (Nat × V1) → Option (List Cell)
  | [] => some cells
  | (i, v) :: r => match place i with
    | none => none
    | some (off, size) => if v.cells.length = size ∧ off + size ≤ cells.length then fillCells place (cells.take off ++ v.cells ++ cells.drop (off + size)) r else none

def partsOf (st : St) : List (Nat × Operand) → Option (List (Nat × V1))
  | [] => some []
  | (i, x) :: r => match opd st x with
    | some v => match partsOf st r with
      | some l => some ((i, v) :: l)
      | none => none
    | none => none

def loadK (te : TypeId → Option TI) (st : St) (t : TypeId) (x : V1) (K : V1 → Option R) : Option R :=
  match x, te t with
  | .c (.ptr k v off), some ti => match st.h.at k v with
    | some (.cells l) => if off + ti.size ≤ l.length then orNone (mkV ti.agg ((l.drop off).take ti.size)) K else none
    | _ => none
  | .c (.elt k v i off), some ti => match st.h.at k v with
    | some (.row _ t xs) => if off + ti.size ≤ t.size then orNone (mkV ti.agg (((t.cells none (xs.getD i t.dflt)).drop off).take ti.size)) K else none
    | some (.pub t xs) => if off + ti.size ≤ t.size then orNone (mkV ti.agg (((t.cells none (xs.getD i t.dflt)).drop off).take ti.size)) K else none
    | _ => none
  | .c (.pel k v base n i), some ti => match st.h.at k v with
    | some (.cells l) => if base + n ≤ l.length ∧ ti.size = 1 ∧ ti.agg = false then orNone (aggAt ((l.drop base).take n) i) fun c => K (.c c) else none
    | _ => none
  | .c (.slp d t xs i off), some ti => if st.h.depOk d then (if off + ti.size ≤ t.size then orNone (mkV ti.agg (((t.cells none (xs.getD i t.dflt)).drop off).take ti.size)) K else none) else none
  | _, _ => none

/-- The size of a slice type's elements. -/
def elemSize (te : TypeId → Option TI) (t : TypeId) : Option Nat :=
  match (te t).bind (·.elem) with
  | some e => match te e with
    | some ti => some ti.size
    | none => none
  | none => none

def isStr (te : TypeId → Option TI) (t : TypeId) : Bool :=
  match te t with
  | some ti => ti.str
  | none => false

def isBool (te : TypeId → Option TI) (t : TypeId) : Bool :=
  match te t with
  | some ti => match ti.ty with
    | some .bool => true
    | _ => false
  | none => false

/-- Is an interface compared with nil as it is written? -/
def isIface (te : TypeId → Option TI) (t : TypeId) : Bool :=
  match te t with
  | some ti => ti.iface
  | none => false

/-- The kind of a type of numbers that may be compared as what an interface holds. -/
def cmpKind (te : TypeId → Option TI) (t : TypeId) : Option IntKind :=
  match te t with
  | some ti => if ti.cmp = true then ti.int else none
  | none => none

def isNilTest (te : TypeId → Option TI) (t : TypeId) (y : Operand) : Bool :=
  (match te t with | some ti => ti.iface | none => false) && (match y with | .const _ => true | _ => false)

def eqTy (te : TypeId → Option TI) (t : TypeId) : Option Ty :=
  match te t with
  | some ti => ti.eq
  | none => none

/-- Is it a slice of bytes, made a string? -/
def strConv (te : TypeId → Option TI) (src dst : TypeId) : Bool :=
  isStr te dst && (match (te src).bind (·.elem) with
    | some e => match te e with
      | some ti => match ti.int with
        | some .u8 => true
        | _ => false
      | none => false
    | none => false)

/-- Is it a string, made a slice of bytes? -/
def bytesConv (te : TypeId → Option TI) (src dst : TypeId) : Bool :=
  isStr te src && (match (te dst).bind (·.elem) with
    | some e => match te e with
      | some ti => match ti.int with
        | some .u8 => true
        | _ => false
      | none => false
    | none => false)

def rowLen (h : Heap) (k v : Nat) : Option (Ty × Nat) :=
  match h.at k v with
  | some (.row _ t xs) => some (t, xs.length)
  | some (.pub t xs) => some (t, xs.length)
  | _ => none

/-- The number of an array's elements, of one cell each. -/
def arrLen (te : TypeId → Option TI) (t : TypeId) : Option Nat :=
  match te t with
  | some ti => ti.arr
  | none => none

def indexAddrK (st : St) (es ar : Option Nat) (x i : V1) (K : V1 → Option R) : Option R :=
  match x, i with
  | .c (.sl d t xs), .c (.int _ i) => if st.h.depOk d then (if es = some t.size then (if 0 ≤ i ∧ i < (xs.length : Int) then K (.c (.slp d t xs i.toNat 0)) else none) else none) else none
  | .c (.own k v), .c (.int _ i) => match rowLen st.h k v with
    | some (t, n) => if es = some t.size then (if 0 ≤ i ∧ i < (n : Int) then K (.c (.elt k v i.toNat 0)) else none) else none
    | none => none
  | .c (.ownP k v n), .c (.int _ i) => match rowLen st.h k v with
    | some (t, _) => if es = some t.size then (if 0 ≤ i ∧ i < (n : Int) then K (.c (.elt k v i.toNat 0)) else none) else none
    | none => none
  | .c (.ptr k v off), .c (.int _ i) => match ar, st.h.at k v with
    | some n, some (.cells _) => if 0 ≤ i ∧ i < (n : Int) then K (.c (.pel k v off n i.toNat)) else none
    | _, _ => none
  | _, _ => none

def indexK (str : Bool) (ar : Option Nat) (x i : V1) (K : V1 → Option R) : Option R :=
  match x, i with
  | .c (.str s), .c (.int _ i) => if str = true then (if 0 ≤ i ∧ i < (s.length : Int) then K (.c (.int .u8 (bt s i))) else none) else none
  | .agg cs, .c (.int _ i) => match ar with
    | some n => if cs.length = n then (if 0 ≤ i ∧ i < (n : Int) then orNone (aggAt cs i.toNat) fun c => K (.c c) else none) else none
    | none => none
  | _, _ => none

def sliceK (st : St) (str : Bool) (es : Option Nat) (x : V1) (lo hi mx : Option V1) (K : V1 → Option R) : Option R :=
  match x with
  | .c (.str s) => match mx with
    | none => if str = true then boundsK s.length lo hi none fun l h => K (.c (.str ((s.take h).drop l))) else none
    | some _ => none
  | .c .nilS => if es.isSome then boundsK 0 lo hi mx fun _ _ => K (.c .nilS) else none
  | .c (.own k v) => match rowLen st.h k v with
    | some (t, n) => if es = some t.size then match lo, mx with
      | none, none => boundsK n none hi none fun _ h => K (.c (.ownP k v h))
      | _, _ => orNone (rowOf st.h (.own k v)) fun r => boundsK n lo hi mx fun l h => K (.c (.sl (depOf st.h (.own k v)) r.1 ((r.2.take h).drop l)))
      else none
    | none => none
  | .c (.ownP k v n) => match rowLen st.h k v with
    | some (t, _) => if es = some t.size then match lo, mx with
      | none, none => boundsK n none hi none fun _ h => K (.c (.ownP k v h))
      | _, _ => orNone (rowOf st.h (.ownP k v n)) fun r => boundsK n lo hi mx fun l h => K (.c (.sl (depOf st.h (.ownP k v n)) r.1 ((r.2.take h).drop l)))
      else none
    | none => none
  | .c (.sl d t xs) => if st.h.depOk d then (if es = some t.size then boundsK xs.length lo hi mx fun l h => K (.c (.sl d t ((xs.take h).drop l))) else none) else none
  | _ => none

def lenK (st : St) (str : Bool) (es : Option Nat) (x : V1) (K : Nat → Option R) : Option R :=
  match x with
  | .c (.str s) => if str = true then K s.length else none
  | .c (.sl d _ xs) => if st.h.depOk d then (if es.isSome then K xs.length else none) else none
  | .c .nilS => if es.isSome then K 0 else none
  | .c (.own k v) => match rowLen st.h k v with
    | some (_, n) => if es.isSome then K n else none
    | none => none
  | .c (.ownP k v n) => match rowLen st.h k v with
    | some _ => if es.isSome then K n else none
    | none => none
  | _ => none

def foldInt (f : Int → Int → Int) (k : IntKind) (acc : Int) : List V1 → Option Int
  | [] => some acc
  | .c (.int k' n) :: r => if k = k' then foldInt f k (f acc n) r else none
  | _ :: _ => none

/-- What is surely no nil. -/
def nonNil (h : Heap) : V → Bool
  | .v (.c (.ptr k v _)) => match h.at k v with
    | some (.cells _) => true
    | _ => false
  | .v (.c (.elt k v _ _)) => (rowLen h k v).isSome
  | .v (.c (.slp d _ _ _ _)) => h.depOk d
  | .clo _ _ => true
  | _ => false

/-- Operations that yield a value, and do nothing else. -/
def vop (te : TypeId → Option TI) (st : St) (op : Op) (K : V → Option R) : Option R :=
  match op with
  | .move x | .assign x => orNone (opdV st x) K
  | .pick c a b => match opd st c with
    | some (.c (.bool t)) => if t = true then orNone (opd st a) (one K) else orNone (opd st b) (one K)
    | _ => none
  | .build t parts => match te t, partsOf st parts.toList with
    | some ti, some ps => match ti.arr with
      | some _ => orNone (fillCells (fun i => some (i, 1)) ti.zero ps) fun cs => K (.v (.agg cs))
      | none => if ti.fields.isEmpty then none else orNone (fillCells (fun i => ti.fields[i]?.map fun f => (f.1, f.2.1)) ti.zero ps) fun cs => K (.v (.agg cs))
    | _, _ => none
  | .load t x => orNone (opd st x) fun v => loadK te st t v (one K)
  | .fieldAddr t x f => match opd st x, (te t).bind (·.fields[f]?) with
    | some (.c (.ptr k v off)), some fd => match st.h.at k v with
      | some (.cells _) => K (.v (.c (.ptr k v (off + fd.1))))
      | _ => none
    | some (.c (.elt k v i off)), some fd => match rowLen st.h k v with
      | some _ => K (.v (.c (.elt k v i (off + fd.1))))
      | none => none
    | some (.c (.slp d t xs i off)), some fd => if st.h.depOk d then K (.v (.c (.slp d t xs i (off + fd.1)))) else none
    | _, _ => none
  | .field t x f => match opd st x, (te t).bind (·.fields[f]?) with
    | some (.agg cs), some fd => if fd.1 + fd.2.1 ≤ cs.length then orNone (mkV fd.2.2 ((cs.drop fd.1).take fd.2.1)) (one K) else none
    | _, _ => none
  | .indexAddr t x i => orNone (opd st x) fun x => orNone (opd st i) fun i => indexAddrK st (elemSize te t) (arrLen te t) x i (one K)
  | .index t x i => orNone (opd st x) fun x => orNone (opd st i) fun i => indexK (isStr te t) (arrLen te t) x i (one K)
  | .slice t x lo hi mx => orNone (opd st x) fun x => orNone (optOpd st lo) fun lo => orNone (optOpd st hi) fun hi => orNone (optOpd st mx) fun mx => sliceK st (isStr te t) (elemSize te t) x lo hi mx (one K)
  | .binOp op t x y _ => orNone (opd st x) fun x' => orNone (opd st y) fun y' => binK (isBool te t) (isNilTest te t y) (isIface te t) (cmpKind te) (eqTy te t) op x' y' (one K)
  | .unOp op _ x => orNone (opd st x) fun x => unK op x (one K)
  | .convert src dst x => match opd st x, te dst with
    | some (.c (.int _ n)), some ti => match ti.int with
      | some k => if (te src).isSome then K (.v (.c (.int k (k.wrap n)))) else none
      | none => none
    | _, _ => none
  | .makeInterface t x => match te t with
    | some ti => if ti.iface = true then none else match (match x with | .tmp s => st.s[s]? | x => (opd st x).map .v) with
      | some (.v (.c (.int k n))) => K (.v (.c (.ifo t k (some n))))
      | some (.v _) => K (.v (.c (.err false)))
      | _ => none
    | none => none
  | .makeFunc (.func f) first captured => if first.isEmpty = true then orNone (opds st captured.toList) fun vs => orNone (capCells vs) fun cs => K (.clo f cs) else none
  | .nilCheck x => orNone (opdV st x) fun v => if nonNil st.h v = true then K v else none
  | .extract x i => match x with
    | .tmp t => match st.s[t]? with
      | some (.tup vs) => orNone vs[i]? (one K)
      | _ => none
    | _ => none
  | .call { callee := .builtin .len, args, argTypes } => match args.toList, argTypes.toList with
    | [x], [t] => orNone (opd st x) fun x => lenK st (isStr te t) (elemSize te t) x fun n => K (.v (.c (.int .i64 n)))
    | _, _ => none
  | .call { callee := .builtin .min, args, .. } => match opds st args.toList with
    | some (.c (.int k n) :: r) => orNone (foldInt mn k n r) fun n => K (.v (.c (.int k n)))
    | _ => none
  | .call { callee := .builtin .max, args, .. } => match opds st args.toList with
    | some (.c (.int k n) :: r) => orNone (foldInt mx k n r) fun n => K (.v (.c (.int k n)))
    | _ => none
  | _ => none

def dk (d : Option Nat) : Nat := 16 * d.getD 0

def V.keys : V → List Nat
  | .v x => x.keys
  | .clo _ cs => cs.flatMap Cell.keys
  | _ => []

def opdKeys (st : St) (l : List Operand) : List Nat :=
  l.flatMap fun x => match opdV st x with
    | some v => v.keys
    | none => []

/-- Numbers, one of which is set. -/
def setInts (k : IntKind) (ns : List Int) (n i : Nat) (x : Int) : List Cell := (List.range n).map fun j => .int k ((ns.set i x).getD j 0)

def storeK (te : TypeId → Option TI) (st : St) (t : TypeId) (x v : V1) (K : List (Nat × En) → Option R) : Option R :=
  match x, te t with
  | .c (.ptr k kv off), some ti => match st.h k with
    | some ⟨ver, dver, .cells l⟩ => if ver = kv then (if off + ti.size ≤ l.length ∧ v.cells.length = ti.size then K [(k, ⟨ver, dver, .cells (l.take off ++ v.cells ++ l.drop (off + ti.size))⟩)] else none) else none
    | _ => none
  | .c (.pel k kv base n i), some ti => match st.h k, v with
    | some ⟨ver, dver, .cells l⟩, .c (.int k0 y) => if ver = kv then (if base + n ≤ l.length ∧ ti.size = 1 then (match intsOf k0 ((l.drop base).take n) with
      | some ns => K [(k, ⟨ver, dver, .cells (l.take base ++ setInts k0 ns n i y ++ l.drop (base + n))⟩)]
      | none => none) else none) else none
    | _, _ => none
  | .c (.elt k kv i off), some ti => match st.h k with
    | some ⟨ver, dver, .row e t xs⟩ => if ver = kv then (if off + ti.size ≤ t.size ∧ v.cells.length = ti.size then
        orNone (t.ofCells ((t.cells none (xs.getD i t.dflt)).take off ++ v.cells ++ (t.cells none (xs.getD i t.dflt)).drop (off + ti.size))) fun y =>
          K [(k, ⟨ver, dver + 1, .row e t (xs.set i y)⟩)]
      else none) else none
    | _ => none
  | _, _ => none

def rowFill (t : Ty) (acc : List t.D) : List (Nat × V1) → Option (List t.D)
  | [] => some acc
  | (i, v) :: r => match t.ofCells v.cells with
    | some x => if i < acc.length then rowFill t (acc.set i x) r else none
    | none => none

/-- The row that is appended to: its elements so far, its key. -/
def baseOf (h : Heap) (e : TypeId) (t : Ty) : V1 → Option (List t.D × Option Nat)
  | .c .nilS => some ([], none)
  | .c (.own k v) => match h.at k v with
    | some (.row e' t' xs) => if e' = e then (castD t' t xs).map (·, some k) else none
    | _ => none
  | .c (.ownP k v n) => match h.at k v with
    | some (.row e' t' xs) => if e' = e then (castD t' t xs).map fun xs => (xs.take n, some k) else none
    | _ => none
  | _ => none

def moreOf (h : Heap) (t : Ty) : V1 → Option (List t.D)
  | .c .nilS => some []
  | .c c => match rowOf h c with
    | some r => castD r.1 t r.2
    | none => none
  | _ => none

def appendK (te : TypeId → Option TI) (st : St) (d : Option Nat) (sT : TypeId) (s x : V1) (K : Dl → Option R) : Option R :=
  match (te sT).bind (·.elem) with
  | none => none
  | some e => match te e with
    | none => none
    | some ti => match ti.ty with
      | none => none
      | some t => match baseOf st.h e t s, moreOf st.h t x with
        | some (xs, k), some ys =>
          if (xs.length + ys.length) * ti.bytes ≤ 140737488355328 ∧ 0 < ti.bytes ∧ 0 < ti.size then
            K ⟨.v (.c (.own (dk d) (st.h.next (dk d)))), s.keys ++ x.keys ++ [dk d],
              (match k with | some k => [(k, (⟨st.h.next k, 0, .gone⟩ : En))] | none => []) ++ [(dk d, ⟨st.h.next (dk d), 0, .row e t (xs ++ ys)⟩)]⟩
          else none
        | _, _ => none

def newBox (st : St) (d : Option Nat) (b : Box) (c : Nat → Nat → Cell) : Dl :=
  ⟨.v (.c (c (dk d) (st.h.next (dk d)))), [dk d], [(dk d, ⟨st.h.next (dk d), 0, b⟩)]⟩

/-- One operation. -/
def evalF (E : Env R) (st : St) (o : Oper) (K : Dl → Option R) : Option R :=
  match o.op with
  | .alloc t => match E.te t with
    | some ti => K (newBox st o.dst (.cells ti.zero) fun k v => .ptr k v 0)
    | none => none
  | .box _ x => orNone (opd st x) fun v => K ⟨.v (.c (.ptr (dk o.dst) (st.h.next (dk o.dst)) 0)), v.keys ++ [dk o.dst], [(dk o.dst, ⟨st.h.next (dk o.dst), 0, .cells v.cells⟩)]⟩
  | .buildSlice t n parts => match (E.te t).bind (·.elem) with
    | none => none
    | some e => match E.te e, partsOf st parts.toList with
      | some ti, some ps => match ti.ty with
        | some t => match t.ofCells ti.zero with
          | some z => if n * ti.size ≤ 16777216 ∧ 0 < ti.size then orNone (rowFill t (List.replicate n z) ps) fun xs => K (newBox st o.dst (.row e t xs) fun k v => .own k v)
            else none
          | none => none
        | none => none
      | _, _ => none
  | .store t x v => match o.dst with
    | none => orNone (opd st x) fun x => orNone (opd st v) fun v => storeK E.te st t x v fun up => K ⟨.tup [], x.keys ++ v.keys, up⟩
    | some _ => none
  | .call { callee := .builtin .append, args, argTypes } => match args.toList, argTypes.toList with
    | [s, x], [sT, xT] => if sT = xT then orNone (opd st s) fun s => orNone (opd st x) fun x => appendK E.te st o.dst sT s x K else none
    | _, _ => none
  | .call { callee := .value c, args, .. } => match calleeOf st c, opdsV st args.toList with
    | some (f, cs), some vs => match E.spec f (vs.filterMap V.cloId) with
      | some sp => match sp.a.abs ⟨vs ++ cs.map (fun c => V.v (.c c)), st.h⟩ with
        | some a => if callOk st.h (o.dst.getD 0) sp a (vs.length + cs.length) = true then (sp.f a.x).bind fun y => K (install st (o.dst.getD 0) sp a y) else none
        | none => none
      | none => none
    | _, _ => none
  | .load t (.global g) => match E.maps g t with
    | some _ => K ⟨.v (.c (.glob g)), [], []⟩
    | none => none
  | .lookup t x k ok => match opd st x, opd st k with
    | some (.c (.glob g)), some (.c kc) => match E.maps g t with
      | some F => orNone (F kc) fun p => K ⟨if ok = true then .tup [.c p.1, .c (.bool p.2)] else .v (.c p.1), [], []⟩
      | none => none
    | _, _ => none
  | .convert src dst x => if strConv E.te src dst = true then orNone (opd st x) fun v => orNone (moreOf st.h (.int .u8) v) fun xs => K ⟨.v (.c (.str (bytesOf xs))), [], []⟩
    else if bytesConv E.te src dst = true then (match opd st x with
      | some (.c (.str s)) => K ⟨.v (.c (.sl none (.int .u8) (s.map fun b => (b.toNat : Int)))), [], []⟩
      | _ => none)
    else vop E.te st (.convert src dst x) fun v => K ⟨v, opdKeys st [x], []⟩
  | op => vop E.te st op fun v => K ⟨v, opdKeys st op.operands.toList, []⟩

def evalOp (E : Env R) (st : St) (o : Oper) (K : St → Option R) : Option R := evalF E st o fun x => K (st.app o.dst x)

def evalOps (E : Env R) (ops : Array Oper) : List Oper → St → (St → Option R) → Option R
  | [], st, K => K st
  | o :: rest, st, K => match o.guard with
    | none => evalOp E st o fun st => evalOps E ops rest st K
    | some (j, want) => match (ops[j]?).bind (·.dst) with
      | none => none
      | some d => match st.s[d]? with
        | some (.v (.c (.bool b))) =>
          if b = want then evalOp E (st.put (some d) (.v (.c (.bool want)))) o fun st => evalOps E ops rest st K
          else evalOps E ops rest ((st.put (some d) (.v (.c (.bool !want)))).put o.dst (.tup [])) K
        | some (.tup []) => evalOps E ops rest (st.put o.dst (.tup [])) K
        | _ => none

def Oper.guardSlot (ops : Array Oper) (o : Oper) : List Nat :=
  match o.guard with
  | none => []
  | some (j, _) => ((ops[j]?).bind (·.dst)).toList

/-- The slots that an operation looks at. -/
def Oper.looks (ops : Array Oper) (o : Oper) : List Nat :=
  (o.op.operands.toList.filterMap fun | .tmp t => some t | _ => none) ++ Oper.guardSlot ops o

/-- What one operation of a region did. -/
structure Did where
  dst : Option Nat
  looks : List Nat
  rd : List Nat
  x : Dl

def Did.ups (d : Did) : List Nat := d.x.up.map (·.1)

def did (ops : Array Oper) (st : St) (o : Oper) (x : Dl) : Did := ⟨o.dst, Oper.looks ops o, opdKeys st o.op.operands.toList ++ x.up.map (·.1), x⟩

def unDid (ops : Array Oper) (o : Oper) : Did := ⟨o.dst, Oper.looks ops o, [], ⟨.tup [], [], []⟩⟩

def disj (a b : List Nat) : Bool := a.all fun x => !b.contains x

def Did.apart (a b : Did) : Bool :=
  disj a.dst.toList b.looks && disj b.dst.toList a.looks && disj a.dst.toList b.dst.toList && disj a.ups b.rd && disj b.ups a.rd

def uni (xs ys : List Nat) : List Nat := xs.foldl (fun acc x => if acc.contains x then acc else x :: acc) ys

/-- What stands ahead of each operation. -/
def ancT : List Oper → List (List Nat) → List (List Nat)
  | [], tbl => tbl
  | o :: l, tbl => ancT l (tbl ++ [(o.after.toList.filter (Region.binds .any)).foldl (fun acc e => uni (e.on :: tbl.getD e.on []) acc) []])

def apartRow (ds : List Did) (as : List Nat) (j : Nat) (d : Did) : Bool :=
  (List.range j).all fun i => as.contains i || match ds[i]? with
    | some a => Did.apart a d
    | none => false

def textB : Nat → List Oper → Bool
  | _, [] => true
  | j, o :: l => (o.after.toList.all fun e => !Region.binds .any e || decide (e.on < j)) && textB (j + 1) l

def apartAll (ops : Array Oper) (ds : List Did) : Bool :=
  textB 0 ops.toList && (let tbl := ancT ops.toList []
  (List.range ds.length).all fun j => match ds[j]? with
    | some d => apartRow ds (tbl.getD j []) j d
    | none => false)

/-- The operations of a region in the order of the text, and what each did. -/
def evalDid (E : Env R) (ops : Array Oper) : List Oper → St → List Did → (List Did → St → Option R) → Option R
  | [], st, acc, K => K acc.reverse st
  | o :: rest, st, acc, K => match o.guard with
    | none => evalF E st o fun x => evalDid E ops rest (st.app o.dst x) (did ops st o x :: acc) K
    | some (j, want) => match (ops[j]?).bind (·.dst) with
      | none => none
      | some d => match st.s[d]? with
        | some (.v (.c (.bool b))) =>
          if b = want then evalF E (st.put (some d) (.v (.c (.bool want)))) o fun x => evalDid E ops rest ((st.put (some d) (.v (.c (.bool want)))).app o.dst x) (did ops (st.put (some d) (.v (.c (.bool want)))) o x :: acc) K
          else evalDid E ops rest ((st.put (some d) (.v (.c (.bool !want)))).put o.dst (.tup [])) (unDid ops o :: acc) K
        | some (.tup []) => evalDid E ops rest (st.put o.dst (.tup [])) (unDid ops o :: acc) K
        | _ => none

def evalRegion (E : Env R) (ops : Array Oper) (draw : Bool) (st : St) (K : St → Option R) : Option R :=
  if draw = true then evalDid E ops ops.toList st [] fun l st => if apartAll ops l = true then K st else none
  else evalOps E ops ops.toList st K

inductive Ex where
  | normal | exit (id : Nat) | goto (l : Nat) | ret

def first : Code → Option Nat
  | .region id _ _ => some id
  | .seq .skip b => first b
  | .seq (.label _) b => first b
  | .seq a _ => first a
  | .block _ c | .loop c | .scope c => first c
  | _ => none

def goJ (nl : Nat) (h : JH R) (ms : List Nat) (st : St) : Option R :=
  if h.sh.pins nl = true then match h.sh.abs st with
  | some a => h.j ms a.x
  | none => none
  else none

def goL (nl : Nat) (h : LH R) (ms : List Nat) (n : Nat) (st : St) : Option R :=
  if h.sh.pins nl = true then match h.sh.abs st with
  | some a => h.l ms n a.x
  | none => none
  else none

abbrev Kont (R : Type) := Ex → St → Option R

def kSeq (E : Env R) (ms : List Nat) (b : Code) (next : St → Option R) (K : Kont R) : Kont R
  | .normal, st => match (first b).bind E.join with
    | some h => goJ E.nl h ms st
    | none => next st
  | ex, st => K ex st

def kBlock (id : Nat) (K : Kont R) : Kont R
  | .exit i, st => if i = id then K .normal st else K (.exit i) st
  | ex, st => K ex st

def kLoop (nl : Nat) (h : LH R) (ms : List Nat) (m : Nat) (K : Kont R) : Kont R
  | .normal, st => goL nl h ms m st
  | ex, st => K ex st

def kScope (K : Kont R) : Kont R
  | .goto _, _ => none
  | ex, st => K ex st

def kLab (nl : Nat) (l : Nat) (h : LH R) (ms : List Nat) (m : Nat) (K : Kont R) : Kont R
  | .goto i, st => if i = l then goL nl h ms m st else K (.goto i) st
  | ex, st => K ex st

def labelOf : Code → Option Nat
  | .label l => some l
  | _ => none

/-- The function that is told for what stands behind a label. -/
def labH (E : Env R) (a : Code) : Option (Nat × LH R) :=
  match labelOf a with
  | some l => match E.lab l with
    | some h => some (l, h)
    | none => none
  | none => none

def evalCode (E : Env R) (ms : List Nat) : Code → St → Kont R → Option R
  | .skip, st, K => K .normal st
  | .label _, st, K => K .normal st
  | .region _ ops draw, st, K => evalRegion E ops draw st (K .normal)
  | .seq a b, st, K => match labH E a with
    | some h => goL E.nl h.2 ms E.n st
    | none => evalCode E ms a st (kSeq E ms b (fun st => evalCode E ms b st K) K)
  | .cond c a b, st, K => match opd st c with
    | some (.c (.bool t)) => if t = true then (match (first a).bind E.join with | some h => goJ E.nl h ms st | none => evalCode E ms a st K) else (match (first b).bind E.join with | some h => goJ E.nl h ms st | none => evalCode E ms b st K)
    | _ => none
  | .block id c, st, K => evalCode E ms c st (kBlock id K)
  | .loop c, st, _ => match (first c).bind E.loop with
    | some h => goL E.nl h ms E.n st
    | none => none
  | .exit id, st, K => K (.exit id) st
  | .goto l, st, K => K (.goto l) st
  | .ret, st, K => K .ret st
  | .scope c, st, K => evalCode E ms c st (kScope K)
  | _, _, _ => none

/-- The labels that stand in the open. -/
def labs : Code → List Nat
  | .seq a b => labs a ++ labs b
  | .label l => [l]
  | .cond _ a b => labs a ++ labs b
  | .block _ c | .loop c => labs c
  | _ => []

/-- What stands behind a label, up to the end. -/
def findTail : Code → Nat → Option Code
  | .seq a b, l => match labelOf a with
    | some i => if i = l then some b else findTail b l
    | none => if (findLabel a l).isNone then findTail b l else none
  | _, _ => none

def scopeB (c : Code) : Bool :=
  match labs c with
  | [] => true
  | [l] => (findTail c l).isSome
  | _ => false

/-- The places at which the evaluation leaves the code for a told function: they are to be what the code behind them does. -/
inductive Site (R : Type) where
  | join (h : JH R) (b : Code) (K : List Nat → Kont R)
  | loop (h : LH R) (c : Code) (K : List Nat → Nat → Kont R)
  | flag (b : Bool)

def sites (E : Env R) : Code → (List Nat → Kont R) → List (Site R)
  | .seq a b, K => match labH E a with
    | some h => .flag (labs b).isEmpty :: .loop h.2 b (fun ms m => kLab E.nl h.1 h.2 ms m (K ms)) :: sites E b (fun ms => kLab E.nl h.1 h.2 ms.tail ms.head! (K ms.tail))
    | none => .flag ((labelOf a).isSome || (labs a).isEmpty) :: sites E a (fun ms => kSeq E ms b (fun st => evalCode E ms b st (K ms)) (K ms))
      ++ (match (first b).bind E.join with | some h => [.join h b K] | none => []) ++ sites E b K
  | .cond _ a b, K => .flag ((labs a).isEmpty && (labs b).isEmpty) :: (match (first a).bind E.join with | some h => [.join h a K] | none => []) ++ (match (first b).bind E.join with | some h => [.join h b K] | none => []) ++ sites E a K ++ sites E b K
  | .block id c, K => .flag (labs c).isEmpty :: sites E c (fun ms => kBlock id (K ms))
  | .loop c, K => .flag (labs c).isEmpty :: (match (first c).bind E.loop with
    | some h => .loop h c (fun ms m => kLoop E.nl h ms m (K ms)) :: sites E c (fun ms => kLoop E.nl h ms.tail ms.head! (K ms.tail))
    | none => [])
  | .scope c, K => .flag (scopeB c) :: sites E c (fun ms => kScope (K ms))
  | _, _ => []

def Site.ok (E : Env R) : Site R → Prop
  | .join h b K => ∀ ms x, h.j ms x = evalCode E ms b (h.sh.mk' nmJ E.N x) (K ms)
  | .loop h c K => ∀ ms, (∀ x, h.l ms 0 x = none) ∧ ∀ m x, h.l ms (m + 1) x = evalCode E (m :: ms) c (h.sh.mk' nmJ E.N x) (K ms m)
  | .flag b => b = true

end Rv
