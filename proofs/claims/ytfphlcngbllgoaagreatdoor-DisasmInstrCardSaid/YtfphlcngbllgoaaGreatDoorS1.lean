/- Texts put together. -/
import Derived.Calls
import Derived.Lib.IndexMore
import Derived.Lib.ItoaNum
import Derived.Lib.Strings
set_option linter.all false
section
open Go
def Uv:=@Option.bind_some
def Uw:=@Option.some.injEq
def Ux:=@Option.some.inj
def Uy:=@Result.andThen_ok
def Uz:=@Nat.le_refl
def UA:=@List.mem_cons_of_mem
def UB:=@Bool.and_eq_true
def UC:=@Prod.mk.injEq
def UD:=@List.length_append
def UE:=@decide_eq_true_eq
def UF:=@List.getElem?_eq_getElem
def UG:=@List.mem_cons
def UH:=@List.getD_eq_getElem?_getD
def UI:=@List.getElem?_eq_some_iff
def UJ:=@Sem.run_bind
def UK:=@List.mem_append
def UL:=@Int.toNat_natCast
def UM:=@List.append_assoc
def UN:=@List.length_cons
def UO:=@List.map_cons
def UQ:=@Sem.run_pure
def UR:=@List.mem_map
def UT:=@List.all_eq_true
def UU:=@List.append_nil
def UV:=@List.mem_singleton
def UW:=@Nat.le_trans
def UX:=@List.drop_eq_getElem_cons
def UY:=@List.nil_append
def UZ:=@List.getElem?_take
def U0:=@List.getElem?_cons_zero
def U1:=@List.length_take
def U2:=@List.length_nil
def U3:=@List.drop_zero
def U4:=@List.mem_cons_self
def U5:=@List.length_drop
def U6:=@List.map_append
def U7:=@List.flatMap_cons
def U8:=@List.mem_filter
def U9:=@List.foldl_cons
def Va:=@List.getElem?_drop
def Vb:=@List.length_map
def Vd:=@Nat.lt_of_lt_of_le
def Ve:=@List.getElem?_append_left
def Vf:=@List.drop_length
def Vg:=@List.getElem_mem
def Vh:=@Option.map_some
def Vi:=@List.all_cons
def Vj:=@List.not_mem_nil
def Vk:=@Nat.add_assoc
def Vl:=@Int.tmod_eq_emod_of_nonneg
def Vm:=@List.length_replicate
def Vn:=@Option.isSome_iff_exists
def Vo:=@List.getElem?_map
def Vp:=@List.take_zero
end
namespace Rv
open Go
abbrev Str:=List UInt8
def mkS(s:Str):ByteArray:=⟨⟨s⟩⟩
inductive xn where
 |ci (k:IntKind) (n:Int)
 |cs (s:Str)
 deriving DecidableEq
inductive Cap where
 |c0 (c:xn)
 |cf (g:FuncId×List xn)
 deriving DecidableEq
abbrev Fn:=FuncId×List Cap
inductive Ty where
 |int (k:IntKind)|bool|str|sl (t:Ty)|nil|pair (a b:Ty)|fn
 deriving DecidableEq
@[reducible] def Ty.D:Ty->Type
 | .int _=>Int
 | .bool=>Bool
 | .str=>Str
 | .sl t=>List t.D
 | .nil=>Unit
 | .pair a b=>a.D×b.D
 | .fn=>Fn
def Ty.size:Ty->Nat
 | .nil=>0
 | .pair a b=>a.size+b.size
 |_=>1
def Ty.dflt:(t:Ty)->t.D
 | .int _=>(0:Int)
 | .bool=>false
 | .str=>([]:Str)
 | .sl _=>[]
 | .nil=>()
 | .pair a b=>(a.dflt,b.dflt)
 | .fn=>((0,[]):Fn)
abbrev Dep:=Option (Nat×Nat×Nat)
inductive Cell where
 |int (k:IntKind) (n:Int)
 |bool (b:Bool)
 |str (s:Str)
 |sl (d:Dep) (t:Ty) (xs:List t.D)
 |nilS
 |own (k v:Nat)
 |ownP (k v n:Nat)
 |ptr (k v off:Nat)
 |elt (k v i off:Nat)
 |slp (d:Dep) (t:Ty) (xs:List t.D) (i off:Nat)
 |raw (v:Value)
 |err (b:Bool)
 |ifo (t:TypeId) (k:IntKind) (o:Option Int)
 |glob (g:Nat)
 |pel (k v base n i:Nat)
 |fn (x:Fn)
 |clr (k v:Nat) (fs:List FuncId)
 |slc (d:Dep) (t:Ty) (xs:List t.D)
 |cle (k v:Nat) (f:FuncId)
 |dead
inductive V1 where
 |c (x:Cell)
 |agg (cs:List Cell)
inductive V where
 |v (x:V1)
 |tup (xs:List V1)
 |clo (f:FuncId) (cs:List Cell)
 |no
inductive Box where
 |cells (l:List Cell)
 |row (e:TypeId) (t:Ty) (xs:List t.D)
 |pub (t:Ty) (xs:List t.D)
 |gone
structure En where
 ver:Nat
 dver:Nat
 box:Box
abbrev Heap:=Nat->Option En
structure St where
 s:List V
 h:Heap
def gJ:Nat:=1000000
def V.dead:V:=.no
def Heap.at(h:Heap)(k v:Nat):Option Box:=
 match h k with
 |some e=>if e.ver=v then some e.box else none
 |none=>none
def Heap.depOk(h:Heap):Dep->Bool
 |none=>true
 |some (k,v,dv)=>match h k with
  |some e=>decide (e.ver=v/\e.dver=dv)
  |none=>false
def Heap.set(h:Heap)(k:Nat)(e:En):Heap:=fun j=>if j=k then some e else h j
def Heap.next(h:Heap)(k:Nat):Nat:=
 match h k with
 |some e=>e.ver+1
 |none=>0
def Heap.ofList:List (Nat×En)->Heap
 |[],_=>none
 |(k,e)::r,j=>if j=k then some e else Heap.ofList r j
structure Dl where
 v:V
 rd:List Nat
 up:List (Nat×En)
def St.put(st:St)(d:Option Nat)(v:V):St:=
 match d with
 |some d=>⟨st.s.set d v,st.h⟩
 |none=>st
def St.app(st:St)(d:Option Nat)(x:Dl):St:=(⟨st.s,x.up.foldl (fun h p=>h.set p.1 p.2) st.h⟩:St).put d x.v
def Cell.keys:Cell->List Nat
 | .own k _=>[k]
 | .ownP k _ _=>[k]
 | .ptr k _ _=>[k]
 | .elt k _ _ _=>[k]
 | .pel k _ _ _ _=>[k]
 | .clr k _ _=>[k]
 | .slc (some (k,_,_)) _ _=>[k]
 | .cle k _ _=>[k]
 | .sl (some (k,_,_)) _ _=>[k]
 | .slp (some (k,_,_)) _ _ _ _=>[k]
 |_=>[]
def V1.cells:V1->List Cell
 | .c x=>[x]
 | .agg cs=>cs
def V1.keys(x:V1):List Nat:=x.cells.flatMap Cell.keys
def Ty.cells(d:Dep):(t:Ty)->t.D->List Cell
 | .int k,n=>[.int k n]
 | .bool,b=>[.bool b]
 | .str,s=>[.str s]
 | .sl t,xs=>[.sl d t xs]
 | .nil,_=>[]
 | .pair a b,x=>a.cells d x.1++b.cells d x.2
 | .fn,x=>[.fn x]
def xn.val:xn->Value
 | .ci k n=>.int k n
 | .cs s=>.string (mkS s)
def Cap.cell:Cap->Cell
 | .cf g=>.slp none .fn [((g.1,g.2.map Cap.c0):Fn)] 0 0
 | .c0 (.ci k n)=>.slp none (.int k) [(n:Int)] 0 0
 | .c0 (.cs s)=>.slp none .str [s] 0 0
def Ty.parse:(t:Ty)->List Cell->Option (t.D×List Cell)
 | .int k,.int j n::r=>if j=k then some (n,r) else none
 | .bool,.bool b::r=>some (b,r)
 | .str,.str s::r=>some (s,r)
 | .sl _,.nilS::r=>some ([],r)
 | .sl t,.sl none t' xs::r=>if h:t'=t then some (h ▸ xs,r) else none
 | .nil,r=>some ((),r)
 | .fn,.fn x::r=>some (x,r)
 | .pair a b,r=>
  match a.parse r with
  |some (x,r)=>
   match b.parse r with
   |some (y,r)=>some ((x,y),r)
   |none=>none
  |none=>none
 |_,_=>none
def Ty.ofCells(t:Ty)(l:List Cell):Option t.D:=
 match t.parse l with
 |some (x,[])=>some x
 |_=>none
structure TI where
 size:Nat
 agg:Bool
 bytes:Nat
 zero:List Cell
 fields:List (Nat×Nat×Bool)
 elem:Option TypeId
 ty:Option Ty
 int:Option IntKind
 str:Bool
 iface:Bool
 cmp:Bool
 eq:Option Ty
 arr:Option Nat
def mkV(agg:Bool)(cs:List Cell):Option V1:=
 if agg then some (.agg cs) else match cs with
  |[c]=>some (.c c)
  |_=>none
def dD:Value->Option V1
 | .int k n=>some (.c (.int k n))
 | .bool b=>some (.c (.bool b))
 | .string s=>some (.c (.str s.data.toList))
 | .slice none 0 0=>some (.c .nilS)
 | .nilIface=>some (.c (.raw .nilIface))
 | .pointer none=>some (.c (.raw (.pointer none)))
 | .nilFunc=>some (.c (.raw .nilFunc))
 |_=>none
def opd(st:St):Operand->Option V1
 | .tmp t=>match st.s[t]? with
  |some (.v (.c .dead))=>none
  |some (.v x)=>some x
  |_=>none
 | .const v=>dD v
 | .func f=>some (.c (.raw (.func (.func f) #[] #[])))
 | .global _=>none
def opdV(st:St)(x:Operand):Option V:=
 match x with
 | .tmp t=>match st.s[t]? with
  |some (.tup vs)=>some (.tup vs)
  |some (.clo f cs)=>some (.clo f cs)
  |some (.v (.c .dead))=>none
  |some (.v x)=>some (.v x)
  |_=>none
 |x=>match opd st x with
  |some v=>some (.v v)
  |none=>none
def rowOf(h:Heap):Cell->Option ((t:Ty)×List t.D)
 | .sl d t xs=>if h.depOk d then some ⟨t,xs⟩ else none
 | .own k v=>match h.at k v with
  |some (.row _ t xs)=>some ⟨t,xs⟩
  |some (.pub t xs)=>some ⟨t,xs⟩
  |_=>none
 | .ownP k v n=>match h.at k v with
  |some (.row _ t xs)=>some ⟨t,xs.take n⟩
  |some (.pub t xs)=>some ⟨t,xs.take n⟩
  |_=>none
 |_=>none
def fI(h:Heap):Cell->Dep
 | .sl d _ _=>d
 | .own k v=>(h k).map fun e=>(k,v,e.dver)
 | .ownP k v _=>(h k).map fun e=>(k,v,e.dver)
 |_=>none
def bt(s:Str)(i:Int):Int:=((s.getD i.toNat 0).toNat:Int)
def aC(op:BinOp)(k:IntKind)(x y:Int):Int:=
 let a:=BitVec.ofInt k.bits x
 let b:=BitVec.ofInt k.bits y
 match op with
 | .and=>k.wrap (a &&& b).toNat
 | .or=>k.wrap (a ||| b).toNat
 | .xor=>k.wrap (a ^^^ b).toNat
 |_=>k.wrap (a &&& ~~~b).toNat
variable{R:Type}
def qR(op:BinOp)(k:IntKind)(x y:Int)(K:Cell->Option R):Option R:=
 match op with
 | .add=>K (.int k (k.wrap (x+y)))
 | .sub=>K (.int k (k.wrap (x-y)))
 | .mul=>K (.int k (k.wrap (x*y)))
 | .quo=>if y=0 then none else K (.int k (k.wrap (x.tdiv y)))
 | .rem=>if y=0 then none else K (.int k (x.tmod y))
 | .and=>K (.int k (aC .and k x y))
 | .or=>K (.int k (aC .or k x y))
 | .xor=>K (.int k (aC .xor k x y))
 | .andNot=>K (.int k (aC .andNot k x y))
 | .eql=>K (.bool (decide (x=y)))
 | .neq=>K (.bool (decide (x≠y)))
 | .lss=>K (.bool (decide (x<y)))
 | .leq=>K (.bool (decide (x<=y)))
 | .gtr=>K (.bool (decide (y<x)))
 | .geq=>K (.bool (decide (y<=x)))
 |_=>none
def qU(op:BinOp)(x y:Str)(K:Cell->Option R):Option R:=
 match op with
 | .add=>if x.length+y.length<=9223372036854775807 then K (.str (x++y)) else none
 | .eql=>K (.bool (decide (x=y)))
 | .neq=>K (.bool (!decide (x=y)))
 | .lss=>K (.bool (Op.bytesLess x y))
 | .leq=>K (.bool (Op.bytesLess x y||decide (x=y)))
 | .gtr=>K (.bool (!(Op.bytesLess x y||decide (x=y))))
 | .geq=>K (.bool (!(Op.bytesLess x y)))
 |_=>none
def shI(op:BinOp)(k:IntKind)(x y:Int)(K:Cell->Option R):Option R:=
 if y<0 then none else
 match op with
 | .shl=>K (.int k (k.wrap (x*2 ^ (min y.toNat k.bits))))
 |_=>K (.int k (x.fdiv (2 ^ (min y.toNat k.bits))))
def Ty.eqv:(t:Ty)->t.D->t.D->Bool
 | .int _,x,y=>decide (x=y)
 | .bool,x,y=>x == y
 | .str,x,y=>decide (x=y)
 | .sl _,_,_=>false
 | .nil,_,_=>true
 | .pair a b,x,y=>a.eqv x.1 y.1&&b.eqv x.2 y.2
 | .fn,_,_=>false
def oI(T:Ty)(xs ys:List Cell)(K:Bool->Option R):Option R:=
 match T.ofCells xs,T.ofCells ys with
 |some x,some y=>K (T.eqv x y)
 |_,_=>none
def jI(isB isI isX:Bool)(ik:TypeId->Option IntKind)(et:Option Ty)(op:BinOp)(a b:V1)(K:V1->Option R):Option R:=
 match op,a,b with
 | .shl,.c (.int k x),.c (.int _ y)=>shI .shl k x y fun c=>K (.c c)
 | .shr,.c (.int k x),.c (.int _ y)=>shI .shr k x y fun c=>K (.c c)
 |op,.c (.int k x),.c (.int k' y)=>if k=k' then qR op k x y fun c=>K (.c c) else none
 |op,.c (.str x),.c (.str y)=>qU op x y fun c=>K (.c c)
 | .eql,.c (.bool x),.c (.bool y)=>if isB=true then K (.c (.bool (x == y))) else none
 | .neq,.c (.bool x),.c (.bool y)=>if isB=true then K (.c (.bool (!(x == y)))) else none
 | .eql,.c (.err b),.c (.raw .nilIface)=>if isI=true then K (.c (.bool b)) else none
 | .neq,.c (.err b),.c (.raw .nilIface)=>if isI=true then K (.c (.bool (!b))) else none
 | .eql,.c (.ifo _ _ o),.c (.raw .nilIface)=>if isI=true then K (.c (.bool o.isNone)) else none
 | .neq,.c (.ifo _ _ o),.c (.raw .nilIface)=>if isI=true then K (.c (.bool (!o.isNone))) else none
 | .eql,.c (.ifo t k o),.c (.ifo t' k' (some m))=>if isX=true/\t=t'/\k=k'/\ik t=some k then K (.c (.bool (decide (o=some m)))) else none
 | .neq,.c (.ifo t k o),.c (.ifo t' k' (some m))=>if isX=true/\t=t'/\k=k'/\ik t=some k then K (.c (.bool (!decide (o=some m)))) else none
 | .eql,.agg xs,.agg ys=>match et with
  |some T=>oI T xs ys fun b=>K (.c (.bool b))
  |none=>none
 | .neq,.agg xs,.agg ys=>match et with
  |some T=>oI T xs ys fun b=>K (.c (.bool (!b)))
  |none=>none
 |_,_,_=>none
def unK(op:UnOp)(a:V1)(K:V1->Option R):Option R:=
 match op,a with
 | .not,.c (.bool b)=>K (.c (.bool (!b)))
 | .neg,.c (.int k n)=>K (.c (.int k (k.wrap (0-n))))
 | .xor,.c (.int k n)=>K (.c (.int k (aC .xor k (if k.signed then -1 else k.max) n)))
 |_,_=>none
def mn(a b:Int):Int:=if b<a then b else a
def mx(a b:Int):Int:=if b>a then b else a
def jO(k:IntKind):List Cell->Option (List Int)
 |[]=>some []
 | .int j n::r=>if j=k then(match jO k r with|some l=>some (n::l)|none=>none) else none
 |_=>none
def strsOf:List Cell->Option (List Str)
 |[]=>some []
 | .str s::r=>match strsOf r with|some l=>some (s::l)|none=>none
 |_=>none
def qc:List Cell->Option (List Bool)
 |[]=>some []
 | .bool s::r=>match qc r with|some l=>some (s::l)|none=>none
 |_=>none
def Db(cs:List Cell)(i:Nat):Option Cell:=
 match cs with
 | .int k _::_=>match jO k cs with|some l=>some (.int k (l.getD i 0))|none=>none
 | .str _::_=>match strsOf cs with|some l=>some (.str (l.getD i []))|none=>none
 | .bool _::_=>match qc cs with|some l=>some (.bool (l.getD i false))|none=>none
 |_=>none
def bytesOf(xs:List Int):Str:=xs.map fun n=>UInt8.ofNat n.toNat
end Rv
namespace Rv
open Go
namespace L
def indexByte(s:List UInt8)(c:Int):Int:=Lib.indexByte s (UInt8.ofNat c.toNat)
def cutRest(s p:List UInt8):List UInt8:=Lib.trimPrefix s p
def cutIs(s p:List UInt8):Bool:=Lib.hasPrefix s p
def containsO(s p:List UInt8):Option (Bool×Unit):=if s.length<4294967281 then some (Lib.contains s p,()) else none
def itoaO(n:Int):Option (List UInt8×Unit):=if -9223372036854775808<=n/\n<=9223372036854775807 then some (Lib.itoa n,()) else none
def toErrorO(_ s:List UInt8)(_ _:Int)(o:Option Int):Option (Bool×Unit):=if s.length<=281474976710656/\(o=some 1\/o=some 2) then some (false,()) else none
def isDig(b:UInt8):Bool:=decide (48<=b.toNat)&&decide (b.toNat<=57)
def trimDig(s:List UInt8):List UInt8:=((s.reverse.dropWhile isDig).reverse).dropWhile isDig
def trimO(s c:List UInt8):Option (List UInt8×Unit):=if c=[48,49,50,51,52,53,54,55,56,57]/\s.length<=2 then some (trimDig s,()) else none
def formatUintO(n base:Int):Option (List UInt8×Unit):=if base=10/\0<=n/\n<=9223372036854775807 then some (Lib.itoa n,()) else none
def kinds(s:List UInt8):Int×Bool:=if s=[42] then(6,true) else if s=[43] then(4,true) else if s=[45] then(5,true) else(0,false)
def kindsRow:List (List UInt8×Int):=[([42],6),([43],4),([45],5)]
def nameRows:List ((Int×Int×Bool)×List UInt8):=[((1,0,false),[77,79,86,32,76,83,76,32,65,83,82,32,82,79,82,32,65,78,68,32,65,78,78,32,73,79,82,32,88,79,82,32,65,68,68,32,83,85,66,32,77,85,76,32,68,73,86]),((1,0,true),[77,79,86,85]),((1,8,true),[65,68,67,32,83,66,67,32,77,76,85]),((3,0,false),[77,79,86,72]),((4,0,false),[77,79,86,70]),((5,0,false),[76,68,87,32,76,68,66,32,83,84,87,32,83,84,66]),((7,0,false),[66,77,73,32,66,69,81,32,66,67,83,32,66,86,83,32,66,76,83,32,66,76,84,32,66,76,69,32,66,46,32,66,80,76,32,66,78,69,32,66,67,67,32,66,86,67,32,66,72,73,32,66,71,69,32,66,71,84,32,66,78,86]),((7,0,true),[66,76,77,73,32,66,76,69,81,32,66,76,67,83,32,66,76,86,83,32,66,76,76,83,32,66,76,76,84,32,66,76,76,69,32,66,76,46,32,66,76,80,76,32,66,76,78,69,32,66,76,67,67,32,66,76,86,67,32,66,76,72,73,32,66,76,71,69,32,66,76,71,84,32,66,76,78,86]),((8,0,false),[76,68,76]),((9,0,false),[119,111,114,100]),((10,0,false),[101,120,112,111,114,116])]
def nameTbl:List (((Int×Int×Bool)×Nat)×(Int×Int×Bool)×List UInt8):=[(((1,0,false),0),(1,0,false),[77,79,86]),(((1,0,false),1),(1,1,false),[76,83,76]),(((1,0,false),2),(1,2,false),[65,83,82]),(((1,0,false),3),(1,3,false),[82,79,82]),(((1,0,false),4),(1,4,false),[65,78,68]),(((1,0,false),5),(1,5,false),[65,78,78]),(((1,0,false),6),(1,6,false),[73,79,82]),(((1,0,false),7),(1,7,false),[88,79,82]),(((1,0,false),8),(1,8,false),[65,68,68]),(((1,0,false),9),(1,9,false),[83,85,66]),(((1,0,false),10),(1,10,false),[77,85,76]),(((1,0,false),11),(1,11,false),[68,73,86]),(((1,0,true),0),(1,0,true),[77,79,86,85]),(((1,8,true),0),(1,8,true),[65,68,67]),(((1,8,true),1),(1,9,true),[83,66,67]),(((1,8,true),2),(1,10,true),[77,76,85]),(((3,0,false),0),(3,0,false),[77,79,86,72]),(((4,0,false),0),(4,0,false),[77,79,86,70]),(((5,0,false),0),(5,0,false),[76,68,87]),(((5,0,false),1),(5,1,false),[76,68,66]),(((5,0,false),2),(5,2,false),[83,84,87]),(((5,0,false),3),(5,3,false),[83,84,66]),(((7,0,false),0),(7,0,false),[66,77,73]),(((7,0,false),1),(7,1,false),[66,69,81]),(((7,0,false),2),(7,2,false),[66,67,83]),(((7,0,false),3),(7,3,false),[66,86,83]),(((7,0,false),4),(7,4,false),[66,76,83]),(((7,0,false),5),(7,5,false),[66,76,84]),(((7,0,false),6),(7,6,false),[66,76,69]),(((7,0,false),7),(7,7,false),[66]),(((7,0,false),8),(7,8,false),[66,80,76]),(((7,0,false),9),(7,9,false),[66,78,69]),(((7,0,false),10),(7,10,false),[66,67,67]),(((7,0,false),11),(7,11,false),[66,86,67]),(((7,0,false),12),(7,12,false),[66,72,73]),(((7,0,false),13),(7,13,false),[66,71,69]),(((7,0,false),14),(7,14,false),[66,71,84]),(((7,0,false),15),(7,15,false),[66,78,86]),(((7,0,true),0),(7,0,true),[66,76,77,73]),(((7,0,true),1),(7,1,true),[66,76,69,81]),(((7,0,true),2),(7,2,true),[66,76,67,83]),(((7,0,true),3),(7,3,true),[66,76,86,83]),(((7,0,true),4),(7,4,true),[66,76,76,83]),(((7,0,true),5),(7,5,true),[66,76,76,84]),(((7,0,true),6),(7,6,true),[66,76,76,69]),(((7,0,true),7),(7,7,true),[66,76]),(((7,0,true),8),(7,8,true),[66,76,80,76]),(((7,0,true),9),(7,9,true),[66,76,78,69]),(((7,0,true),10),(7,10,true),[66,76,67,67]),(((7,0,true),11),(7,11,true),[66,76,86,67]),(((7,0,true),12),(7,12,true),[66,76,72,73]),(((7,0,true),13),(7,13,true),[66,76,71,69]),(((7,0,true),14),(7,14,true),[66,76,71,84]),(((7,0,true),15),(7,15,true),[66,76,78,86]),(((8,0,false),0),(8,0,false),[76,68,76]),(((9,0,false),0),(9,0,false),[119,111,114,100]),(((10,0,false),0),(10,0,false),[101,120,112,111,114,116])]
def mnemR(k o:Int)(u:Bool):List UInt8:=((nameTbl.find? fun e=>e.2.1 == (k,o,u)).map (·.2.2)).getD []
def mnemO(k o:Int)(u:Bool):Option (List UInt8×Unit):=if -9223372036854775808<=k/\k<=9223372036854775807/\-9223372036854775808<=o/\o<=9223372036854775807 then some (mnemR k o u,()) else none
def ofR(s:List UInt8):Int×Int×Bool×Bool×Unit:=match nameTbl.find? fun e=>e.2.2 == s with|some e=>(e.2.1.1,e.2.1.2.1,e.2.1.2.2,true,())|none=>(0,0,false,false,())
def nameOfO(s:List UInt8):Option (Int×Int×Bool×Bool×Unit):=some (ofR s)
def sjoinR(sep:List UInt8):List (List UInt8)->List UInt8
 |[]=>[]
 |x::r=>x++(r.map (sep++·)).flatten
def sjoinO(l:List (List UInt8))(sep:List UInt8):Option (List UInt8×Unit):=if(sjoinR sep l).length<=140737488355328/\l.length<=140737488355328 then some (sjoinR sep l,()) else none
def splitR(c:UInt8):List UInt8->List (List UInt8)
 |[]=>[[]]
 |b::s=>if b=c then[]::splitR c s else match splitR c s with
  |[]=>[[b]]
  |l::r=>(b::l)::r
def splitO(s sep:List UInt8):Option (List (List UInt8)×Unit):=match sep with
 |[c]=>if s.length<4294967281 then some (splitR c s,()) else none
 |_=>none
def cmpR:List UInt8->List UInt8->Int
 |[],[]=>0
 |[],_::_=>-1
 |_::_,[]=>1
 |a::r,b::s=>if a<b then -1 else if b<a then 1 else cmpR r s
def cloneO(xs:List Int):Option (List Int×Unit):=if xs.length*4<=140737488355328 then some (xs,()) else none
def insN(x:Int):List Int->List Int
 |[]=>[x]
 |y::r=>if x<y then x::y::r else if x=y then y::r else y::insN x r
def labS(ws:List Int):List Int->List Int->Option (List Int)
 |[],acc=>some acc
 |s::r,acc=>if 0<=s then(match ws[s.toNat]? with
  |some x=>if 0<=x/\x<=4294967295 then labS ws r (insN (if x % 4=0 then x else 0) acc) else none
  |none=>none) else none
def labJ(j:Int->Option (Int×Bool×Unit)):Nat->Int->List Int->Option (List Int)
 |0,_,acc=>some acc
 |n+1,i,acc=>match j i with
  |some (x,b,_)=>if b=true then(if -9223372036854775808<=x/\x<=9223372036854775807 then labJ j n (i+1) (insN x acc) else none) else labJ j n (i+1) acc
  |none=>none
def labelOfO(may:List Int->List Int->List (List UInt8×Int×Unit)->Option (Int×Unit))(jump:List Int->List Int->List (List UInt8×Int×Unit)->Int->Option (Int×Bool×Unit))(ws ss:List Int)(ys:List (List UInt8×Int×Unit)):Option (List Int×Int×Unit):=
 match may ws ss ys with
 |some (e,_)=>if e=0 then(if ws.length<=1000000/\ss.length<=1000000 then(match labS ws ss [] with
   |some a=>(match labJ (jump ws ss ys) ws.length 0 a with
    |some r=>some (r,0,())
    |none=>none)
   |none=>none) else none) else some ([],e,())
 |none=>none
abbrev StT:=Int×Int×Int×Int×Int×Bool×List (Int×Int×List UInt8×Unit)×List UInt8×Unit
abbrev LnT:=List UInt8×StT×Unit
def st0(k:Int)(s:List UInt8):StT:=(k,0,0,0,0,false,[],s,())
def linS(x:Int):List (List UInt8×Int×Unit)->List LnT
 |[]=>[]
 |s::r=>if s.2.1=x then(s.1,st0 0 [],())::linS x r else linS x r
def linI(bs:Int->Option (Int×Bool×Unit))(nm:Int->Option (List UInt8×Unit))(line:Int->Option StT)(ys:List (List UInt8×Int×Unit))(n:Nat):Nat->Int->List LnT->Option (List LnT)
 |0,_,acc=>some acc
 |k+1,i,acc=>match bs (4*i) with
  |none=>none
  |some (_,b,_)=>match (if b=true then(match nm (4*i) with
    |some (s,_)=>some [(s,st0 0 [],())]
    |none=>none) else some []) with
   |none=>none
   |some l=>match (if i<n then(match line i with
     |some s=>some [([],s,())]
     |none=>none) else some []) with
    |none=>none
    |some m=>linI bs nm line ys n k (i+1) (acc++linS (4*i) ys++l++m)
def linX:List (List UInt8×Int×Unit)->List LnT
 |[]=>[]
 |s::r=>([],st0 10 s.1,())::linX r
def linesO(may:List Int->List Int->List (List UInt8×Int×Unit)->Option (Int×Unit))(of:List Int->List Int->List (List UInt8×Int×Unit)->Option (List Int×Int×Unit))(bs:List Int->Int->Option (Int×Bool×Unit))(nm:Int->Option (List UInt8×Unit))
  (line:List Int->List Int->List (List UInt8×Int×Unit)->Int->Option StT) (ws ss:List Int) (ys:List (List UInt8×Int×Unit)):Option (List LnT×Int×Unit):=
 match may ws ss ys with
 |none=>none
 |some (e,_)=>if e=0 then(match of ws ss ys with
   |none=>none
   |some (p,f,_)=>if f=0 then(if ws.length<=100000/\ys.length<=100000 then(match linI (bs p) nm (line ws ss ys) ys ws.length (ws.length+1) 0 [] with
     |none=>none
     |some l=>if(l++linX ys).length<=1000000 then some (l++linX ys,0,()) else none) else none) else some ([],f,())) else some ([],e,())
def insertO(xs:List (List UInt8×Int×Unit))(i:Int)(ys:List (List UInt8×Int×Unit)):Option (List (List UInt8×Int×Unit)×Unit):=
 if 0<=i/\i<=(xs.length:Int)/\ys.length=1/\(xs.length+1)*24<=140737488355328 then some (xs.take i.toNat++ys++xs.drop i.toNat,()) else none
def underscoreO(_:List UInt8):Option (Bool×Unit):=none
end L
end Rv
