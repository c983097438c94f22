/- Texts put together. -/
import Derived.Lib.IndexMore
import Derived.Lib.ItoaNum
set_option linter.all false
open _root_ renaming List→I,Option→O,Int→U,Unit→Y,Bool→Z,Nat→F
open Bool renaming false→J,true→X
open Option renaming none→S,some→W
open Decidable renaming decide→G
section
open Go
def ND:=@Option.some.injEq
def NE:=@Option.bind_some
def NF:=@Option.some.inj
def NG:=@Result.andThen_ok
def NH:=@decide_eq_true_eq
def NI:=@Prod.mk.injEq
def NJ:=@Bool.and_eq_true
def NL:=@Nat.le_refl
def NM:=@Int.toNat_natCast
def NN:=@List.getD_eq_getElem?_getD
def NP:=@List.length_append
def NQ:=@List.getElem?_eq_getElem
def NR:=@Sem.run_bind
def NS:=@List.getElem?_eq_some_iff
def NT:=@List.mem_cons
def NU:=@List.mem_cons_of_mem
def NV:=@List.mem_append
def NW:=@List.append_assoc
def NY:=@List.map_cons
def NZ:=@Sem.run_pure
def N7:=@List.length_cons
def N8:=@List.mem_map
def N9:=@List.append_nil
def Oa:=@List.all_eq_true
def Ob:=@List.mem_singleton
def Oc:=@List.nil_append
def Oe:=@List.drop_eq_getElem_cons
def Og:=@Nat.le_trans
def Oh:=@List.getElem?_cons_zero
def Oi:=@List.getElem?_take
def Oj:=@Int.tmod_eq_emod_of_nonneg
def Ol:=@List.length_nil
def Om:=@List.drop_zero
def Oo:=@List.getElem_mem
def Oq:=@List.foldl_cons
def Ot:=@Nat.lt_of_lt_of_le
def Ou:=@List.getElem?_append_left
def Ov:=@List.getElem?_drop
def Ow:=@List.length_map
def Ox:=@List.mem_filter
def Oy:=@List.all_cons
def Oz:=@List.flatMap_cons
def OA:=@List.map_append
def OB:=@List.mem_cons_self
def OC:=@Option.map_some
def OD:=@List.length_take
def OE:=@Nat.add_assoc
def OG:=@List.drop_length
def OH:=@List.length_replicate
def OI:=@List.getElem?_map
end
namespace Rv
open Go
abbrev Str:=I UInt8
def mkS(s:Str):ByteArray:=⟨⟨s⟩⟩
inductive tK where
 |ci (k:IntKind) (n:U)
 |cs (s:Str)
 deriving DecidableEq
inductive Cap where
 |c0 (c:tK)
 |cf (g:FuncId×I tK)
 deriving DecidableEq
abbrev Fn:=FuncId×I Cap
inductive Ty where
 |int (k:IntKind)|bool|str|sl (t:Ty)|nil|pair (a b:Ty)|fn
 deriving DecidableEq
@[reducible] def Ty.D:Ty->Type
 | .int _=>U
 | .bool=>Z
 | .str=>Str
 | .sl t=>I t.D
 | .nil=>Y
 | .pair a b=>a.D×b.D
 | .fn=>Fn
def Ty.size:Ty->F
 | .nil=>0
 | .pair a b=>a.size+b.size
 |_=>1
def Ty.dflt:(t:Ty)->t.D
 | .int _=>(0:U)
 | .bool=>J
 | .str=>([]:Str)
 | .sl _=>[]
 | .nil=>()
 | .pair a b=>(a.dflt,b.dflt)
 | .fn=>((0,[]):Fn)
abbrev Dep:=O (F×F×F)
inductive Cell where
 |int (k:IntKind) (n:U)
 |bool (b:Z)
 |str (s:Str)
 |sl (d:Dep) (t:Ty) (xs:I t.D)
 |nilS
 |own (k v:F)
 |ownP (k v n:F)
 |ptr (k v off:F)
 |elt (k v i off:F)
 |slp (d:Dep) (t:Ty) (xs:I t.D) (i off:F)
 |raw (v:Value)
 |err (b:Z)
 |ifo (t:TypeId) (k:IntKind) (o:O U)
 |glob (g:F)
 |pel (k v base n i:F)
 |fn (x:Fn)
 |clr (k v:F) (fs:I FuncId)
 |slc (d:Dep) (t:Ty) (xs:I t.D)
 |cle (k v:F) (f:FuncId)
 |dead
inductive V1 where
 |c (x:Cell)
 |agg (cs:I Cell)
inductive V where
 |v (x:V1)
 |tup (xs:I V1)
 |clo (f:FuncId) (cs:I Cell)
 |no
inductive Box where
 |cells (l:I Cell)
 |row (e:TypeId) (t:Ty) (xs:I t.D)
 |pub (t:Ty) (xs:I t.D)
 |gone
structure En where
 ver:F
 dver:F
 box:Box
abbrev Heap:=F->O En
structure St where
 s:I V
 h:Heap
def fe:F:=1000000
def V.dead:V:=.no
def Heap.at(h:Heap)(k v:F):O Box:=
 match h k with
 |some e=>if e.ver=v then W e.box else S
 |none=>S
def Heap.depOk(h:Heap):Dep->Z
 |none=>X
 |some (k,v,dv)=>match h k with
  |some e=>G (e.ver=v/\e.dver=dv)
  |none=>J
def Heap.set(h:Heap)(k:F)(e:En):Heap:=λj=>if j=k then W e else h j
def Heap.next(h:Heap)(k:F):F:=
 match h k with
 |some e=>e.ver+1
 |none=>0
def Heap.ofList:I (F×En)->Heap
 |[],_=>S
 |(k,e)::r,j=>if j=k then W e else Heap.ofList r j
structure Dl where
 v:V
 rd:I F
 up:I (F×En)
def St.put(st:St)(d:O F)(v:V):St:=
 match d with
 |some d=>⟨st.s.set d v,st.h⟩
 |none=>st
def St.app(st:St)(d:O F)(x:Dl):St:=(⟨st.s,x.up.foldl (λh p=>h.set p.1 p.2) st.h⟩:St).put d x.v
def Cell.keys:Cell->I F
 | .own k _=>[k]
 | .ownP k _ _=>[k]
 | .ptr k _ _=>[k]
 | .elt k _ _ _=>[k]
 | .pel k _ _ _ _=>[k]
 | .clr k _ _=>[k]
 | .slc (W (k,_,_)) _ _=>[k]
 | .cle k _ _=>[k]
 | .sl (W (k,_,_)) _ _=>[k]
 | .slp (W (k,_,_)) _ _ _ _=>[k]
 |_=>[]
def V1.cells:V1->I Cell
 | .c x=>[x]
 | .agg cs=>cs
def V1.keys(x:V1):I F:=x.cells.flatMap Cell.keys
def Ty.cells(d:Dep):(t:Ty)->t.D->I Cell
 | .int k,n=>[.int k n]
 | .bool,b=>[.bool b]
 | .str,s=>[.str s]
 | .sl t,xs=>[.sl d t xs]
 | .nil,_=>[]
 | .pair a b,x=>a.cells d x.1++b.cells d x.2
 | .fn,x=>[.fn x]
def tK.val:tK->Value
 | .ci k n=>.int k n
 | .cs s=>.string (mkS s)
def Cap.cell:Cap->Cell
 | .cf g=>.slp S .fn [((g.1,g.2.map Cap.c0):Fn)] 0 0
 | .c0 (.ci k n)=>.slp S (.int k) [(n:U)] 0 0
 | .c0 (.cs s)=>.slp S .str [s] 0 0
def Ty.parse:(t:Ty)->I Cell->O (t.D×I Cell)
 | .int k,.int j n::r=>if j=k then W (n,r) else S
 | .bool,.bool b::r=>W (b,r)
 | .str,.str s::r=>W (s,r)
 | .sl _,.nilS::r=>W ([],r)
 | .sl t,.sl S t' xs::r=>if h:t'=t then W (h ▸ xs,r) else S
 | .nil,r=>W ((),r)
 | .fn,.fn x::r=>W (x,r)
 | .pair a b,r=>
  match a.parse r with
  |some (x,r)=>
   match b.parse r with
   |some (y,r)=>W ((x,y),r)
   |none=>S
  |none=>S
 |_,_=>S
def Ty.ofCells(t:Ty)(l:I Cell):O t.D:=
 match t.parse l with
 |some (x,[])=>W x
 |_=>S
structure TI where
 size:F
 agg:Z
 bytes:F
 zero:I Cell
 fields:I (F×F×Z)
 elem:O TypeId
 ty:O Ty
 int:O IntKind
 str:Z
 iface:Z
 cmp:Z
 eq:O Ty
 arr:O F
def mkV(agg:Z)(cs:I Cell):O V1:=
 if agg then W (.agg cs) else match cs with
  |[c]=>W (.c c)
  |_=>S
def cK:Value->O V1
 | .int k n=>W (.c (.int k n))
 | .bool b=>W (.c (.bool b))
 | .string s=>W (.c (.str s.data.toList))
 | .slice S 0 0=>W (.c .nilS)
 | .nilIface=>W (.c (.raw .nilIface))
 | .pointer S=>W (.c (.raw (.pointer S)))
 | .nilFunc=>W (.c (.raw .nilFunc))
 |_=>S
def opd(st:St):Operand->O V1
 | .tmp t=>match st.s[t]? with
  |some (.v (.c .dead))=>S
  |some (.v x)=>W x
  |_=>S
 | .const v=>cK v
 | .func f=>W (.c (.raw (.func (.func f) #[] #[])))
 | .global _=>S
def opdV(st:St)(x:Operand):O V:=
 match x with
 | .tmp t=>match st.s[t]? with
  |some (.tup vs)=>W (.tup vs)
  |some (.clo f cs)=>W (.clo f cs)
  |some (.v (.c .dead))=>S
  |some (.v x)=>W (.v x)
  |_=>S
 |x=>match opd st x with
  |some v=>W (.v v)
  |none=>S
def rowOf(h:Heap):Cell->O ((t:Ty)×I t.D)
 | .sl d t xs=>if h.depOk d then W ⟨t,xs⟩ else S
 | .own k v=>match h.at k v with
  |some (.row _ t xs)=>W ⟨t,xs⟩
  |some (.pub t xs)=>W ⟨t,xs⟩
  |_=>S
 | .ownP k v n=>match h.at k v with
  |some (.row _ t xs)=>W ⟨t,xs.take n⟩
  |some (.pub t xs)=>W ⟨t,xs.take n⟩
  |_=>S
 |_=>S
def eB(h:Heap):Cell->Dep
 | .sl d _ _=>d
 | .own k v=>(h k).map λe=>(k,v,e.dver)
 | .ownP k v _=>(h k).map λe=>(k,v,e.dver)
 |_=>S
def bt(s:Str)(i:U):U:=((s.getD i.toNat 0).toNat:U)
def ai(op:BinOp)(k:IntKind)(x y:U):U:=
 let a:=BitVec.ofInt k.bits x
 let b:=BitVec.ofInt k.bits y
 match op with
 | .and=>k.wrap (a &&& b).toNat
 | .or=>k.wrap (a ||| b).toNat
 | .xor=>k.wrap (a ^^^ b).toNat
 |_=>k.wrap (a &&& ~~~b).toNat
variable{R:Type}
def oD(op:BinOp)(k:IntKind)(x y:U)(K:Cell->O R):O R:=
 match op with
 | .add=>K (.int k (k.wrap (x+y)))
 | .sub=>K (.int k (k.wrap (x-y)))
 | .mul=>K (.int k (k.wrap (x*y)))
 | .quo=>if y=0 then S else K (.int k (k.wrap (x.tdiv y)))
 | .rem=>if y=0 then S else K (.int k (x.tmod y))
 | .and=>K (.int k (ai .and k x y))
 | .or=>K (.int k (ai .or k x y))
 | .xor=>K (.int k (ai .xor k x y))
 | .andNot=>K (.int k (ai .andNot k x y))
 | .eql=>K (.bool (G (x=y)))
 | .neq=>K (.bool (G (x≠y)))
 | .lss=>K (.bool (G (x<y)))
 | .leq=>K (.bool (G (x<=y)))
 | .gtr=>K (.bool (G (y<x)))
 | .geq=>K (.bool (G (y<=x)))
 |_=>S
def oF(op:BinOp)(x y:Str)(K:Cell->O R):O R:=
 match op with
 | .add=>if x.length+y.length<=9223372036854775807 then K (.str (x++y)) else S
 | .eql=>K (.bool (G (x=y)))
 | .neq=>K (.bool (!G (x=y)))
 | .lss=>K (.bool (Op.bytesLess x y))
 | .leq=>K (.bool (Op.bytesLess x y||G (x=y)))
 | .gtr=>K (.bool (!(Op.bytesLess x y||G (x=y))))
 | .geq=>K (.bool (!(Op.bytesLess x y)))
 |_=>S
def shI(op:BinOp)(k:IntKind)(x y:U)(K:Cell->O R):O R:=
 if y<0 then S else
 match op with
 | .shl=>K (.int k (k.wrap (x*2 ^ (min y.toNat k.bits))))
 |_=>K (.int k (x.fdiv (2 ^ (min y.toNat k.bits))))
def Ty.eqv:(t:Ty)->t.D->t.D->Z
 | .int _,x,y=>G (x=y)
 | .bool,x,y=>x == y
 | .str,x,y=>G (x=y)
 | .sl _,_,_=>J
 | .nil,_,_=>X
 | .pair a b,x,y=>a.eqv x.1 y.1&&b.eqv x.2 y.2
 | .fn,_,_=>J
def mh(T:Ty)(xs ys:I Cell)(K:Z->O R):O R:=
 match T.ofCells xs,T.ofCells ys with
 |some x,W y=>K (T.eqv x y)
 |_,_=>S
def iM(isB isI isX:Z)(ik:TypeId->O IntKind)(et:O Ty)(op:BinOp)(a b:V1)(K:V1->O R):O R:=
 match op,a,b with
 | .shl,.c (.int k x),.c (.int _ y)=>shI .shl k x y λc=>K (.c c)
 | .shr,.c (.int k x),.c (.int _ y)=>shI .shr k x y λc=>K (.c c)
 |op,.c (.int k x),.c (.int k' y)=>if k=k' then oD op k x y λc=>K (.c c) else S
 |op,.c (.str x),.c (.str y)=>oF op x y λc=>K (.c c)
 | .eql,.c (.bool x),.c (.bool y)=>if isB=X then K (.c (.bool (x == y))) else S
 | .neq,.c (.bool x),.c (.bool y)=>if isB=X then K (.c (.bool (!(x == y)))) else S
 | .eql,.c (.err b),.c (.raw .nilIface)=>if isI=X then K (.c (.bool b)) else S
 | .neq,.c (.err b),.c (.raw .nilIface)=>if isI=X then K (.c (.bool (!b))) else S
 | .eql,.c (.ifo _ _ o),.c (.raw .nilIface)=>if isI=X then K (.c (.bool o.isNone)) else S
 | .neq,.c (.ifo _ _ o),.c (.raw .nilIface)=>if isI=X then K (.c (.bool (!o.isNone))) else S
 | .eql,.c (.ifo t k o),.c (.ifo t' k' (W m))=>if isX=X/\t=t'/\k=k'/\ik t=W k then K (.c (.bool (G (o=W m)))) else S
 | .neq,.c (.ifo t k o),.c (.ifo t' k' (W m))=>if isX=X/\t=t'/\k=k'/\ik t=W k then K (.c (.bool (!G (o=W m)))) else S
 | .eql,.agg xs,.agg ys=>match et with
  |some T=>mh T xs ys λb=>K (.c (.bool b))
  |none=>S
 | .neq,.agg xs,.agg ys=>match et with
  |some T=>mh T xs ys λb=>K (.c (.bool (!b)))
  |none=>S
 |_,_,_=>S
def unK(op:UnOp)(a:V1)(K:V1->O R):O R:=
 match op,a with
 | .not,.c (.bool b)=>K (.c (.bool (!b)))
 | .neg,.c (.int k n)=>K (.c (.int k (k.wrap (0-n))))
 | .xor,.c (.int k n)=>K (.c (.int k (ai .xor k (if k.signed then -1 else k.max) n)))
 |_,_=>S
def mn(a b:U):U:=if b<a then b else a
def mx(a b:U):U:=if b>a then b else a
def iT(k:IntKind):I Cell->O (I U)
 |[]=>W []
 | .int j n::r=>if j=k then(match iT k r with|some l=>W (n::l)|none=>S) else S
 |_=>S
def strsOf:I Cell->O (I Str)
 |[]=>W []
 | .str s::r=>match strsOf r with|some l=>W (s::l)|none=>S
 |_=>S
def nC:I Cell->O (I Z)
 |[]=>W []
 | .bool s::r=>match nC r with|some l=>W (s::l)|none=>S
 |_=>S
def yN(cs:I Cell)(i:F):O Cell:=
 match cs with
 | .int k _::_=>match iT k cs with|some l=>W (.int k (l.getD i 0))|none=>S
 | .str _::_=>match strsOf cs with|some l=>W (.str (l.getD i []))|none=>S
 | .bool _::_=>match nC cs with|some l=>W (.bool (l.getD i J))|none=>S
 |_=>S
def bytesOf(xs:I U):Str:=xs.map λn=>UInt8.ofNat n.toNat
end Rv
namespace Rv
open Go
namespace L
def cutRest(s p:I UInt8):I UInt8:=Lib.trimPrefix s p
def cutIs(s p:I UInt8):Z:=Lib.hasPrefix s p
def itoaO(n:U):O (I UInt8×Y):=if -9223372036854775808<=n/\n<=9223372036854775807 then W (Lib.itoa n,()) else S
def toErrorO(_ s:I UInt8)(_ _:U)(o:O U):O (Z×Y):=if s.length<=281474976710656/\(o=W 1\/o=W 2) then W (J,()) else S
def isDig(b:UInt8):Z:=G (48<=b.toNat)&&G (b.toNat<=57)
def trimDig(s:I UInt8):I UInt8:=((s.reverse.dropWhile isDig).reverse).dropWhile isDig
def trimO(s c:I UInt8):O (I UInt8×Y):=if c=[48,49,50,51,52,53,54,55,56,57]/\s.length<=2 then W (trimDig s,()) else S
def formatUintO(n base:U):O (I UInt8×Y):=if base=10/\0<=n/\n<=9223372036854775807 then W (Lib.itoa n,()) else S
def kinds(s:I UInt8):U×Z:=if s=[42] then(6,X) else if s=[43] then(4,X) else if s=[45] then(5,X) else(0,J)
def kindsRow:I (I UInt8×U):=[([42],6),([43],4),([45],5)]
def nameRows:I ((U×U×Z)×I UInt8):=[((1,0,J),[77,79,86,32,76,83,76,32,65,83,82,32,82,79,82,32,65,78,68,32,65,78,78,32,73,79,82,32,88,79,82,32,65,68,68,32,83,85,66,32,77,85,76,32,68,73,86]),((1,0,X),[77,79,86,85]),((1,8,X),[65,68,67,32,83,66,67,32,77,76,85]),((3,0,J),[77,79,86,72]),((4,0,J),[77,79,86,70]),((5,0,J),[76,68,87,32,76,68,66,32,83,84,87,32,83,84,66]),((7,0,J),[66,77,73,32,66,69,81,32,66,67,83,32,66,86,83,32,66,76,83,32,66,76,84,32,66,76,69,32,66,46,32,66,80,76,32,66,78,69,32,66,67,67,32,66,86,67,32,66,72,73,32,66,71,69,32,66,71,84,32,66,78,86]),((7,0,X),[66,76,77,73,32,66,76,69,81,32,66,76,67,83,32,66,76,86,83,32,66,76,76,83,32,66,76,76,84,32,66,76,76,69,32,66,76,46,32,66,76,80,76,32,66,76,78,69,32,66,76,67,67,32,66,76,86,67,32,66,76,72,73,32,66,76,71,69,32,66,76,71,84,32,66,76,78,86]),((8,0,J),[76,68,76]),((9,0,J),[119,111,114,100]),((10,0,J),[101,120,112,111,114,116])]
def nameTbl:I (((U×U×Z)×F)×(U×U×Z)×I UInt8):=[(((1,0,J),0),(1,0,J),[77,79,86]),(((1,0,J),1),(1,1,J),[76,83,76]),(((1,0,J),2),(1,2,J),[65,83,82]),(((1,0,J),3),(1,3,J),[82,79,82]),(((1,0,J),4),(1,4,J),[65,78,68]),(((1,0,J),5),(1,5,J),[65,78,78]),(((1,0,J),6),(1,6,J),[73,79,82]),(((1,0,J),7),(1,7,J),[88,79,82]),(((1,0,J),8),(1,8,J),[65,68,68]),(((1,0,J),9),(1,9,J),[83,85,66]),(((1,0,J),10),(1,10,J),[77,85,76]),(((1,0,J),11),(1,11,J),[68,73,86]),(((1,0,X),0),(1,0,X),[77,79,86,85]),(((1,8,X),0),(1,8,X),[65,68,67]),(((1,8,X),1),(1,9,X),[83,66,67]),(((1,8,X),2),(1,10,X),[77,76,85]),(((3,0,J),0),(3,0,J),[77,79,86,72]),(((4,0,J),0),(4,0,J),[77,79,86,70]),(((5,0,J),0),(5,0,J),[76,68,87]),(((5,0,J),1),(5,1,J),[76,68,66]),(((5,0,J),2),(5,2,J),[83,84,87]),(((5,0,J),3),(5,3,J),[83,84,66]),(((7,0,J),0),(7,0,J),[66,77,73]),(((7,0,J),1),(7,1,J),[66,69,81]),(((7,0,J),2),(7,2,J),[66,67,83]),(((7,0,J),3),(7,3,J),[66,86,83]),(((7,0,J),4),(7,4,J),[66,76,83]),(((7,0,J),5),(7,5,J),[66,76,84]),(((7,0,J),6),(7,6,J),[66,76,69]),(((7,0,J),7),(7,7,J),[66]),(((7,0,J),8),(7,8,J),[66,80,76]),(((7,0,J),9),(7,9,J),[66,78,69]),(((7,0,J),10),(7,10,J),[66,67,67]),(((7,0,J),11),(7,11,J),[66,86,67]),(((7,0,J),12),(7,12,J),[66,72,73]),(((7,0,J),13),(7,13,J),[66,71,69]),(((7,0,J),14),(7,14,J),[66,71,84]),(((7,0,J),15),(7,15,J),[66,78,86]),(((7,0,X),0),(7,0,X),[66,76,77,73]),(((7,0,X),1),(7,1,X),[66,76,69,81]),(((7,0,X),2),(7,2,X),[66,76,67,83]),(((7,0,X),3),(7,3,X),[66,76,86,83]),(((7,0,X),4),(7,4,X),[66,76,76,83]),(((7,0,X),5),(7,5,X),[66,76,76,84]),(((7,0,X),6),(7,6,X),[66,76,76,69]),(((7,0,X),7),(7,7,X),[66,76]),(((7,0,X),8),(7,8,X),[66,76,80,76]),(((7,0,X),9),(7,9,X),[66,76,78,69]),(((7,0,X),10),(7,10,X),[66,76,67,67]),(((7,0,X),11),(7,11,X),[66,76,86,67]),(((7,0,X),12),(7,12,X),[66,76,72,73]),(((7,0,X),13),(7,13,X),[66,76,71,69]),(((7,0,X),14),(7,14,X),[66,76,71,84]),(((7,0,X),15),(7,15,X),[66,76,78,86]),(((8,0,J),0),(8,0,J),[76,68,76]),(((9,0,J),0),(9,0,J),[119,111,114,100]),(((10,0,J),0),(10,0,J),[101,120,112,111,114,116])]
def mnemR(k o:U)(u:Z):I UInt8:=((nameTbl.find? λe=>e.2.1 == (k,o,u)).map (·.2.2)).getD []
def mnemO(k o:U)(u:Z):O (I UInt8×Y):=if -9223372036854775808<=k/\k<=9223372036854775807/\-9223372036854775808<=o/\o<=9223372036854775807 then W (mnemR k o u,()) else S
def ofR(s:I UInt8):U×U×Z×Z×Y:=match nameTbl.find? λe=>e.2.2 == s with|some e=>(e.2.1.1,e.2.1.2.1,e.2.1.2.2,X,())|none=>(0,0,J,J,())
def sjoinR(sep:I UInt8):I (I UInt8)->I UInt8
 |[]=>[]
 |x::r=>x++(r.map (sep++·)).flatten
def sjoinO(l:I (I UInt8))(sep:I UInt8):O (I UInt8×Y):=if(sjoinR sep l).length<=140737488355328/\l.length<=140737488355328 then W (sjoinR sep l,()) else S
def cmpR:I UInt8->I UInt8->U
 |[],[]=>0
 |[],_::_=>-1
 |_::_,[]=>1
 |a::r,b::s=>if a<b then -1 else if b<a then 1 else cmpR r s
def cloneO(xs:I U):O (I U×Y):=if xs.length*4<=140737488355328 then W (xs,()) else S
def insN(x:U):I U->I U
 |[]=>[x]
 |y::r=>if x<y then x::y::r else if x=y then y::r else y::insN x r
def labS(ws:I U):I U->I U->O (I U)
 |[],acc=>W acc
 |s::r,acc=>if 0<=s then(match ws[s.toNat]? with
  |some x=>if 0<=x/\x<=4294967295 then labS ws r (insN (if x % 4=0 then x else 0) acc) else S
  |none=>S) else S
def labJ(j:U->O (U×Z×Y)):F->U->I U->O (I U)
 |0,_,acc=>W acc
 |n+1,i,acc=>match j i with
  |some (x,b,_)=>if b=X then(if -9223372036854775808<=x/\x<=9223372036854775807 then labJ j n (i+1) (insN x acc) else S) else labJ j n (i+1) acc
  |none=>S
def labelOfO(may:I U->I U->I (I UInt8×U×Y)->O (U×Y))(jump:I U->I U->I (I UInt8×U×Y)->U->O (U×Z×Y))(ws ss:I U)(ys:I (I UInt8×U×Y)):O (I U×U×Y):=
 match may ws ss ys with
 |some (e,_)=>if e=0 then(if ws.length<=1000000/\ss.length<=1000000 then(match labS ws ss [] with
   |some a=>(match labJ (jump ws ss ys) ws.length 0 a with
    |some r=>W (r,0,())
    |none=>S)
   |none=>S) else S) else W ([],e,())
 |none=>S
abbrev StT:=U×U×U×U×U×Z×I (U×U×I UInt8×Y)×I UInt8×Y
abbrev LnT:=I UInt8×StT×Y
def st0(k:U)(s:I UInt8):StT:=(k,0,0,0,0,J,[],s,())
def linS(x:U):I (I UInt8×U×Y)->I LnT
 |[]=>[]
 |s::r=>if s.2.1=x then(s.1,st0 0 [],())::linS x r else linS x r
def linI(bs:U->O (U×Z×Y))(nm:U->O (I UInt8×Y))(line:U->O StT)(ys:I (I UInt8×U×Y))(n:F):F->U->I LnT->O (I LnT)
 |0,_,acc=>W acc
 |k+1,i,acc=>match bs (4*i) with
  |none=>S
  |some (_,b,_)=>match (if b=X then(match nm (4*i) with
    |some (s,_)=>W [(s,st0 0 [],())]
    |none=>S) else W []) with
   |none=>S
   |some l=>match (if i<n then(match line i with
     |some s=>W [([],s,())]
     |none=>S) else W []) with
    |none=>S
    |some m=>linI bs nm line ys n k (i+1) (acc++linS (4*i) ys++l++m)
def linX:I (I UInt8×U×Y)->I LnT
 |[]=>[]
 |s::r=>([],st0 10 s.1,())::linX r
def linesO(may:I U->I U->I (I UInt8×U×Y)->O (U×Y))(of:I U->I U->I (I UInt8×U×Y)->O (I U×U×Y))(bs:I U->U->O (U×Z×Y))(nm:U->O (I UInt8×Y))
  (line:I U->I U->I (I UInt8×U×Y)->U->O StT) (ws ss:I U) (ys:I (I UInt8×U×Y)):O (I LnT×U×Y):=
 match may ws ss ys with
 |none=>S
 |some (e,_)=>if e=0 then(match of ws ss ys with
   |none=>S
   |some (p,f,_)=>if f=0 then(if ws.length<=100000/\ys.length<=100000 then(match linI (bs p) nm (line ws ss ys) ys ws.length (ws.length+1) 0 [] with
     |none=>S
     |some l=>if(l++linX ys).length<=1000000 then W (l++linX ys,0,()) else S) else S) else W ([],f,())) else W ([],e,())
def underscoreO(_:I UInt8):O (Z×Y):=S
end L
end Rv
