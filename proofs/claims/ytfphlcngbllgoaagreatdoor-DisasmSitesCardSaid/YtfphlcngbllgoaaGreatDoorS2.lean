/- Texts put together. -/
import Derived.Test.YtfphlcngbllgoaaGreatDoorS1
import Derived.RowKit3
import Derived.Laws.OwnMore
import Derived.Laws.Cells
import Derived.Laws.Slices
import Derived.Laws.Strings
import Derived.Laws.StructEq
import Derived.WalkKit
import Derived.Lib.Strings
import Derived.Laws.Concat
set_option linter.all false
namespace Rv
open Go
inductive CD where
 |int (k:IntKind)|bool|str|sl (t:Ty)|row (e:TypeId) (t:Ty)|ptr (i off:Nat)|raw (v:Value)|err|ifo (t:TypeId) (k:IntKind)|any|fn|pp (t:Ty)|clr (i:Nat) (fs:List FuncId)|slc (t:Ty)
@[reducible] def CD.T:CD->Type
 | .int _=>Int
 | .bool=>Bool
 | .str=>Str
 | .sl t=>List t.D
 | .row _ t=>List t.D
 | .err=>Bool
 | .ifo _ _=>Option Int
 | .fn=>Fn
 | .pp t=>t.D
 | .slc t=>List t.D
 |_=>Unit
inductive SD where
 |c (x:CD)
 |agg (l:List CD)
 |clo (f:FuncId) (l:List CD)
def SD.cds:SD->List CD
 | .c x=>[x]
 | .agg l=>l
 | .clo _ l=>l
@[reducible] def TL:List CD->Type
 |[]=>Unit
 |c::r=>c.T×TL r
structure Shape where
 slots:List (Nat×SD)
 boxes:List (Option Nat×List CD)
def Shape.all(sh:Shape):List CD:=(sh.slots.flatMap fun p=>p.2.cds)++sh.boxes.flatMap (·.2)
@[reducible] def Shape.T (sh:Shape):Type:=TL sh.all
abbrev Nm:=Nat->Nat×Nat
def CD.mk(nm:Nm):(c:CD)->c.T->Nat->Cell×List (Nat×En)×Nat
 | .int k,n,m=>(.int k n,[],m)
 | .bool,b,m=>(.bool b,[],m)
 | .str,s,m=>(.str s,[],m)
 | .sl t,xs,m=>(.sl none t xs,[],m)
 | .row e t,xs,m=>(.own (nm m).1 (nm m).2,[((nm m).1,⟨(nm m).2,0,.row e t xs⟩)],m+1)
 | .ptr i off,_,m=>(.ptr (nm i).1 (nm i).2 off,[],m)
 | .raw v,_,m=>(.raw v,[],m)
 | .err,b,m=>(.err b,[],m)
 | .ifo t k,o,m=>(.ifo t k o,[],m)
 | .any,_,m=>(.dead,[],m)
 | .fn,x,m=>(.fn x,[],m)
 | .pp t,x,m=>(.slp none t [x] 0 0,[],m)
 | .clr i fs,_,m=>(.clr (nm i).1 (nm i).2 fs,[],m)
 | .slc t,xs,m=>(.slc none t xs,[],m)
def mkL(nm:Nm):(l:List CD)->TL l->Nat->List Cell×List (Nat×En)×Nat
 |[],_,m=>([],[],m)
 |c::r,x,m=>
  let a:=c.mk nm x.1 m
  let b:=mkL nm r x.2 a.2.2
  (a.1::b.1,a.2.1++b.2.1,b.2.2)
def aA(l:List V):List (Nat×SD)->List Cell->List V×List Cell
 |[],cs=>(l,cs)
 |(i,.c _)::r,cs=>aA (l.set i (.v (.c (cs.headD .dead)))) r cs.tail
 |(i,.agg ds)::r,cs=>aA (l.set i (.v (.agg (cs.take ds.length)))) r (cs.drop ds.length)
 |(i,.clo f ds)::r,cs=>aA (l.set i (.clo f (cs.take ds.length))) r (cs.drop ds.length)
def aW(nm:Nm):Nat->List (Option Nat×List CD)->List Cell->List (Nat×En)
 |_,[],_=>[]
 |i,(_,ds)::r,cs=>((nm i).1,⟨(nm i).2,0,.cells (cs.take ds.length)⟩)::aW nm (i+1) r (cs.drop ds.length)
structure Mk where
 s:List V
 bs:List (Nat×En)
 rs:List (Nat×En)
def Shape.mkAll(sh:Shape)(nm:Nm)(N:Nat)(x:sh.T):Mk:=
 let a:=mkL nm sh.all x sh.boxes.length
 let b:=aA (List.replicate N V.dead) sh.slots a.1
 ⟨b.1,aW nm 0 sh.boxes b.2,a.2.1⟩
def nmJ:Nm:=fun i=>(16*i+15,0)
def Shape.mk'(sh:Shape)(nm:Nm)(N:Nat)(x:sh.T):St:=
 let m:=sh.mkAll nm N x
 ⟨m.s,Heap.ofList (m.bs++m.rs)⟩
def zB:Value->Value->Bool
 | .nilIface,.nilIface=>true
 | .pointer none,.pointer none=>true
 | .nilFunc,.nilFunc=>true
 | .func (.func f) a b,.func (.func g) c d=>f == g&&a.isEmpty&&b.isEmpty&&c.isEmpty&&d.isEmpty
 |_,_=>false
structure Met where
 rows:List (Option Nat)
 deps:List Nat
def iW(t t':Ty)(xs:List t.D):Option (List t'.D):=if h:t=t' then some (h ▸ xs) else none
def Dc(h:Heap)(t:Ty):Box->Option (List t.D)
 | .row _ t' xs=>iW t' t xs
 | .pub t' xs=>iW t' t xs
 |_=>none
def CD.abs(h:Heap)(bm:List Nat):(c:CD)->Cell->Option (c.T×Met)
 | .int k,.int j n=>if j=k then some (n,⟨[],[]⟩) else none
 | .bool,.bool b=>some (b,⟨[],[]⟩)
 | .str,.str s=>some (s,⟨[],[]⟩)
 | .sl _,.nilS=>some ([],⟨[],[]⟩)
 | .sl t,.sl d t' xs=>if h.depOk d then match iW t' t xs with
  |some ys=>some (ys,⟨[],(d.map (·.1)).toList⟩)
  |none=>none
  else none
 | .sl t,.own k v=>match h.at k v with
  |some b=>match Dc h t b with
   |some ys=>some (ys,⟨[],[k]⟩)
   |none=>none
  |none=>none
 | .sl t,.ownP k v n=>match h.at k v with
  |some b=>match Dc h t b with
   |some ys=>some (ys.take n,⟨[],[k]⟩)
   |none=>none
  |none=>none
 | .row _ _,.nilS=>some ([],⟨[none],[]⟩)
 | .row e t,.own k v=>match h.at k v with
  |some (.row e' t' xs)=>if e'=e then match iW t' t xs with
   |some ys=>some (ys,⟨[some k],[]⟩)
   |none=>none
   else none
  |_=>none
 | .row e t,.ownP k v n=>match h.at k v with
  |some (.row e' t' xs)=>if e'=e then match iW t' t xs with
   |some ys=>some (ys.take n,⟨[some k],[]⟩)
   |none=>none
   else none
  |_=>none
 | .ptr i off,.ptr k v o=>if bm[i]?=some k then(if off=o then(match h.at k v with
  |some (.cells _)=>some ((),⟨[],[]⟩)
  |_=>none) else none) else none
 | .raw v,.raw u=>if zB v u then some ((),⟨[],[]⟩) else none
 | .err,.err b=>some (b,⟨[],[]⟩)
 | .err,.raw u=>if zB u .nilIface then some (true,⟨[],[]⟩) else none
 | .err,.ifo _ _ o=>some (o.isNone,⟨[],[]⟩)
 | .ifo t k,.ifo t' k' o=>if t'=t/\k'=k then some (o,⟨[],[]⟩) else none
 | .ifo _ _,.raw u=>if zB u .nilIface then some (none,⟨[],[]⟩) else none
 | .fn,.fn x=>some (x,⟨[],[]⟩)
 | .pp t,.slp none t' xs i off=>if off=0 then match iW t' t xs with
  |some ys=>match ys[i]? with
   |some y=>some (y,⟨[],[]⟩)
   |none=>none
  |none=>none
  else none
 | .pp t,.ptr k v off=>match h.at k v with
  |some (.cells l)=>if off+t.size<=l.length then match t.ofCells ((l.drop off).take t.size) with
   |some y=>some (y,⟨[],[k]⟩)
   |none=>none
   else none
  |_=>none
 | .clr i fs,.clr k v gs=>if bm[i]?=some k then(if fs=gs then(match h.at k v with
  |some (.cells _)=>some ((),⟨[],[]⟩)
  |_=>none) else none) else none
 | .slc t,.slc d t' xs=>if h.depOk d then match iW t' t xs with
  |some ys=>some (ys,⟨[],(d.map (·.1)).toList⟩)
  |none=>none
  else none
 | .sl t,.slc d t' xs=>if h.depOk d then match iW t' t xs with
  |some ys=>some (ys,⟨[],(d.map (·.1)).toList⟩)
  |none=>none
  else none
 | .any,_=>some ((),⟨[],[]⟩)
 |_,_=>none
def fK(h:Heap)(bm:List Nat):(l:List CD)->List Cell->Option (TL l×Met)
 |[],[]=>some ((),⟨[],[]⟩)
 |c::r,x::xs=>match c.abs h bm x with
  |some (y,m)=>match fK h bm r xs with
   |some (ys,m')=>some ((y,ys),⟨m.rows++m'.rows,m.deps++m'.deps⟩)
   |none=>none
  |none=>none
 |_,_=>none
def dL(l:List V):List (Nat×SD)->Option (List Cell)
 |[]=>some []
 |(i,.c _)::r=>match l[i]? with
  |some (.v (.c x))=>match dL l r with
   |some cs=>some (x::cs)
   |none=>none
  |_=>none
 |(i,.agg ds)::r=>match l[i]? with
  |some (.v (.agg xs))=>if xs.length=ds.length then match dL l r with
   |some cs=>some (xs++cs)
   |none=>none
   else none
  |_=>none
 |(i,.clo f ds)::r=>match l[i]? with
  |some (.clo f' xs)=>if f'=f/\xs.length=ds.length then match dL l r with
   |some cs=>some (xs++cs)
   |none=>none
   else none
  |_=>none
def bD(h:Heap):List (Option Nat×List CD)->List Cell->List Nat->Option (List Cell×List Nat)
 |[],cs,bm=>some (cs,bm)
 |(none,ds)::r,cs,bm=>match h.at (nmJ bm.length).1 0 with
  |some (.cells l)=>if l.length=ds.length then bD h r (cs++l) (bm++[(nmJ bm.length).1]) else none
  |_=>none
 |(some p,ds)::r,cs,bm=>match cs[p]? with
  |some (.ptr k v _)=>match h.at k v with
   |some (.cells l)=>if l.length=ds.length then bD h r (cs++l) (bm++[k]) else none
   |_=>none
  |_=>none
structure Abs (α:Type) where
 x:α
 bm:List Nat
 m:Met
def nodupB:List Nat->Bool
 |[]=>true
 |a::r=>!(r.contains a)&&nodupB r
def Shape.abs(sh:Shape)(st:St):Option (Abs sh.T):=
 match dL st.s sh.slots with
 |some cs=>match bD st.h sh.boxes cs [] with
  |some (all,bm)=>match fK st.h bm sh.all all with
   |some (x,m)=>if nodupB (bm++m.rows.filterMap id)&&m.deps.all (fun d=>!((bm++m.rows.filterMap id).contains d)) then some ⟨x,bm,m⟩ else none
   |none=>none
  |none=>none
 |none=>none
def Abs.keys{α:Type}(a:Abs α):List Nat:=a.bm++a.m.rows.filterMap id
def Shape.pins(sh:Shape)(n:Nat):Bool:=decide (n<=sh.boxes.length)&&(sh.boxes.take n).all fun p=>p.1.isNone
structure Spec where
 a:Shape
 r:Shape
 f:a.T->Option r.T
structure JH (R:Type) where
 sh:Shape
 j:List Nat->sh.T->Option R
structure LH (R:Type) where
 sh:Shape
 l:List Nat->Nat->sh.T->Option R
structure Env (R:Type) where
 te:TypeId->Option TI
 spec:FuncId->List FuncId->Option Spec
 join:Nat->Option (JH R)
 loop:Nat->Option (LH R)
 lab:Nat->Option (LH R)
 n:Nat
 N:Nat
 nl:Nat:=0
 maps:Nat->TypeId->Option (Cell->Option (Cell×Bool)):=fun _ _=>none
 fns:List Fn:=[]
def Ty.hasSl:Ty->Bool
 | .sl _=>true
 | .fn=>true
 | .pair a b=>a.hasSl||b.hasSl
 |_=>false
def CD.shares:CD->Bool
 | .sl _=>true
 | .fn=>true
 | .pp _=>true
 | .clr _ _=>true
 | .slc _=>true
 | .row _ t=>t.hasSl
 |_=>false
def V.toV1:V->V1
 | .v x=>x
 |_=>.c .dead
def cu(h:Heap)(deps:List Nat):List (Nat×En):=
 deps.filterMap fun k=>match h k with
  |some ⟨v,dv,.row _ t xs⟩=>some (k,(⟨v,dv,.pub t xs⟩:En))
  |_=>none
def O3:List V->V
 |[v]=>v
 |l=>.tup (l.map V.toV1)
def nmP(h:Heap)(d:Nat):Nm:=fun i=>(16*d+i,h.next (16*d+i))
def nmI(h:Heap)(d:Nat)(bm:List Nat):Nm:=fun i=>
 match bm[i]? with
 |some k=>(k,match h k with|some e=>e.ver|none=>0)
 |none=>nmP h d i
def nN(h:Heap)(ks:List Nat):List (Nat×En):=ks.filterMap fun k=>(h k).map fun e=>(k,e)
def iH(h:Heap)(ks:List Nat):List (Nat×En):=ks.map fun k=>(k,⟨h.next k,0,.gone⟩)
def iQ(st:St)(d:Nat)(sp:Spec)(a:Abs sp.a.T)(y:sp.r.T):Dl:=
 let m:=sp.r.mkAll (nmI st.h d a.bm) sp.r.slots.length y
 ⟨O3 m.s,[],(if a.keys.isEmpty then[] else nN st.h a.m.deps)++((if sp.r.all.any CD.shares then cu st.h a.m.deps else[])++(iH st.h (a.m.rows.filterMap id)++(m.bs++m.rs)))⟩
def CD.isRow:CD->Bool
 | .row _ _=>true
 |_=>false
def CD.ptrB(n:Nat):CD->Bool
 | .ptr i _=>decide (i<n)
 | .clr i _=>decide (i<n)
 |_=>true
def CD.boxN:CD->Option Nat
 | .ptr i _=>some i
 | .clr i _=>some i
 |_=>none
theorem CD.ptrB_lt{n i:Nat}{c:CD}(hc:c.boxN=some i)(hp:c.ptrB n=true):i<n:=by
 cases c<;>simp only[CD.boxN,Uw,reduceCtorEq] at hc<;>subst hc<;>simpa[CD.ptrB] using hp
def SD.isV:SD->Bool
 | .clo _ _=>false
 |_=>true
def Shape.okRes(r:Shape)(nb:Nat):Bool:=decide (r.boxes.length=nb)&&r.pins nb&&decide (r.slots.map (·.1)=List.range r.slots.length)&&r.all.all (CD.ptrB nb)&&r.slots.all fun p=>p.2.isV
def qo(h:Heap)(k:Nat):Bool:=
 match h k with
 |some e=>decide (e.dver=0)
 |none=>false
def aX(d:Nat)(r:Shape):List Nat:=(List.range (r.all.filter CD.isRow).length).map fun j=>16*d+(r.boxes.length+j)
def oP(h:Heap)(k:Nat):Bool:=
 match h k with
 |some ⟨_,_,.cells _⟩=>false
 |_=>true
def qf(h:Heap)(d:Nat)(sp:Spec)(a:Abs sp.a.T)(n:Nat):Bool:=
 decide (n=sp.a.slots.length)&&sp.r.okRes sp.a.boxes.length&&a.bm.all (qo h)&&((aX d sp.r).all fun k=>!a.keys.contains k)&&(!(sp.r.all.any CD.shares)||a.m.deps.all (oP h))
def iV(st:St):List Operand->Option (List V1)
 |[]=>some []
 |x::r=>match opd st x with
  |some v=>match iV st r with
   |some l=>some (v::l)
   |none=>none
  |none=>none
def ja(st:St):List Operand->Option (List V)
 |[]=>some []
 |x::r=>match opdV st x with
  |some v=>match ja st r with
   |some l=>some (v::l)
   |none=>none
  |none=>none
def V.cloId:V->Option FuncId
 | .clo f _=>some f
 |_=>none
def kW:List V1->Option (List Cell)
 |[]=>some []
 | .c x::r=>match kW r with
  |some l=>some (x::l)
  |none=>none
 | .agg _::_=>none
def jW(st:St):Operand->Option (FuncId×List Cell)
 | .func f=>some (f,[])
 | .tmp t=>match st.s[t]? with
  |some (.clo f cs)=>if f<gJ then some (f,cs) else none
  |some (.v (.c (.raw (.func (.func f) a b))))=>if a.isEmpty&&b.isEmpty then some (f,[]) else none
  |_=>none
 |_=>none
def kU(st:St):Operand->Option (FuncId×List Cell)
 | .tmp t=>match st.s[t]? with
  |some (.clo f cs)=>if f<gJ then none else some (f-gJ,cs)
  |_=>none
 |_=>none
def Ak(st:St):Operand->Option Fn
 | .tmp t=>match st.s[t]? with
  |some (.v (.c (.fn x)))=>some x
  |_=>none
 |_=>none
variable{R:Type}
def one(K:V->Option R):V1->Option R:=fun x=>K (.v x)
def au{α:Type}(x:Option α)(K:α->Option R):Option R:=
 match x with
 |some a=>K a
 |none=>none
def gK(n:Nat)(lo hi mx:Option V1)(K:Nat->Nat->Option R):Option R:=
 let top:(Int->Option R)->Option R:=fun C=>match mx with
  |none=>C n
  |some (.c (.int _ m))=>if 0<=m/\m<=(n:Int) then C m else none
  |some _=>none
 top fun m=>
 let high:(Int->Option R)->Option R:=fun C=>match hi,mx with
  |none,none=>C n
  |some (.c (.int _ h)),_=>if 0<=h/\h<=m then C h else none
  |_,_=>none
 high fun h=>
 match lo with
 |none=>K 0 h.toNat
 |some (.c (.int _ l))=>if 0<=l/\l<=h then K l.toNat h.toNat else none
 |some _=>none
def kP(st:St):Option Operand->Option (Option V1)
 |none=>some none
 |some x=>match opd st x with
  |some v=>some (some v)
  |none=>none
def gZ(place:Nat->Option (Nat×Nat))(cells:List Cell):List (Nat×V1)->Option (List Cell)
 |[]=>some cells
 |(i,v)::r=>match place i with
  |none=>none
  |some (off,size)=>if v.cells.length=size/\off+size<=cells.length then gZ place (cells.take off++v.cells++cells.drop (off+size)) r else none
def partsOf(st:St):List (Nat×Operand)->Option (List (Nat×V1))
 |[]=>some []
 |(i,x)::r=>match opd st x with
  |some v=>match partsOf st r with
   |some l=>some ((i,v)::l)
   |none=>none
  |none=>none
def gM(st:St):List (Nat×Operand)->Option (Nat×Nat×List FuncId)
 |[]=>none
 |[(_,x)]=>match opdV st x with
  |some (.clo f [.ptr k v 0])=>some (k,v,[f])
  |_=>none
 |(_,x)::r=>match opdV st x with
  |some (.clo f [.ptr k v 0])=>match gM st r with
   |some (k',v',fs)=>if k'=k/\v'=v then some (k,v,f::fs) else none
   |none=>none
  |_=>none
def dW(te:TypeId->Option TI)(st:St)(t:TypeId)(x:V1)(K:V1->Option R):Option R:=
 match x,te t with
 | .c (.ptr k v off),some ti=>match st.h.at k v with
  |some (.cells l)=>if off+ti.size<=l.length then au (mkV ti.agg ((l.drop off).take ti.size)) K else none
  |_=>none
 | .c (.elt k v i off),some ti=>match st.h.at k v with
  |some (.row _ t xs)=>if off+ti.size<=t.size then au (mkV ti.agg (((t.cells none (xs.getD i t.dflt)).drop off).take ti.size)) K else none
  |some (.pub t xs)=>if off+ti.size<=t.size then au (mkV ti.agg (((t.cells none (xs.getD i t.dflt)).drop off).take ti.size)) K else none
  |_=>none
 | .c (.pel k v base n i),some ti=>match st.h.at k v with
  |some (.cells l)=>if base+n<=l.length/\ti.size=1/\ti.agg=false then au (Db ((l.drop base).take n) i) fun c=>K (.c c) else none
  |_=>none
 | .c (.slp d t xs i off),some ti=>if st.h.depOk d then(if off+ti.size<=t.size then au (mkV ti.agg (((t.cells none (xs.getD i t.dflt)).drop off).take ti.size)) K else none) else none
 |_,_=>none
def kK(te:TypeId->Option TI)(st:St)(t:TypeId)(v:V1)(K:V->Option R):Option R:=
 match v with
 | .c (.cle k kv f)=>match te t,st.h.at k kv with
  |some ti,some (.cells _)=>if ti.size=1/\ti.agg=false/\f<gJ then K (.clo f [.ptr k kv 0]) else none
  |_,_=>none
 |v=>dW te st t v (one K)
def fC(te:TypeId->Option TI)(t:TypeId):Option Nat:=
 match (te t).bind (·.elem) with
 |some e=>match te e with
  |some ti=>some ti.size
  |none=>none
 |none=>none
def isStr(te:TypeId->Option TI)(t:TypeId):Bool:=
 match te t with
 |some ti=>ti.str
 |none=>false
def isBool(te:TypeId->Option TI)(t:TypeId):Bool:=
 match te t with
 |some ti=>match ti.ty with
  |some .bool=>true
  |_=>false
 |none=>false
def isIface(te:TypeId->Option TI)(t:TypeId):Bool:=
 match te t with
 |some ti=>ti.iface
 |none=>false
def qg(te:TypeId->Option TI)(t:TypeId):Option IntKind:=
 match te t with
 |some ti=>if ti.cmp=true then ti.int else none
 |none=>none
def oK(te:TypeId->Option TI)(t:TypeId)(y:Operand):Bool:=
 (match te t with|some ti=>ti.iface|none=>false)&&(match y with | .const _=>true|_=>false)
def IZ(te:TypeId->Option TI)(t:TypeId):Option Ty:=
 match te t with
 |some ti=>ti.eq
 |none=>none
def AY(te:TypeId->Option TI)(src dst:TypeId):Bool:=
 isStr te dst&&(match (te src).bind (·.elem) with
  |some e=>match te e with
   |some ti=>match ti.int with
    |some .u8=>true
    |_=>false
   |none=>false
  |none=>false)
def ui(te:TypeId->Option TI)(src dst:TypeId):Bool:=
 isStr te src&&(match (te dst).bind (·.elem) with
  |some e=>match te e with
   |some ti=>match ti.int with
    |some .u8=>true
    |_=>false
   |none=>false
  |none=>false)
def rowLen(h:Heap)(k v:Nat):Option (Ty×Nat):=
 match h.at k v with
 |some (.row _ t xs)=>some (t,xs.length)
 |some (.pub t xs)=>some (t,xs.length)
 |_=>none
def qa(te:TypeId->Option TI)(t:TypeId):Option Nat:=
 match te t with
 |some ti=>match ti.arr with
  |some n=>if ti.size=n then some n else none
  |none=>none
 |none=>none
def yM(te:TypeId->Option TI)(t:TypeId):Option (Nat×Nat):=
 match te t with
 |some ti=>match ti.arr with
  |some n=>some (n,ti.size / n)
  |none=>none
 |none=>none
def r9(i:Int)(K:Nat->Option R):Nat->Nat->Option R
 |_,0=>none
 |j,n+1=>if i=(j:Int) then K j else r9 i K (j+1) n
theorem si{i:Int}{K:Nat->Option R}{r:R}:∀{n j:Nat},r9 i K j n=some r->∃m,j<=m/\m<j+n/\i=(m:Int)/\K m=some r/\∀K':Nat->Option R,r9 i K' j n=K' m
 |0,_,h=>by cases h
 |n+1,j,h=>by
  rw[r9] at h;by_cases e:i=(j:Int)
  ·rw[if_pos e] at h;exact⟨j,Uz _,by omega,e,h,fun K'=>by rw[r9,if_pos e]⟩
  ·rw[if_neg e] at h;obtain⟨m,h1,h2,h3,h4,h5⟩:=si h;exact⟨m,by omega,by omega,h3,h4,fun K'=>by rw[r9,if_neg e,h5 K']⟩
def rZ(i:Int)(K:FuncId->Option R):Nat->List FuncId->Option R
 |_,[]=>none
 |j,f::fs=>if i=(j:Int) then K f else rZ i K (j+1) fs
theorem uW{i:Int}{K:FuncId->Option R}{r:R}:∀{fs:List FuncId}{j:Nat},rZ i K j fs=some r->∃m f,fs[m]?=some f/\i=((j+m:Nat):Int)/\K f=some r/\∀K':FuncId->Option R,rZ i K' j fs=K' f
 |[],_,h=>by cases h
 |f::fs,j,h=>by
  rw[rZ] at h;by_cases e:i=(j:Int)
  ·rw[if_pos e] at h;exact⟨0,f,rfl,by omega,h,fun K'=>by rw[rZ,if_pos e]⟩
  ·rw[if_neg e] at h;obtain⟨m,g,h1,h2,h3,h4⟩:=uW h;exact⟨m+1,g,h1,by omega,h3,fun K'=>by rw[rZ,if_neg e,h4 K']⟩
def aV(st:St)(es ar:Option Nat)(el:Option (Nat×Nat))(x i:V1)(K:V1->Option R):Option R:=
 match x,i with
 | .c (.sl d t xs),.c (.int _ i)=>if st.h.depOk d then(if es=some t.size then(if 0<=i/\i<(xs.length:Int) then K (.c (.slp d t xs i.toNat 0)) else none) else none) else none
 | .c (.own k v),.c (.int _ i)=>match rowLen st.h k v with
  |some (t,n)=>if es=some t.size then(if 0<=i/\i<(n:Int) then K (.c (.elt k v i.toNat 0)) else none) else none
  |none=>none
 | .c (.ownP k v n),.c (.int _ i)=>match rowLen st.h k v with
  |some (t,_)=>if es=some t.size then(if 0<=i/\i<(n:Int) then K (.c (.elt k v i.toNat 0)) else none) else none
  |none=>none
 | .c (.clr k v fs),.c (.int _ i)=>if es=some 1 then(match st.h.at k v with
  |some (.cells _)=>rZ i (fun f=>K (.c (.cle k v f))) 0 fs
  |_=>none) else none
 | .c (.ptr k v off),.c (.int _ i)=>match ar,st.h.at k v with
  |some n,some (.cells _)=>if 0<=i/\i<(n:Int) then K (.c (.pel k v off n i.toNat)) else none
  |none,some (.cells _)=>match el with
   |some (n,s)=>r9 i (fun j=>K (.c (.ptr k v (off+j*s)))) 0 n
   |none=>none
  |_,_=>none
 |_,_=>none
def mg(str:Bool)(ar:Option Nat)(x i:V1)(K:V1->Option R):Option R:=
 match x,i with
 | .c (.str s),.c (.int _ i)=>if str=true then(if 0<=i/\i<(s.length:Int) then K (.c (.int .u8 (bt s i))) else none) else none
 | .agg cs,.c (.int _ i)=>match ar with
  |some n=>if cs.length=n then(if 0<=i/\i<(n:Int) then au (Db cs i.toNat) fun c=>K (.c c) else none) else none
  |none=>none
 |_,_=>none
def aZ(st:St)(str:Bool)(es:Option Nat)(x:V1)(lo hi mx:Option V1)(K:V1->Option R):Option R:=
 match x with
 | .c (.str s)=>match mx with
  |none=>if str=true then gK s.length lo hi none fun l h=>K (.c (.str ((s.take h).drop l))) else none
  |some _=>none
 | .c .nilS=>if es.isSome then gK 0 lo hi mx fun _ _=>K (.c .nilS) else none
 | .c (.own k v)=>match rowLen st.h k v with
  |some (t,n)=>if es=some t.size then match lo,mx with
   |none,none=>gK n none hi none fun _ h=>K (.c (.ownP k v h))
   |_,_=>au (rowOf st.h (.own k v)) fun r=>gK n lo hi mx fun l h=>K (.c (.sl (fI st.h (.own k v)) r.1 ((r.2.take h).drop l)))
   else none
  |none=>none
 | .c (.ownP k v n)=>match rowLen st.h k v with
  |some (t,_)=>if es=some t.size then match lo,mx with
   |none,none=>gK n none hi none fun _ h=>K (.c (.ownP k v h))
   |_,_=>au (rowOf st.h (.ownP k v n)) fun r=>gK n lo hi mx fun l h=>K (.c (.sl (fI st.h (.ownP k v n)) r.1 ((r.2.take h).drop l)))
   else none
  |none=>none
 | .c (.sl d t xs)=>if st.h.depOk d then(if es=some t.size then gK xs.length lo hi mx fun l h=>K (.c (.sl d t ((xs.take h).drop l))) else none) else none
 |_=>none
def iL(st:St)(str:Bool)(es:Option Nat)(x:V1)(lo hi mx:Option V1)(K:V1->Option R):Option R:=
 match x,lo,hi,mx with
 | .c c,none,some (.c (.int _ a)),some (.c (.int _ b))=>match rowOf st.h c with
  |some r=>if es=some r.1.size/\a=(r.2.length:Int)/\b=(r.2.length:Int) then K (.c (.slc (fI st.h c) r.1 r.2)) else none
  |none=>aZ st str es x lo hi mx K
 |_,_,_,_=>aZ st str es x lo hi mx K
def gU(st:St)(str:Bool)(es:Option Nat)(x:V1)(K:Nat->Option R):Option R:=
 match x with
 | .c (.str s)=>if str=true then K s.length else none
 | .c (.sl d _ xs)=>if st.h.depOk d then(if es.isSome then K xs.length else none) else none
 | .c .nilS=>if es.isSome then K 0 else none
 | .c (.slc d _ xs)=>if st.h.depOk d then(if es.isSome then K xs.length else none) else none
 | .c (.clr k v fs)=>match st.h.at k v with
  |some (.cells _)=>if es.isSome then K fs.length else none
  |_=>none
 | .c (.own k v)=>match rowLen st.h k v with
  |some (_,n)=>if es.isSome then K n else none
  |none=>none
 | .c (.ownP k v n)=>match rowLen st.h k v with
  |some _=>if es.isSome then K n else none
  |none=>none
 |_=>none
def jq(f:Int->Int->Int)(k:IntKind)(acc:Int):List V1->Option Int
 |[]=>some acc
 | .c (.int k' n)::r=>if k=k' then jq f k (f acc n) r else none
 |_::_=>none
def mq(h:Heap):V->Bool
 | .v (.c (.ptr k v _))=>match h.at k v with
  |some (.cells _)=>true
  |_=>false
 | .v (.c (.elt k v _ _))=>(rowLen h k v).isSome
 | .v (.c (.slp d _ _ _ _))=>h.depOk d
 | .clo _ _=>true
 |_=>false
def vop(te:TypeId->Option TI)(st:St)(op:Op)(K:V->Option R):Option R:=
 match op with
 | .move x | .assign x=>au (opdV st x) K
 | .pick c a b=>match opd st c with
  |some (.c (.bool t))=>if t=true then au (opd st a) (one K) else au (opd st b) (one K)
  |_=>none
 | .build t parts=>match te t,partsOf st parts.toList with
  |some ti,some ps=>match ti.arr with
   |some n=>au (gZ (fun i=>some (i*(ti.size / n),ti.size / n)) ti.zero ps) fun cs=>K (.v (.agg cs))
   |none=>if ti.fields.isEmpty then none else au (gZ (fun i=>ti.fields[i]?.map fun f=>(f.1,f.2.1)) ti.zero ps) fun cs=>K (.v (.agg cs))
  |_,_=>none
 | .load t x=>au (opd st x) fun v=>kK te st t v K
 | .fieldAddr t x f=>match opd st x,(te t).bind (·.fields[f]?) with
  |some (.c (.ptr k v off)),some fd=>match st.h.at k v with
   |some (.cells _)=>K (.v (.c (.ptr k v (off+fd.1))))
   |_=>none
  |some (.c (.elt k v i off)),some fd=>match rowLen st.h k v with
   |some _=>K (.v (.c (.elt k v i (off+fd.1))))
   |none=>none
  |some (.c (.slp d t xs i off)),some fd=>if st.h.depOk d then K (.v (.c (.slp d t xs i (off+fd.1)))) else none
  |_,_=>none
 | .field t x f=>match opd st x,(te t).bind (·.fields[f]?) with
  |some (.agg cs),some fd=>if fd.1+fd.2.1<=cs.length then au (mkV fd.2.2 ((cs.drop fd.1).take fd.2.1)) (one K) else none
  |_,_=>none
 | .indexAddr t x i=>au (opd st x) fun x=>au (opd st i) fun i=>aV st (fC te t) (qa te t) (yM te t) x i (one K)
 | .index t x i=>au (opd st x) fun x=>au (opd st i) fun i=>mg (isStr te t) (qa te t) x i (one K)
 | .slice t x lo hi mx=>au (opd st x) fun x=>au (kP st lo) fun lo=>au (kP st hi) fun hi=>au (kP st mx) fun mx=>iL st (isStr te t) (fC te t) x lo hi mx (one K)
 | .binOp op t x y _=>au (opd st x) fun x'=>au (opd st y) fun y'=>jI (isBool te t) (oK te t y) (isIface te t) (qg te) (IZ te t) op x' y' (one K)
 | .unOp op _ x=>au (opd st x) fun x=>unK op x (one K)
 | .convert src dst x=>match opd st x,te dst with
  |some (.c (.int _ n)),some ti=>match ti.int with
   |some k=>if(te src).isSome then K (.v (.c (.int k (k.wrap n)))) else none
   |none=>none
  |_,_=>none
 | .makeInterface t x=>match te t with
  |some ti=>if ti.iface=true then none else match (match x with | .tmp s=>st.s[s]? | x=>(opd st x).map .v) with
   |some (.v (.c (.int k n)))=>K (.v (.c (.ifo t k (some n))))
   |some (.v _)=>K (.v (.c (.err false)))
   |_=>none
  |none=>none
 | .makeFunc (.func f) first captured=>if f<gJ then(if first.isEmpty=true then au (iV st captured.toList) fun vs=>au (kW vs) fun cs=>K (.clo f cs)
   else if captured.isEmpty=true then au (iV st first.toList) fun vs=>au (kW vs) fun cs=>K (.clo (f+gJ) cs) else none) else none
 | .nilCheck x=>au (opdV st x) fun v=>if mq st.h v=true then K v else none
 | .extract x i=>match x with
  | .tmp t=>match st.s[t]? with
   |some (.tup vs)=>au vs[i]? (one K)
   |_=>none
  |_=>none
 | .call { callee:=.builtin .len,args,argTypes }=>match args.toList,argTypes.toList with
  |[x],[t]=>au (opd st x) fun x=>gU st (isStr te t) (fC te t) x fun n=>K (.v (.c (.int .i64 n)))
  |_,_=>none
 | .call { callee:=.builtin .min,args,.. }=>match iV st args.toList with
  |some (.c (.int k n)::r)=>au (jq mn k n r) fun n=>K (.v (.c (.int k n)))
  |_=>none
 | .call { callee:=.builtin .max,args,.. }=>match iV st args.toList with
  |some (.c (.int k n)::r)=>au (jq mx k n r) fun n=>K (.v (.c (.int k n)))
  |_=>none
 |_=>none
def dk(d:Option Nat):Nat:=16*d.getD 0
def V.keys:V->List Nat
 | .v x=>x.keys
 | .clo _ cs=>cs.flatMap Cell.keys
 |_=>[]
def dn(st:St)(l:List Operand):List Nat:=
 l.flatMap fun x=>match opdV st x with
  |some v=>v.keys
  |none=>[]
def wE(k:IntKind)(ns:List Int)(n i:Nat)(x:Int):List Cell:=(List.range n).map fun j=>.int k ((ns.set i x).getD j 0)
def fG(te:TypeId->Option TI)(st:St)(t:TypeId)(x v:V1)(K:List (Nat×En)->Option R):Option R:=
 match x,te t with
 | .c (.ptr k kv off),some ti=>match st.h k with
  |some ⟨ver,dver,.cells l⟩=>if ver=kv then(if off+ti.size<=l.length/\v.cells.length=ti.size then K [(k,⟨ver,dver,.cells (l.take off++v.cells++l.drop (off+ti.size))⟩)] else none) else none
  |_=>none
 | .c (.pel k kv base n i),some ti=>match st.h k,v with
  |some ⟨ver,dver,.cells l⟩,.c (.int k0 y)=>if ver=kv then(if base+n<=l.length/\ti.size=1 then(match jO k0 ((l.drop base).take n) with
   |some ns=>K [(k,⟨ver,dver,.cells (l.take base++wE k0 ns n i y++l.drop (base+n))⟩)]
   |none=>none) else none) else none
  |_,_=>none
 | .c (.elt k kv i off),some ti=>match st.h k with
  |some ⟨ver,dver,.row e t xs⟩=>if ver=kv then(if off+ti.size<=t.size/\v.cells.length=ti.size then
    au (t.ofCells ((t.cells none (xs.getD i t.dflt)).take off++v.cells++(t.cells none (xs.getD i t.dflt)).drop (off+ti.size))) fun y=>
     K [(k,⟨ver,dver+1,.row e t (xs.set i y)⟩)]
   else none) else none
  |_=>none
 |_,_=>none
def nA(t:Ty)(acc:List t.D):List (Nat×V1)->Option (List t.D)
 |[]=>some acc
 |(i,v)::r=>match t.ofCells v.cells with
  |some x=>if i<acc.length then nA t (acc.set i x) r else none
  |none=>none
def kG(h:Heap)(e:TypeId)(t:Ty):V1->Option (List t.D×Option Nat)
 | .c .nilS=>some ([],none)
 | .c (.own k v)=>match h.at k v with
  |some (.row e' t' xs)=>if e'=e then(iW t' t xs).map (·,some k) else none
  |_=>none
 | .c (.ownP k v n)=>match h.at k v with
  |some (.row e' t' xs)=>if e'=e then(iW t' t xs).map fun xs=>(xs.take n,some k) else none
  |_=>none
 |_=>none
def kL(h:Heap)(t:Ty):V1->Option (List t.D)
 | .c .nilS=>some []
 | .c c=>match rowOf h c with
  |some r=>iW r.1 t r.2
  |none=>none
 |_=>none
def iN(te:TypeId->Option TI)(st:St)(d:Option Nat)(sT:TypeId)(s x:V1)(K:Dl->Option R):Option R:=
 match (te sT).bind (·.elem) with
 |none=>none
 |some e=>match te e with
  |none=>none
  |some ti=>match ti.ty with
   |none=>none
   |some t=>match kG st.h e t s,kL st.h t x with
    |some (xs,k),some ys=>
     if(xs.length+ys.length)*ti.bytes<=140737488355328/\0<ti.bytes/\0<ti.size then
      K ⟨.v (.c (.own (dk d) (st.h.next (dk d)))),s.keys++x.keys++[dk d],
       (match k with|some k=>[(k,(⟨st.h.next k,0,.gone⟩:En))]|none=>[])++[(dk d,⟨st.h.next (dk d),0,.row e t (xs++ys)⟩)]⟩
     else none
    |_,_=>none
def gI(te:TypeId->Option TI)(st:St)(d:Option Nat)(sT:TypeId)(s x:V1)(K:Dl->Option R):Option R:=
 match s with
 | .c (.slc dp t' xs')=>match (te sT).bind (·.elem) with
  |none=>none
  |some e=>match te e with
   |none=>none
   |some ti=>match ti.ty with
    |none=>none
    |some t=>match iW t' t xs',kL st.h t x with
     |some xs,some ys=>if st.h.depOk dp=true/\0<ys.length then
      (if(xs.length+ys.length)*ti.bytes<=140737488355328/\0<ti.bytes/\0<ti.size then
       K ⟨.v (.c (.own (dk d) (st.h.next (dk d)))),s.keys++x.keys++[dk d],[(dk d,⟨st.h.next (dk d),0,.row e t (xs++ys)⟩)]⟩
      else none) else none
     |_,_=>none
 |s=>iN te st d sT s x K
def qx(st:St)(d:Option Nat)(b:Box)(c:Nat->Nat->Cell):Dl:=
 ⟨.v (.c (c (dk d) (st.h.next (dk d)))),[dk d],[(dk d,⟨st.h.next (dk d),0,b⟩)]⟩
def gW(h:Heap):Cell->Cell
 | .own k v=>match h.at k v with
  |some (.row _ t xs)=>.sl none t xs
  |some (.pub t xs)=>.sl none t xs
  |_=>.own k v
 | .ownP k v n=>match h.at k v with
  |some (.row _ t xs)=>.sl none t (xs.take n)
  |some (.pub t xs)=>.sl none t (xs.take n)
  |_=>.ownP k v n
 |c=>c
def V1.pub(h:Heap):V1->V1
 | .c x=>.c (gW h x)
 | .agg cs=>.agg (cs.map (gW h))
def Cell.ownK:Cell->List Nat
 | .own k _=>[k]
 | .ownP k _ _=>[k]
 |_=>[]
def V1.ownKs(x:V1):List Nat:=x.cells.flatMap Cell.ownK
def iK(h:Heap)(l:List (Nat×En)):Heap:=l.foldl (fun h p=>h.set p.1 p.2) h
def dm(st:St)(ks:List Nat):St:=⟨st.s,iK st.h (cu st.h ks)⟩
def l6:V1->V1->List Nat
 | .c (.elt _ _ _ _),v=>v.ownKs
 |_,_=>[]
def qA(h:Heap):V1->V1->V1
 | .c (.elt _ _ _ _),v=>v.pub h
 |_,v=>v
def kH(E:Env R)(st:St)(d:Option Nat)(f:FuncId)(cs:List Cell)(vs:List V)(K:Dl->Option R):Option R:=
 match E.spec f (vs.filterMap V.cloId) with
 |some sp=>match sp.a.abs ⟨vs++cs.map (fun c=>V.v (.c c)),st.h⟩ with
  |some a=>if qf st.h (d.getD 0) sp a (vs.length+cs.length)=true then(sp.f a.x).bind fun y=>K (iQ st (d.getD 0) sp a y) else none
  |none=>none
 |none=>none
def bz(E:Env R)(st:St)(o:Oper)(K:Dl->Option R):Option R:=
 match o.op with
 | .alloc t=>match E.te t with
  |some ti=>K (qx st o.dst (.cells ti.zero) fun k v=>.ptr k v 0)
  |none=>none
 | .box _ x=>au (opd st x) fun v=>K ⟨.v (.c (.ptr (dk o.dst) (st.h.next (dk o.dst)) 0)),v.keys++[dk o.dst],[(dk o.dst,⟨st.h.next (dk o.dst),0,.cells v.cells⟩)]⟩
 | .buildSlice t n parts=>match (E.te t).bind (·.elem) with
  |none=>none
  |some e=>match E.te e,partsOf st parts.toList with
   |some ti,none=>match gM st parts.toList with
    |some (k,v,fs)=>match st.h.at k v with
     |some (.cells _)=>if ti.size=1/\ti.agg=false/\n=fs.length/\n<=1000/\parts.toList.map (·.1)=List.range n/\(fs.all fun f=>decide (f<gJ))=true then K ⟨.v (.c (.clr k v fs)),[k],[]⟩ else none
     |_=>none
    |none=>none
   |some ti,some ps=>match ti.ty with
    |some t=>match t.ofCells ti.zero with
     |some z=>if n*ti.size<=16777216/\0<ti.size then au (nA t (List.replicate n z) (ps.map fun p=>(p.1,p.2.pub st.h))) fun xs=>
       K ⟨.v (.c (.own (dk o.dst) (st.h.next (dk o.dst)))),[dk o.dst],cu st.h (ps.flatMap fun p=>p.2.ownKs)++[(dk o.dst,⟨st.h.next (dk o.dst),0,.row e t xs⟩)]⟩
      else none
     |none=>none
    |none=>none
   |_,_=>none
 | .store t x v=>match o.dst with
  |none=>au (opd st x) fun x=>au (opd st v) fun v=>fG E.te (dm st (l6 x v)) t x (qA st.h x v) fun up=>K ⟨.tup [],x.keys++v.keys,cu st.h (l6 x v)++up⟩
  |some _=>none
 | .call { callee:=.builtin .append,args,argTypes }=>match args.toList,argTypes.toList with
  |[s,x],[sT,xT]=>if sT=xT then au (opd st s) fun s=>au (opd st x) fun x=>gI E.te st o.dst sT s x K else none
  |_,_=>none
 | .call { callee:=.value c,args,.. }=>match ja st args.toList with
  |some vs=>match kU st c with
   |some p=>kH E st o.dst p.1 [] (p.2.map (fun c=>V.v (.c c))++vs) K
   |none=>match jW st c with
    |some p=>kH E st o.dst p.1 p.2 vs K
    |none=>match Ak st c with
     |some x=>E.fns.foldr (fun key next=>if x=key then kH E st o.dst key.1 (key.2.map Cap.cell) vs K else next) none
     |none=>none
  |none=>none
 | .load t (.global g)=>match E.maps g t with
  |some _=>K ⟨.v (.c (.glob g)),[],[]⟩
  |none=>none
 | .lookup t x k ok=>match opd st x,opd st k with
  |some (.c (.glob g)),some (.c kc)=>match E.maps g t with
   |some F=>au (F kc) fun p=>K ⟨if ok=true then .tup [.c p.1,.c (.bool p.2)] else .v (.c p.1),[],[]⟩
   |none=>none
  |_,_=>none
 | .makeSlice t l c=>match (E.te t).bind (·.elem) with
  |none=>none
  |some e=>match E.te e,opd st l,opd st c with
   |some ti,some (.c (.int _ n)),some (.c (.int _ m))=>match ti.ty with
    |some t=>match t.ofCells ti.zero with
     |some z=>if 0<=n/\m=n/\(ti.bytes:Int)*n<=281474976710656/\0<ti.bytes/\0<ti.size then K (qx st o.dst (.row e t (List.replicate n.toNat z)) fun k v=>.own k v)
      else none
     |none=>none
    |none=>none
   |_,_,_=>none
 | .convert src dst x=>if AY E.te src dst=true then au (opd st x) fun v=>au (kL st.h (.int .u8) v) fun xs=>K ⟨.v (.c (.str (bytesOf xs))),[],[]⟩
  else if ui E.te src dst=true then(match opd st x with
   |some (.c (.str s))=>K ⟨.v (.c (.sl none (.int .u8) (s.map fun b=>(b.toNat:Int)))),[],[]⟩
   |_=>none)
  else vop E.te st (.convert src dst x) fun v=>K ⟨v,dn st [x],[]⟩
 |op=>vop E.te st op fun v=>K ⟨v,dn st op.operands.toList,[]⟩
def KH(E:Env R)(st:St)(o:Oper)(K:St->Option R):Option R:=bz E st o fun x=>K (st.app o.dst x)
def iO(E:Env R)(ops:Array Oper):List Oper->St->(St->Option R)->Option R
 |[],st,K=>K st
 |o::rest,st,K=>match o.guard with
  |none=>KH E st o fun st=>iO E ops rest st K
  |some (j,want)=>match (ops[j]?).bind (·.dst) with
   |none=>none
   |some d=>match st.s[d]? with
    |some (.v (.c (.bool b)))=>
     if b=want then KH E (st.put (some d) (.v (.c (.bool want)))) o fun st=>iO E ops rest st K
     else iO E ops rest ((st.put (some d) (.v (.c (.bool !want)))).put o.dst (.tup [])) K
    |some (.tup [])=>iO E ops rest (st.put o.dst (.tup [])) K
    |_=>none
def Oper.guardSlot(ops:Array Oper)(o:Oper):List Nat:=
 match o.guard with
 |none=>[]
 |some (j,_)=>((ops[j]?).bind (·.dst)).toList
def Oper.looks(ops:Array Oper)(o:Oper):List Nat:=
 (o.op.operands.toList.filterMap fun | .tmp t=>some t|_=>none)++Oper.guardSlot ops o
structure Did where
 dst:Option Nat
 looks:List Nat
 rd:List Nat
 x:Dl
def Did.ups(d:Did):List Nat:=d.x.up.map (·.1)
def quiet:Op->Bool
 | .move _ | .assign _ | .pick _ _ _ | .build _ _ | .field _ _ _ | .index _ _ _ | .binOp _ _ _ _ _ | .unOp _ _ _ | .makeInterface _ _ | .makeFunc _ _ _ | .extract _ _=>true
 |_=>false
def rO(st:St)(o:Oper):List Nat:=if quiet o.op=true then[] else dn st o.op.operands.toList
def did(ops:Array Oper)(st:St)(o:Oper)(x:Dl):Did:=⟨o.dst,Oper.looks ops o,rO st o++x.up.map (·.1),x⟩
def wK(ops:Array Oper)(o:Oper):Did:=⟨o.dst,Oper.looks ops o,[],⟨.tup [],[],[]⟩⟩
def Ab(a b:List Nat):Bool:=a.all fun x=>!b.contains x
def Did.apart(a b:Did):Bool:=
 Ab a.dst.toList b.looks&&Ab b.dst.toList a.looks&&Ab a.dst.toList b.dst.toList&&Ab a.ups b.rd&&Ab b.ups a.rd
def uni(xs ys:List Nat):List Nat:=xs.foldl (fun acc x=>if acc.contains x then acc else x::acc) ys
def tZ:List Oper->List (List Nat)->List (List Nat)
 |[],tbl=>tbl
 |o::l,tbl=>tZ l (tbl++[(o.after.toList.filter (Region.binds .any)).foldl (fun acc e=>uni (e.on::tbl.getD e.on []) acc) []])
def DF(ds:List Did)(as:List Nat)(j:Nat)(d:Did):Bool:=
 (List.range j).all fun i=>as.contains i||match ds[i]? with
  |some a=>Did.apart a d
  |none=>false
def zG:Nat->List Oper->Bool
 |_,[]=>true
 |j,o::l=>(o.after.toList.all fun e=>!Region.binds .any e||decide (e.on<j))&&zG (j+1) l
def qM(ops:Array Oper)(ds:List Did):Bool:=
 zG 0 ops.toList&&(let tbl:=tZ ops.toList []
 (List.range ds.length).all fun j=>match ds[j]? with
  |some d=>DF ds (tbl.getD j []) j d
  |none=>false)
def fq(E:Env R)(ops:Array Oper):List Oper->St->List Did->(List Did->St->Option R)->Option R
 |[],st,acc,K=>K acc.reverse st
 |o::rest,st,acc,K=>match o.guard with
  |none=>bz E st o fun x=>fq E ops rest (st.app o.dst x) (did ops st o x::acc) K
  |some (j,want)=>match (ops[j]?).bind (·.dst) with
   |none=>none
   |some d=>match st.s[d]? with
    |some (.v (.c (.bool b)))=>
     if b=want then bz E (st.put (some d) (.v (.c (.bool want)))) o fun x=>fq E ops rest ((st.put (some d) (.v (.c (.bool want)))).app o.dst x) (did ops (st.put (some d) (.v (.c (.bool want)))) o x::acc) K
     else fq E ops rest ((st.put (some d) (.v (.c (.bool !want)))).put o.dst (.tup [])) (wK ops o::acc) K
    |some (.tup [])=>fq E ops rest (st.put o.dst (.tup [])) (wK ops o::acc) K
    |_=>none
def yQ(E:Env R)(ops:Array Oper)(draw:Bool)(st:St)(K:St->Option R):Option R:=
 if draw=true then fq E ops ops.toList st [] fun l st=>if qM ops l=true then K st else none
 else iO E ops ops.toList st K
inductive Ex where
 |normal|exit (id:Nat)|goto (l:Nat)|ret
def first:Code->Option Nat
 | .region id _ _=>some id
 | .seq .skip b=>first b
 | .seq (.label _) b=>first b
 | .seq a _=>first a
 | .block _ c | .loop c | .scope c=>first c
 |_=>none
def goJ(nl:Nat)(h:JH R)(ms:List Nat)(st:St):Option R:=
 if h.sh.pins nl=true then match h.sh.abs st with
 |some a=>h.j ms a.x
 |none=>none
 else none
def goL(nl:Nat)(h:LH R)(ms:List Nat)(n:Nat)(st:St):Option R:=
 if h.sh.pins nl=true then match h.sh.abs st with
 |some a=>h.l ms n a.x
 |none=>none
 else none
abbrev iq(R:Type):=Ex->St->Option R
def NN(E:Env R)(ms:List Nat)(b:Code)(next:St->Option R)(K:iq R):iq R
 | .normal,st=>match (first b).bind E.join with
  |some h=>goJ E.nl h ms st
  |none=>next st
 |ex,st=>K ex st
def za(id:Nat)(K:iq R):iq R
 | .exit i,st=>if i=id then K .normal st else K (.exit i) st
 |ex,st=>K ex st
def Jc(nl:Nat)(h:LH R)(ms:List Nat)(m:Nat)(K:iq R):iq R
 | .normal,st=>goL nl h ms m st
 |ex,st=>K ex st
def qp(K:iq R):iq R
 | .goto _,_=>none
 |ex,st=>K ex st
def uF(nl:Nat)(l:Nat)(h:LH R)(ms:List Nat)(m:Nat)(K:iq R):iq R
 | .goto i,st=>if i=l then goL nl h ms m st else K (.goto i) st
 |ex,st=>K ex st
def jv:Code->Option Nat
 | .label l=>some l
 |_=>none
def pK(E:Env R)(a:Code):Option (Nat×LH R):=
 match jv a with
 |some l=>match E.lab l with
  |some h=>some (l,h)
  |none=>none
 |none=>none
def aP(E:Env R)(ms:List Nat):Code->St->iq R->Option R
 | .skip,st,K=>K .normal st
 | .label _,st,K=>K .normal st
 | .region _ ops draw,st,K=>yQ E ops draw st (K .normal)
 | .seq a b,st,K=>match pK E a with
  |some h=>goL E.nl h.2 ms E.n st
  |none=>aP E ms a st (NN E ms b (fun st=>aP E ms b st K) K)
 | .cond c a b,st,K=>match opd st c with
  |some (.c (.bool t))=>if t=true then(match (first a).bind E.join with|some h=>goJ E.nl h ms st|none=>aP E ms a st K) else(match (first b).bind E.join with|some h=>goJ E.nl h ms st|none=>aP E ms b st K)
  |_=>none
 | .block id c,st,K=>aP E ms c st (za id K)
 | .loop c,st,_=>match (first c).bind E.loop with
  |some h=>goL E.nl h ms E.n st
  |none=>none
 | .exit id,st,K=>K (.exit id) st
 | .goto l,st,K=>K (.goto l) st
 | .ret,st,K=>K .ret st
 | .scope c,st,K=>aP E ms c st (qp K)
 |_,_,_=>none
def dx:Code->List Nat
 | .seq a b=>dx a++dx b
 | .label l=>[l]
 | .cond _ a b=>dx a++dx b
 | .block _ c | .loop c=>dx c
 |_=>[]
def fD:Code->Nat->Option Code
 | .seq a b,l=>match jv a with
  |some i=>if i=l then some b else fD b l
  |none=>if(findLabel a l).isNone then fD b l else none
 |_,_=>none
def Mh(c:Code):Bool:=
 match dx c with
 |[]=>true
 |[l]=>(fD c l).isSome
 |_=>false
inductive Site (R:Type) where
 |join (h:JH R) (b:Code) (K:List Nat->iq R)
 |loop (h:LH R) (c:Code) (K:List Nat->Nat->iq R)
 |flag (b:Bool)
def sites(E:Env R):Code->(List Nat->iq R)->List (Site R)
 | .seq a b,K=>match pK E a with
  |some h=>.flag (dx b).isEmpty::.loop h.2 b (fun ms m=>uF E.nl h.1 h.2 ms m (K ms))::sites E b (fun ms=>uF E.nl h.1 h.2 ms.tail ms.head! (K ms.tail))
  |none=>.flag ((jv a).isSome||(dx a).isEmpty)::sites E a (fun ms=>NN E ms b (fun st=>aP E ms b st (K ms)) (K ms))
   ++ (match (first b).bind E.join with|some h=>[.join h b K]|none=>[])++sites E b K
 | .cond _ a b,K=>.flag ((dx a).isEmpty&&(dx b).isEmpty)::(match (first a).bind E.join with|some h=>[.join h a K]|none=>[])++(match (first b).bind E.join with|some h=>[.join h b K]|none=>[])++sites E a K++sites E b K
 | .block id c,K=>.flag (dx c).isEmpty::sites E c (fun ms=>za id (K ms))
 | .loop c,K=>.flag (dx c).isEmpty::(match (first c).bind E.loop with
  |some h=>.loop h c (fun ms m=>Jc E.nl h ms m (K ms))::sites E c (fun ms=>Jc E.nl h ms.tail ms.head! (K ms.tail))
  |none=>[])
 | .scope c,K=>.flag (Mh c)::sites E c (fun ms=>qp (K ms))
 |_,_=>[]
def Site.ok(E:Env R):Site R->Prop
 | .join h b K=>∀ms x,h.j ms x=aP E ms b (h.sh.mk' nmJ E.N x) (K ms)
 | .loop h c K=>∀ms,(∀x,h.l ms 0 x=none)/\∀m x,h.l ms (m+1) x=aP E (m::ms) c (h.sh.mk' nmJ E.N x) (K ms m)
 | .flag b=>b=true
end Rv
namespace Rv
open Go
def ai{α β:Type}(R:α->β->Prop):List α->List β->Prop
 |[],[]=>True
 |a::r,b::s=>R a b/\ai R r s
 |_,_=>False
section
variable{α β:Type}{R R':α->β->Prop}
theorem ai.mono(h:∀a b,R a b->R' a b):∀{l:List α}{m:List β},ai R l m->ai R' l m
 |[],[],_=>trivial
 |_::_,_::_,H=>⟨h _ _ H.1,ai.mono h H.2⟩
theorem ai.length:∀{l:List α}{m:List β},ai R l m->l.length=m.length
 |[],[],_=>rfl
 |_::_,_::_,H=>by simp[ai.length H.2]
theorem ai.get:∀{l:List α}{m:List β}{i:Nat}{a:α},ai R l m->l[i]?=some a->∃b,m[i]?=some b/\R a b
 |a::_,b::_,0,_,H,e=>by simp at e;subst e;exact⟨b,rfl,H.1⟩
 |_::_,_::_,i+1,_,H,e=>by
  simp only[List.getElem?_cons_succ] at e⊢;exact ai.get H.2 e
 |[],[],_,_,_,e=>by simp at e
theorem ai.append:∀{l:List α}{m:List β}{l':List α}{m':List β},ai R l m->ai R l' m'->ai R (l++l') (m++m')
 |[],[],_,_,_,H=>H
 |_::_,_::_,_,_,H,H'=>⟨H.1,ai.append H.2 H'⟩
theorem ai.take:∀(n:Nat) {l:List α} {m:List β},ai R l m->ai R (l.take n) (m.take n)
 |0,_,_,_=>by simp[ai]
 |_+1,[],[],_=>by simp[ai]
 |n+1,_::_,_::_,H=>⟨H.1,ai.take n H.2⟩
theorem ai.drop:∀(n:Nat) {l:List α} {m:List β},ai R l m->ai R (l.drop n) (m.drop n)
 |0,_,_,H=>by simpa using H
 |_+1,[],[],_=>by simp[ai]
 |n+1,_::_,_::_,H=>by simpa using ai.drop n H.2
end
structure Ctx where
 w0:World
 own:Nat->Prop
 rd:Nat->Prop
 L:World->Prop
 nl:Nat:=0
 lent:Nat->Option (Nat×Nat):=fun _=>none
abbrev Gam:=Nat->Option (Nat×Nat)
def Box.live:Box->Prop
 | .cells _=>True
 | .row _ _ _=>True
 |_=>False
def Box.isRow:Box->Prop
 | .row _ _ _=>True
 |_=>False
def okb(C:Ctx)(γ:Gam)(h:Heap)(d:Dep)(g:Nat):Prop:=
 C.rd g/\∀k e c,h k=some e->e.box.live->γ k=some (g,c)->d=some (k,e.ver,e.dver)/\e.box.isRow
def fnV(f:FuncId)(gs:List Nat):Value:=.func (.func f) #[] (gs.map fun g=>Value.pointer (some ⟨g,0,none⟩)).toArray
def mK(f:FuncId)(vs:Array Value):Value:=if f<gJ then .func (.func f) #[] vs else .func (.func (f-gJ)) vs #[]
theorem nK{f:FuncId}(h:f<gJ)(vs:Array Value):mK f vs=.func (.func f) #[] vs:=if_pos h
theorem KJ(f:FuncId)(vs:Array Value):mK (f+gJ) vs=.func (.func f) vs #[]:=by
 unfold mK;rw[if_neg (Nat.not_lt.2 (Nat.le_add_left _ _))];show Value.func (.func (Nat.sub (Nat.add f gJ) gJ)) vs #[]=_;rw[show Nat.sub (Nat.add f gJ) gJ=f from Nat.add_sub_cancel ..]
theorem NC{f:FuncId}(h:¬f<gJ)(vs:Array Value):mK f vs=.func (.func (f-gJ)) vs #[]:=if_neg h
def nD(w:World)(ok:Nat->Prop)(g:Nat)(c:xn):Prop:=ok g/\g<w.heap.size/\w.cell? ⟨g,0,none⟩=some c.val
def oD(w:World)(ok:Nat->Prop)(g:Nat):Cap->Prop
 | .c0 c=>nD w ok g c
 | .cf f=>ok g/\g<w.heap.size/\∃hs:List Nat,w.cell? ⟨g,0,none⟩=some (fnV f.1 hs)/\ai (nD w ok) hs f.2
def Rd(w:World)(ok:Nat->Prop):(t:Ty)->t.D->List Value->Prop
 | .int k,n,cs=>cs=[.int k n]
 | .bool,b,cs=>cs=[.bool b]
 | .str,s,cs=>cs=[.string (mkS s)]
 | .sl t,xs,cs=>∃A c,cs=[.slice A xs.length c]/\xs.length<=c/\∀i x,xs[i]?=some x->∃g o ds,A=some ⟨g,o,none⟩/\ok g/\g<w.heap.size/\Rd w ok t x ds /\
   ∀j v,ds[j]?=some v->w.cell? ⟨g,o+i*t.size+j,none⟩=some v
 | .nil,_,cs=>cs=[]
 | .pair a b,x,cs=>∃c1 c2,cs=c1++c2/\Rd w ok a x.1 c1/\Rd w ok b x.2 c2
 | .fn,x,cs=>∃gs:List Nat,cs=[fnV x.1 gs]/\ai (oD w ok) gs x.2
theorem Rd.length{w:World}{ok:Nat->Prop}:∀{t:Ty}{x:t.D}{cs:List Value},Rd w ok t x cs->cs.length=t.size
 | .int _,_,_,h=>by rw[h];rfl
 | .bool,_,_,h=>by rw[h];rfl
 | .str,_,_,h=>by rw[h];rfl
 | .sl _,_,_,⟨_,_,h,_⟩=>by rw[h];rfl
 | .nil,_,_,h=>by rw[h];rfl
 | .pair _ _,_,_,⟨_,_,h,h1,h2⟩=>by rw[h,UD,h1.length,h2.length];rfl
 | .fn,_,_,⟨_,h,_⟩=>by rw[h];rfl
theorem nD.mono{w w':World}{ok ok':Nat->Prop}(hs:w.heap.size<=w'.heap.size)(hb:∀g,ok g->g<w.heap.size->w'.heap[g]?=w.heap[g]?/\ok' g){g:Nat}{c:xn}(h:nD w ok g c):nD w' ok' g c:=by
 obtain⟨ho,hg,hc⟩:=h;obtain⟨h1,h2⟩:=hb g ho hg;exact⟨h2,Vd hg hs,(World.cell?_of_block h1).trans hc⟩
theorem oD.mono{w w':World}{ok ok':Nat->Prop}(hs:w.heap.size<=w'.heap.size)(hb:∀g,ok g->g<w.heap.size->w'.heap[g]?=w.heap[g]?/\ok' g){g:Nat}{c:Cap}(h:oD w ok g c):oD w' ok' g c:=by
 cases c with
 |c0 c=>exact nD.mono hs hb h
 |cf f=>
  obtain⟨ho,hg,l,hc,ha⟩:=h;obtain⟨h1,h2⟩:=hb g ho hg;exact⟨h2,Vd hg hs,l,(World.cell?_of_block h1).trans hc,ha.mono fun _ _ hh=>hh.mono hs hb⟩
theorem Rd.mono{w w':World}{ok ok':Nat->Prop}(hs:w.heap.size<=w'.heap.size)(hb:∀g,ok g->g<w.heap.size->w'.heap[g]?=w.heap[g]?/\ok' g) :
  ∀{t:Ty}{x:t.D}{cs:List Value},Rd w ok t x cs->Rd w' ok' t x cs
 | .int _,_,_,h=>h
 | .bool,_,_,h=>h
 | .str,_,_,h=>h
 | .sl _,_,_,⟨A,c,h,hc,hx⟩=>⟨A,c,h,hc,fun i x e=>by
   obtain⟨g,o,ds,hA,hg,hgs,hd,hcell⟩:=hx i x e;obtain⟨h1,h2⟩:=hb g hg hgs;exact⟨g,o,ds,hA,h2,Vd hgs hs,hd.mono hs hb,fun j v e=>(World.cell?_of_block h1).trans (hcell j v e)⟩⟩
 | .nil,_,_,h=>h
 | .pair _ _,_,_,⟨c1,c2,h,h1,h2⟩=>⟨c1,c2,h,h1.mono hs hb,h2.mono hs hb⟩
 | .fn,_,_,⟨gs,h,hx⟩=>⟨gs,h,hx.mono fun _ _ hh=>hh.mono hs hb⟩
theorem Rd.one{w:World}{ok:Nat->Prop}:∀{t:Ty}{x:t.D}{cs:List Value},Rd w ok t x cs->∀v∈cs,v.oneCell'=true
 | .int _,_,_,h=>by rw[h];simp[Value.oneCell']
 | .bool,_,_,h=>by rw[h];simp[Value.oneCell']
 | .str,_,_,h=>by rw[h];simp[Value.oneCell']
 | .sl _,_,_,⟨_,_,h,_⟩=>by rw[h];simp[Value.oneCell']
 | .nil,_,_,h=>by rw[h];simp
 | .pair _ _,_,_,⟨_,_,h,h1,h2⟩=>by
   rw[h];intro v hv;rcases UK.1 hv with hv|hv;·exact h1.one v hv
   ·exact h2.one v hv
 | .fn,_,_,⟨_,h,_⟩=>by rw[h];simp[Value.oneCell',fnV]
def d9:Option (Nat×Nat)->Nat->Value->Prop
 |none,n,v=>n=0/\v=.slice none 0 0
 |some (g,c),n,v=>v=.slice (some ⟨g,0,none⟩) n c
def Now(h:Heap)(k v:Nat)(p:En->Prop):Prop:=∃e,h k=some e/\v<=e.ver/\(v=e.ver->p e)
def eO(h:Heap):Dep->Prop->Prop
 |none,p=>p
 |some (k,v,dv),p=>Now h k v fun e=>dv<=e.dver/\(dv=e.dver->p)
def Box.len:Box->Option Nat
 | .row _ _ xs=>some xs.length
 | .pub _ xs=>some xs.length
 |_=>none
def Box.tsize:Box->Nat
 | .row _ t _=>t.size
 | .pub t _=>t.size
 |_=>0
def RdS(C:Ctx)(γ:Gam)(h:Heap)(w:World)(d:Dep)(t:Ty)(xs:List t.D)(v:Value):Prop:=
 ∃A c,v=.slice A xs.length c/\xs.length<=c/\∀i x,xs[i]?=some x->∃g o ds,A=some ⟨g,o,none⟩/\okb C γ h d g/\g<w.heap.size/\Rd w (okb C γ h none) t x ds /\
  ∀j v,ds[j]?=some v->w.cell? ⟨g,o+i*t.size+j,none⟩=some v
theorem RdS.iff{C:Ctx}{γ:Gam}{h:Heap}{w:World}{t:Ty}{xs:List t.D}{v:Value}:RdS C γ h w none t xs v↔Rd w (okb C γ h none) (.sl t) xs [v]:=by
 simp[RdS,Rd]
def yB(C:Ctx)(γ:Gam)(h:Heap)(w:World)(b g j:Nat)(f:FuncId):Prop:=
 okb C γ h none g/\g<w.heap.size/\w.cell? ⟨g,j,none⟩=some (.func (.func f) #[] #[.pointer (some ⟨b,0,none⟩)])
section
variable(C:Ctx)(γ:Gam)(h:Heap)(w:World)
def av:Cell->Value->Prop
 | .int k n,v=>v=.int k n
 | .bool b,v=>v=.bool b
 | .str s,v=>v=.string (mkS s)
 | .sl d t xs,v=>v.oneCell'=true/\eO h d (RdS C γ h w d t xs v)
 | .nilS,v=>v=.slice none 0 0
 | .own k kv,v=>v.oneCell'=true/\Now h k kv fun e=>∀n,e.box.len=some n->d9 (γ k) n v
 | .ownP k kv m,v=>v.oneCell'=true/\Now h k kv fun e=>∀n,e.box.len=some n->m<=n/\d9 (γ k) m v
 | .ptr k kv off,v=>v.oneCell'=true/\Now h k kv fun e=>∀l,e.box=.cells l->∃g c,γ k=some (g,c)/\v=.pointer (some ⟨g,off,none⟩)
 | .elt k kv i off,v=>v.oneCell'=true/\Now h k kv fun e=>∀n,e.box.len=some n->i<n/\∃g c,γ k=some (g,c)/\v=.pointer (some ⟨g,i*e.box.tsize+off,none⟩)
 | .slp d t xs i off,v=>v.oneCell'=true/\eO h d (∃g p x ds,v=.pointer (some ⟨g,p+off,none⟩)/\xs[i]?=some x/\okb C γ h d g/\g<w.heap.size/\Rd w (okb C γ h none) t x ds /\
   ∀j u,ds[j]?=some u->w.cell? ⟨g,p+j,none⟩=some u)
 | .raw u,v=>v=u/\u.oneCell'=true
 | .err b,v=>v.oneCell'=true/\(b=true->v=.nilIface)/\(b=false->∃t x,v=.iface t x)
 | .ifo t k o,v=>match o with
  |none=>v=.nilIface
  |some n=>v=.iface t (.int k n)
 | .glob g,v=>v.oneCell'=true/\∀w',C.L w'->w'.cell? ⟨g,0,none⟩=some v
 | .pel k kv base n i,v=>v.oneCell'=true/\Now h k kv fun e=>∀l,e.box=.cells l->i<n/\∃g c,γ k=some (g,c)/\v=.pointer (some ⟨g,base+i,none⟩)
 | .fn x,v=>v.oneCell'=true/\Rd w (okb C γ h none) .fn x [v]
 | .clr k kv fs,v=>v.oneCell'=true/\Now h k kv fun e=>∀l,e.box=.cells l->∃b c g,γ k=some (b,c)/\v=.slice (some ⟨g,0,none⟩) fs.length fs.length/\∀j f,fs[j]?=some f->yB C γ h w b g j f
 | .slc d t xs,v=>v.oneCell'=true/\eO h d (RdS C γ h w d t xs v/\∃A,v=.slice A xs.length xs.length)
 | .cle k kv f,v=>v.oneCell'=true/\Now h k kv fun e=>∀l,e.box=.cells l->∃b c g j,γ k=some (b,c)/\v=.pointer (some ⟨g,j,none⟩)/\yB C γ h w b g j f
 | .dead,v=>v.oneCell'=true
def aM:V1->Value->Prop
 | .c x,v=>av C γ h w x v
 | .agg cs,v=>∃vs:List Value,v=.agg vs.toArray/\ai (av C γ h w) cs vs
def bv:V->Value->Prop
 | .v x,v=>aM C γ h w x v
 | .tup xs,v=>∃vs:List Value,v=.tuple vs.toArray/\ai (aM C γ h w) xs vs
 | .clo f cs,v=>∃vs:List Value,v=mK f vs.toArray/\ai (av C γ h w) cs vs
 | .no,_=>True
def bq(ok:Nat->Prop)(t:Ty)(xs:List t.D)(cur:List Value):Prop:=
 ∀i x,xs[i]?=some x->Rd w ok t x ((cur.drop (i*t.size)).take t.size)
def dJ(k:Nat):Box->Prop
 | .cells l=>∃g vs T,γ k=some (g,0)/\w.heap[g]?=some (.cells vs T (0,0))/\ai (av C γ h w) l vs.toList
 | .row e t xs=>(γ k=none/\xs=[])\/∃g c cur,γ k=some (g,c)/\w.heap[g]?=some (.cells cur e (0,0))/\xs.length<=c/\c<=maxLen/\cur.size=c*t.size/\0<t.size /\
   bq w (okb C γ h none) t xs cur.toList
 | .pub t xs=>∃v,d9 (γ k) xs.length v/\Rd w (okb C γ h none) (.sl t) xs [v]
 | .gone=>True
structure Inv:Prop where
 box:∀k e,h k=some e->dJ C γ h w k e.box
 inj:∀k k' e e' g c c',h k=some e->e.box.live->h k'=some e'->e'.box.live->γ k=some (g,c)->γ k'=some (g,c')->k=k'
 own:∀k e g c,h k=some e->e.box.live->γ k=some (g,c)->C.own g
 frame:∀g,g<C.w0.heap.size->¬C.own g->w.heap[g]?=C.w0.heap[g]?
 size:C.w0.heap.size<=w.heap.size
 os:w.os=C.w0.os
 tape:w.tape=C.w0.tape
 output:w.output=C.w0.output
 new:∀g,C.w0.heap.size<=g->C.own g
 rd:∀g,C.own g->C.rd g
 laid:C.L w
 stable:∀a b:World,C.L a->(∀g,¬C.own g->b.heap[g]?=a.heap[g]?)->C.L b
 lent:∀i,i<C.nl->∃e,h (nmJ i).1=some e/\(e.ver=0->γ (nmJ i).1=C.lent i)
structure Rel (st:St) (tmps:Array Value):Prop where
 size:tmps.size=st.s.length
 slot:∀i v,st.s[i]?=some v->bv C γ st.h w v (tmps.getD i undef)
 inv:Inv C γ st.h w
end
def Alike(e e':En):Prop:=
 match e.box,e'.box with
 | .cells _,.cells _=>e'.dver=e.dver
 | .row a t xs,.row a' t' xs'=>a'=a/\(∃ht:t'=t,(ht ▸ xs':List t.D).length=xs.length)/\e.dver<=e'.dver
 | .row _ t xs,.pub t' xs'=>(∃ht:t'=t,(ht ▸ xs':List t.D)=xs)/\e'.dver=e.dver
 | .pub t xs,.pub t' xs'=>(∃ht:t'=t,(ht ▸ xs':List t.D)=xs)/\e'.dver=e.dver
 | .gone,.gone=>e'.dver=e.dver
 |_,_=>False
theorem Alike.refl(e:En):Alike e e:=by
 unfold Alike;cases e.box with
 |cells l=>rfl
 |row a t xs=>exact⟨rfl,⟨rfl,rfl⟩,Uz _⟩
 |pub t xs=>exact⟨⟨rfl,rfl⟩,rfl⟩
 |gone=>rfl
structure cK (C:Ctx) (γ:Gam) (h:Heap) (w:World) (C':Ctx) (γ':Gam) (h':Heap) (w':World):Prop where
 sz:w.heap.size<=w'.heap.size
 keep:∀k e,h k=some e->∃e',h' k=some e'/\(e.ver<e'.ver\/(e'.ver=e.ver/\γ' k=γ k/\Alike e e'))
 blk:∀g,g<w.heap.size->(∀k e c,h k=some e->e.box.live->γ k=some (g,c)->e.box.isRow/\∃e',h' k=some e'/\e'.ver=e.ver/\e'.dver=e.dver)->w'.heap[g]?=w.heap[g]?
 okn:∀k e' c g,h' k=some e'->e'.box.live->γ' k=some (g,c)->g<w.heap.size->∃k0 e0 c0,h k0=some e0/\e0.box.live/\γ k0=some (g,c0)/\(k0=k\/∃e1,h' k0=some e1/\e0.ver<e1.ver)
 rd:∀g,g<w.heap.size->C.rd g->C'.rd g
 L:∀w0,C'.L w0->C.L w0
section
variable{C C':Ctx}{γ γ':Gam}{h h':Heap}{w w':World}
def zQ(h h':Heap):Dep->Prop
 |none=>True
 |some (k,v,dv)=>∃e e',h k=some e/\h' k=some e'/\e.ver=v/\e'.ver=v/\e.dver=dv/\e'.dver=dv
theorem cK.okb(T:cK C γ h w C' γ' h' w'){d:Dep}{g:Nat}(hd:zQ h h' d)(ho:Rv.okb C γ h d g)(hg:g<w.heap.size):w'.heap[g]?=w.heap[g]?/\Rv.okb C' γ' h' d g:=by
 refine⟨T.blk g hg fun k e c hk hl hγ=>?_,T.rd g hg ho.1,fun k e' c hk hl hγ=>?_⟩;·obtain⟨rfl,hr⟩:=ho.2 k e c hk hl hγ;obtain⟨e0,e1,h0,h1,hv,hv',hdv,hdv'⟩:=hd;exact⟨hr,e1,h1,hv',hdv'⟩
 ·obtain⟨k0,e0,c0,hk0,hl0,hγ0,hcase⟩:=T.okn k e' c g hk hl hγ hg;obtain⟨rfl,hr⟩:=ho.2 k0 e0 c0 hk0 hl0 hγ0;obtain⟨e1,e2,h1,h2,hv,hv',hdv,hdv'⟩:=hd;rcases hcase with rfl|⟨e3,h3,hlt⟩
  ·rw[h2] at hk;simp only[Uw] at hk;subst hk;rw[hk0] at h1;simp only[Uw] at h1;subst h1;refine⟨by rw[hv',hdv'],?_⟩;obtain⟨e4,h4,hc⟩:=T.keep k0 _ hk0;rw[h2] at h4;simp only[Uw] at h4;subst h4;rcases hc with hc|⟨_,_,ha⟩
   ·omega
   ·unfold Alike at ha;cases hb:e0.box with
    |row a t xs=>
     rw[hb] at ha;cases hb':e2.box with
     |row a' t' xs'=>trivial
     |pub t' xs'=>rw[hb'] at hl;exact hl
     |cells l=>rw[hb'] at ha;exact ha
     |gone=>rw[hb'] at ha;exact ha
    |_=>rw[hb] at hr;exact hr.elim
  ·rw[h2] at h3;simp only[Uw] at h3;subst h3;omega
theorem eO.imp{d:Dep}{p q:Prop}(hd:eO h d p)(hk:∀k e,h k=some e->∃e',h' k=some e'/\(e.ver<e'.ver\/(e'.ver=e.ver/\e.dver<=e'.dver)))(hpq:zQ h h' d->p->q):eO h' d q:=by
 cases d with
 |none=>exact hpq trivial hd
 |some x=>
  obtain⟨k,v,dv⟩:=x;obtain⟨e,he,hv,hp⟩:=hd;obtain⟨e',he',hc⟩:=hk k e he;rcases hc with hc|⟨hc,hdc⟩;·exact⟨e',he',by omega,fun e=>by omega⟩
  ·refine⟨e',he',by omega,fun hve=>?_⟩;obtain⟨h1,h2⟩:=hp (by omega);exact⟨by omega,fun hdv=>hpq ⟨e,e',he,he',by omega,by omega,by omega,by omega⟩ (h2 (by omega))⟩
theorem Alike.dver{e e':En}(ha:Alike e e'):e.dver<=e'.dver:=by
 unfold Alike at ha;split at ha<;>first|omega|exact ha.elim
theorem Alike.len{e e':En}(ha:Alike e e'):e'.box.len=e.box.len/\(∀n,e.box.len=some n->e'.box.tsize=e.box.tsize):=by
 unfold Alike at ha;split at ha;·rename_i h1 h2;rw[h1,h2];exact⟨rfl,fun n hn=>by cases hn⟩
 ·rename_i h1 h2;obtain⟨rfl,⟨rfl,hl⟩,_⟩:=ha;rw[h1,h2];simp only at hl;simp[Box.len,Box.tsize,hl]
 ·rename_i h1 h2;obtain⟨⟨rfl,hl⟩,_⟩:=ha;simp only at hl;rw[h1,h2];simp[Box.len,Box.tsize,hl]
 ·rename_i h1 h2;obtain⟨⟨rfl,hl⟩,_⟩:=ha;simp only at hl;rw[h1,h2];simp[Box.len,Box.tsize,hl]
 ·rename_i h1 h2;rw[h1,h2];exact⟨rfl,fun n hn=>by cases hn⟩
 ·exact ha.elim
theorem Alike.cells{e e':En}(ha:Alike e e'){l:List Cell}(hl:e'.box=.cells l):∃l',e.box=.cells l':=by
 unfold Alike at ha;rw[hl] at ha;cases hb:e.box with
 |cells l'=>exact⟨l',rfl⟩
 |_=>rw[hb] at ha;exact ha.elim
theorem Now.imp{k v:Nat}{p q:En->Prop}(hn:Now h k v p)(T:cK C γ h w C' γ' h' w')(hpq:∀e e',h k=some e->h' k=some e'->γ' k=γ k->Alike e e'->p e->q e'):Now h' k v q:=by
 obtain⟨e,he,hv,hp⟩:=hn;obtain⟨e',he',hc⟩:=T.keep k e he;rcases hc with hc|⟨hc,hg,ha⟩;·exact⟨e',he',by omega,fun e=>by omega⟩
 ·exact⟨e',he',by omega,fun hve=>hpq e e' he he' hg ha (hp (by omega))⟩
theorem cK.kp(T:cK C γ h w C' γ' h' w'):∀k e,h k=some e->∃e',h' k=some e'/\(e.ver<e'.ver\/(e'.ver=e.ver/\e.dver<=e'.dver)):=fun k e hk=>by
 obtain⟨e',he',hc⟩:=T.keep k e hk;exact⟨e',he',hc.imp id fun⟨h1,_,ha⟩=>⟨h1,ha.dver⟩⟩
theorem yB.step(T:cK C γ h w C' γ' h' w'){b g j:Nat}{f:FuncId}(hc:yB C γ h w b g j f):yB C' γ' h' w' b g j f:=by
 have h1:=T.okb (d:=none) trivial hc.1 hc.2.1;exact⟨h1.2,Vd hc.2.1 T.sz,(World.cell?_of_block h1.1).trans hc.2.2⟩
theorem av.step(T:cK C γ h w C' γ' h' w'):∀{c:Cell}{v:Value},av C γ h w c v->av C' γ' h' w' c v:=by
 intro c v hr;have rdm:∀{d:Dep}{t:Ty}{x:t.D}{cs:List Value},zQ h h' d->Rd w (Rv.okb C γ h d) t x cs->Rd w' (Rv.okb C' γ' h' d) t x cs:=fun hd hh=>hh.mono T.sz fun g ho hg=>T.okb hd ho hg
 cases c with
 |int k n=>exact hr
 |bool b=>exact hr
 |str s=>exact hr
 |nilS=>exact hr
 |raw u=>exact hr
 |err b=>exact hr
 |ifo t k o=>exact hr
 |dead=>exact hr
 |fn x=>exact⟨hr.1,rdm (d:=none) trivial hr.2⟩
 |sl d t xs=>
  refine⟨hr.1,hr.2.imp T.kp fun hd hh=>?_⟩;obtain⟨A,c,hv,hle,hx⟩:=hh;refine⟨A,c,hv,hle,fun i x e=>?_⟩;obtain⟨g,o,ds,hA,ho,hg,hrd,hc⟩:=hx i x e;have h1:=T.okb hd ho hg;exact⟨g,o,ds,hA,h1.2,Vd hg T.sz,rdm (d:=none) trivial hrd,fun j u e=>(World.cell?_of_block h1.1).trans (hc j u e)⟩
 |slc d t xs=>
  refine⟨hr.1,hr.2.imp T.kp fun hd hh=>?_⟩;obtain⟨⟨A,c,hv,hle,hx⟩,hf⟩:=hh;refine⟨⟨A,c,hv,hle,fun i x e=>?_⟩,hf⟩;obtain⟨g,o,ds,hA,ho,hg,hrd,hc⟩:=hx i x e;have h1:=T.okb hd ho hg;exact⟨g,o,ds,hA,h1.2,Vd hg T.sz,rdm (d:=none) trivial hrd,fun j u e=>(World.cell?_of_block h1.1).trans (hc j u e)⟩
 |slp d t xs i off=>
  refine⟨hr.1,hr.2.imp T.kp fun hd hh=>?_⟩;obtain⟨g,p,x,ds,hv,hx,ho,hg,hrd,hc⟩:=hh;have h1:=T.okb hd ho hg;exact⟨g,p,x,ds,hv,hx,h1.2,Vd hg T.sz,rdm (d:=none) trivial hrd,fun j u e=>(World.cell?_of_block h1.1).trans (hc j u e)⟩
 |own k kv=>
  refine⟨hr.1,hr.2.imp T fun e e' _ _ hg ha hp n hn=>?_⟩;rw[hg];exact hp n (by rw[<- ha.len.1];exact hn)
 |ownP k kv m=>
  refine⟨hr.1,hr.2.imp T fun e e' _ _ hg ha hp n hn=>?_⟩;rw[hg];exact hp n (by rw[<- ha.len.1];exact hn)
 |ptr k kv off=>
  refine⟨hr.1,hr.2.imp T fun e e' _ _ hg ha hp l hl=>?_⟩;obtain⟨l',hl'⟩:=ha.cells hl;rw[hg];exact hp l' hl'
 |glob g=>exact⟨hr.1,fun w0 h0=>hr.2 w0 (T.L w0 h0)⟩
 |pel k kv base n i=>
  refine⟨hr.1,hr.2.imp T fun e e' _ _ hg ha hp l hl=>?_⟩;obtain⟨l',hl'⟩:=ha.cells hl;rw[hg];exact hp l' hl'
 |elt k kv i off=>
  refine⟨hr.1,hr.2.imp T fun e e' _ _ hg ha hp n hn=>?_⟩;have hn':e.box.len=some n:=by rw[<- ha.len.1];exact hn
  rw[hg,ha.len.2 n hn'];exact hp n hn'
 |clr k kv fs=>
  refine⟨hr.1,hr.2.imp T fun e e' _ _ hg ha hp l hl=>?_⟩;obtain⟨l',hl'⟩:=ha.cells hl;obtain⟨b,c,g,h1,h2,h3⟩:=hp l' hl';exact⟨b,c,g,by rw[hg];exact h1,h2,fun j f hj=>(h3 j f hj).step T⟩
 |cle k kv f=>
  refine⟨hr.1,hr.2.imp T fun e e' _ _ hg ha hp l hl=>?_⟩;obtain⟨l',hl'⟩:=ha.cells hl;obtain⟨b,c,g,j,h1,h2,h3⟩:=hp l' hl';exact⟨b,c,g,j,by rw[hg];exact h1,h2,h3.step T⟩
theorem aM.step(T:cK C γ h w C' γ' h' w'){x:V1}{v:Value}(hr:aM C γ h w x v):aM C' γ' h' w' x v:=by
 cases x with
 |c x=>exact av.step T hr
 |agg cs=>
  obtain⟨vs,hv,ha⟩:=hr;exact⟨vs,hv,ha.mono fun _ _ hh=>av.step T hh⟩
theorem bv.step(T:cK C γ h w C' γ' h' w'){x:V}{v:Value}(hr:bv C γ h w x v):bv C' γ' h' w' x v:=by
 cases x with
 |v x=>exact aM.step T hr
 |tup xs=>
  obtain⟨vs,hv,ha⟩:=hr;exact⟨vs,hv,ha.mono fun _ _ hh=>aM.step T hh⟩
 |clo f cs=>
  obtain⟨vs,hv,ha⟩:=hr;exact⟨vs,hv,ha.mono fun _ _ hh=>av.step T hh⟩
 |no=>trivial
theorem dJ.step(T:cK C γ h w C' γ' h' w'){k:Nat}{b:Box}(hb:dJ C γ h w k b)(hg:γ' k=γ k)(blk:b.live->∀g c,γ k=some (g,c)->w'.heap[g]?=w.heap[g]?):dJ C' γ' h' w' k b:=by
 cases b with
 |cells l=>
  obtain⟨g,vs,U,hγ,hb,ha⟩:=hb;exact⟨g,vs,U,by rw[hg];exact hγ,(blk trivial g 0 hγ).trans hb,ha.mono fun _ _ hh=>av.step T hh⟩
 |row e t xs=>
  rcases hb with⟨h0,hx⟩|⟨g,c,cur,hγ,hb,hc,hcm,hcs,hsz,hr⟩;·exact .inl ⟨by rw[hg];exact h0,hx⟩
  ·exact .inr ⟨g,c,cur,by rw[hg];exact hγ,(blk trivial g c hγ).trans hb,hc,hcm,hcs,hsz,fun i x hx=>(hr i x hx).mono T.sz fun g ho hg=>T.okb (d:=none) trivial ho hg⟩
 |pub t xs=>
  obtain⟨v,h1,h2⟩:=hb;exact⟨v,by rw[hg];exact h1,h2.mono T.sz fun g ho hg=>T.okb (d:=none) trivial ho hg⟩
 |gone=>trivial
theorem cK.lent{nl:Nat}{lent:Nat->Option (Nat×Nat)}(T:cK C γ h w C' γ' h' w')(hl:∀i,i<nl->∃e,h (nmJ i).1=some e/\(e.ver=0->γ (nmJ i).1=lent i)) :
  ∀i,i<nl->∃e,h' (nmJ i).1=some e/\(e.ver=0->γ' (nmJ i).1=lent i):=fun i hi=>by
 obtain⟨e,he,hv⟩:=hl i hi;obtain⟨e',he',hc⟩:=T.keep _ e he;refine⟨e',he',fun h0=>?_⟩;rcases hc with hc|⟨hc,hg,_⟩;·omega
 ·rw[hg];exact hv (by omega)
theorem Rel.step{st:St}{tmps:Array Value}(R:Rel C γ w st tmps)(T:cK C γ st.h w C' γ' h' w')(I':Inv C' γ' h' w'):Rel C' γ' w' ⟨st.s,h'⟩ tmps where
 size:=R.size
 slot:=fun i v hv=>bv.step T (R.slot i v hv)
 inv:=I'
theorem Inv.row(I:Inv C γ h w){k:Nat}{e:En}{a:TypeId}{t:Ty}{xs:List t.D}(hk:h k=some e)(hb:e.box=.row a t xs){n:Nat}(hn:n<=xs.length){v:Value}(hv:d9 (γ k) n v) :
  RdS C γ h w (some (k,e.ver,e.dver)) t (xs.take n) v:=by
 have hbx:=I.box k e hk;rw[hb] at hbx;rcases hbx with⟨h0,hx⟩|⟨g,c,cur,hγ,hbl,hc,_,hcs,hsz,hr⟩;·rw[h0] at hv;obtain⟨rfl,rfl⟩:=hv;exact⟨none,0,by simp,by simp,fun i x e=>by simp at e⟩
 ·rw[hγ] at hv;have hgs:g<w.heap.size:=(Array.getElem?_eq_some_iff.1 hbl).1;have hl:e.box.live:=by rw[hb];trivial
  refine⟨some ⟨g,0,none⟩,c,?_,?_,fun i x hx=>?_⟩;·simp only[d9] at hv;rw[hv];simp;omega
  ·simp;omega
  ·have hi:xs[i]?=some x:=by
    rw[UZ] at hx;split at hx
    ·exact hx
    ·cases hx
   have hrd:=hr i x hi;refine⟨g,0,_,rfl,⟨I.rd g (I.own k e g c hk hl hγ),fun k' e' c' hk' hl' hγ'=>?_⟩,hgs,hrd,fun j u hj=>?_⟩;·have ee:=I.inj k k' e e' g c c' hk hl hk' hl' hγ hγ';subst ee;rw[hk] at hk';simp only[Uw] at hk';subst hk';exact⟨rfl,by rw[hb];trivial⟩
   ·rw[cell_of_row w g _ cur a (0,0) hbl];rw[UZ] at hj;split at hj
    ·rw[Va] at hj;simpa using hj
    ·cases hj
theorem aK{k v:Nat}{b:Box}(ha:h.at k v=some b):∃e,h k=some e/\e.ver=v/\e.box=b:=by
 unfold Heap.at at ha;split at ha
 ·rename_i e he;split at ha
  ·simp only[Uw] at ha;exact⟨e,he,‹_›,ha⟩
  ·cases ha
 ·cases ha
theorem Now.get{k v:Nat}{p:En->Prop}(hn:Now h k v p){e:En}(he:h k=some e)(hv:e.ver=v):p e:=by
 obtain⟨e',he',_,hp⟩:=hn;rw[he] at he';simp only[Uw] at he';subst he';exact hp hv.symm
theorem eO.get{d:Dep}{p:Prop}(hn:eO h d p)(hd:h.depOk d=true):p:=by
 cases d with
 |none=>exact hn
 |some x=>
  obtain⟨k,v,dv⟩:=x;simp only[Heap.depOk] at hd;split at hd;·rename_i e he;simp only[UE] at hd;exact(Now.get hn he hd.1).2 hd.2.symm
  ·cases hd
theorem lK(I:Inv C γ h w){c:Cell}{r:(t:Ty)×List t.D}(hr:rowOf h c=some r){v:Value}(hv:av C γ h w c v):RdS C γ h w (fI h c) r.1 r.2 v:=by
 have weak:∀{t:Ty}{xs:List t.D}{d:Dep},RdS C γ h w none t xs v->RdS C γ h w d t xs v:=fun {t xs d} ⟨A,c,h1,h2,h3⟩=>
  ⟨A,c,h1,h2,fun i x e=>by
   obtain⟨g,o,ds,hA,ho,hg,hrd,hc⟩:=h3 i x e;exact⟨g,o,ds,hA,⟨ho.1,fun k' e' c' hk' hl' hγ'=>by have:=(ho.2 k' e' c' hk' hl' hγ').1;simp at this⟩,hg,hrd,hc⟩⟩
 cases c with
 |sl d t xs=>
  simp only[rowOf] at hr;split at hr;·simp only[Uw] at hr;subst hr;exact hv.2.get ‹_›
  ·cases hr
 |own k kv=>
  simp only[rowOf] at hr;split at hr;·rename_i a t xs ha;simp only[Uw] at hr;subst hr;obtain⟨e,he,hve,hb⟩:=aK ha;have:=I.row he hb (Uz _) (hv.2.get he hve xs.length (by rw[hb];rfl));simp only[fI,he,Vh];rw[List.take_length,hve] at this;exact this
  ·rename_i t xs ha;simp only[Uw] at hr;subst hr;obtain⟨e,he,hve,hb⟩:=aK ha;have hbx:=I.box k e he;rw[hb] at hbx;obtain⟨u,h1,h2⟩:=hbx;have h3:=hv.2.get he hve xs.length (by rw[hb];rfl);have:u=v:=by
    cases hγ:γ k with
    |none=>rw[hγ] at h1 h3;rw[h1.2,h3.2]
    |some p=>rw[hγ] at h1 h3;rw[show u=_ from h1,show v=_ from h3]
   subst this;exact weak (RdS.iff.2 h2)
  ·cases hr
 |ownP k kv n=>
  simp only[rowOf] at hr;split at hr;·rename_i a t xs ha;simp only[Uw] at hr;subst hr;obtain⟨e,he,hve,hb⟩:=aK ha;obtain⟨hn,ho⟩:=hv.2.get he hve xs.length (by rw[hb];rfl);have:=I.row he hb hn ho;simp only[fI,he,Vh];rw[hve] at this;exact this
  ·rename_i t xs ha;simp only[Uw] at hr;subst hr;obtain⟨e,he,hve,hb⟩:=aK ha;have hbx:=I.box k e he;rw[hb] at hbx;obtain⟨u,h1,A,c,hA,hle,hx⟩:=hbx;obtain⟨hn,ho⟩:=hv.2.get he hve xs.length (by rw[hb];rfl);simp only[List.cons.injEq,and_true] at hA;apply weak;cases hγ:γ k with
   |none=>
    rw[hγ] at ho;obtain⟨rfl,rfl⟩:=ho;exact RdS.iff.2 ⟨none,0,by simp,by simp,fun i x e=>by simp at e⟩
   |some p=>
    obtain⟨g,cc⟩:=p;rw[hγ] at ho h1;rw[show u=_ from h1] at hA;simp only[Value.slice.injEq,true_and] at hA;obtain⟨rfl,rfl⟩:=hA;refine RdS.iff.2 ⟨some ⟨g,0,none⟩,cc,?_,by simp;omega,fun i x e=>?_⟩
    ·rw[show v=_ from ho];simp;omega
    ·rw[UZ] at e;split at e
     ·exact hx i x e
     ·cases e
  ·cases hr
 |_=>simp[rowOf] at hr
end
end Rv
namespace Rv
open Go
def gP:TypeDesc->Bool
 | .struct _ | .array _ _=>true
 |_=>false
def Ty.isAgg:Ty->Bool
 | .nil | .pair _ _=>true
 |_=>false
def Cell.plain:Cell->Option Value
 | .int k n=>some (.int k n)
 | .bool b=>some (.bool b)
 | .str s=>some (.string (mkS s))
 | .nilS=>some (.slice none 0 0)
 | .raw .nilIface=>some .nilIface
 | .raw (.pointer none)=>some (.pointer none)
 | .raw .nilFunc=>some .nilFunc
 |_=>none
def Dr(P:Program)(rec:TypeId->Ty->Prop):List Field->Nat->Ty->Prop
 |[],_,.nil=>True
 |f::fs,off,.pair A B=>(f.name == "_")=false/\f.offset=off/\rec f.type A/\(∃inf,P.info? f.type=some inf/\inf.size=A.size)/\(∃d,P.underlying f.type=some d/\gP d=A.isAgg)/\Dr P rec fs (off+A.size) B
 |_,_,_=>False
def zR(P:Program):Nat->TypeId->Ty->Prop
 |0,_,_=>False
 |d+1,t,T=>match T with
  | .int k=>P.underlying t=some (.int k)
  | .bool=>P.underlying t=some .bool
  | .str=>P.underlying t=some .string
  | .sl _=>False
  | .fn=>False
  | .nil=>P.underlying t=some (.struct (P.fieldsOf t))/\P.stoodInHeld t=false/\Dr P (zR P d) (P.fieldsOf t).toList 0 .nil
  | .pair a b=>P.underlying t=some (.struct (P.fieldsOf t))/\P.stoodInHeld t=false/\Dr P (zR P d) (P.fieldsOf t).toList 0 (.pair a b)
structure aS (P:Program) (t:TypeId) (i:TI):Prop where
 info:∃inf,P.info? t=some inf/\inf.size=i.size/\inf.bytes=i.bytes/\∃z,inf.zero=some z/\z.cells.size=i.size/\ai (fun c v=>c.plain=some v) i.zero z.cells.toList
 desc:∃d,P.underlying t=some d/\gP d=i.agg
 fields:i.fields=[]\/∃fs:Array Field,P.underlying t=some (.struct fs)/\ai (fun(f:Nat×Nat×Bool) (fd:Field)=>fd.offset=f.1/\0<f.2.1/\(∃inf,P.info? fd.type=some inf/\inf.size=f.2.1) /\
  ∃d,P.underlying fd.type=some d/\gP d=f.2.2) i.fields fs.toList
 elem:∀e,i.elem=some e->P.underlying t=some (.slice e)
 int:∀k,i.int=some k->P.underlying t=some (.int k)
 str:i.str=true->P.underlying t=some .string
 ty:∀T,i.ty=some T->T.size=i.size/\T.isAgg=i.agg
 bool:i.ty=some .bool->P.underlying t=some .bool
 iface:i.iface=true->∃ms,P.underlying t=some (.interface ms)
 cmp:i.cmp=true->∃inf,P.info? t=some inf/\inf.comparable=true
 notIface:i.iface=false->∀ms,P.underlying t≠some (.interface ms)
 eq:∀T,i.eq=some T->zR P 20 t T/\T.hasSl=false/\T.isAgg=true/\P.eqGuardType P.depth t=false
 arr:∀n,i.arr=some n->0<n/\∃e,P.underlying t=some (.array n e)/\(∀w,(Go.sizeOf e).run P w=.ok (i.size / n) w)/\(i.size=n->∀w,(Go.isAgg e).run P w=.ok false w)
section
variable{P:Program}{t:TypeId}{i:TI}
theorem aS.sizeOf(h:aS P t i)(w:World):(Go.sizeOf t).run P w=.ok i.size w:=by
 obtain⟨inf,h1,h2,_⟩:=h.info;simp[Go.sizeOf,typeInfo,h1,h2]
theorem aS.isAgg(h:aS P t i)(w:World):(Go.isAgg t).run P w=.ok i.agg w:=by
 obtain⟨d,h1,h2⟩:=h.desc;rw[<- h2];simp only[Go.isAgg,UJ,run_underlying h1,Uy];cases d<;>rfl
end
def Ext(w w':World):Prop:=w.heap.size<=w'.heap.size/\∀g,g<w.heap.size->w'.heap[g]?=w.heap[g]?
theorem Ext.refl(w:World):Ext w w:=⟨Uz _,fun _ _=>rfl⟩
theorem Ext.trans{a b c:World}(h:Ext a b)(k:Ext b c):Ext a c:=
 ⟨UW h.1 k.1,fun g hg=>(k.2 g (Vd hg h.1)).trans (h.2 g hg)⟩
theorem Ext.cell{w w':World}(h:Ext w w'){a:Addr}{v:Value}(hc:w.cell? a=some v):w'.cell? a=some v:=
 (World.cell?_of_block (h.2 a.block (World.block_lt_of_cell? w a hc))).trans hc
theorem iG(g o j:Nat):(⟨g,o,none⟩:Addr).add j=⟨g,o+j,none⟩:=by
 unfold Addr.add;split
 ·subst_vars;rfl
 ·rfl
section
variable{P:Program}{C:Ctx}{γ:Gam}{h:Heap}{w:World}
theorem av.one{c:Cell}{v:Value}(hr:av C γ h w c v):v.oneCell'=true:=by
 cases c with
 |int k n=>rw[show v=_ from hr];rfl
 |bool b=>rw[show v=_ from hr];rfl
 |str s=>rw[show v=_ from hr];rfl
 |nilS=>rw[show v=_ from hr];rfl
 |raw u=>rw[hr.1];exact hr.2
 |err b=>exact hr.1
 |ifo t k o=>
  cases o with
  |none=>rw[show v=_ from hr];rfl
  |some n=>rw[show v=_ from hr];rfl
 |dead=>exact hr
 |_=>exact hr.1
theorem eO.mk{d:Dep}{p:Prop}(hd:h.depOk d=true)(hp:p):eO h d p:=by
 cases d with
 |none=>exact hp
 |some x=>
  obtain⟨k,v,dv⟩:=x;simp only[Heap.depOk] at hd;split at hd;·rename_i e he;simp only[UE] at hd;exact⟨e,he,by omega,fun _=>⟨by omega,fun _=>hp⟩⟩
  ·cases hd
theorem cells_one{v:Value}(h:v.oneCell'=true):v.cells=#[v]:=by cases v<;>first|rfl|simp[Value.oneCell'] at h
theorem aM.cells{x:V1}{v:Value}(hr:aM C γ h w x v):ai (av C γ h w) x.cells v.cells.toList:=by
 cases x with
 |c x=>
  rw[cells_one (av.one hr)];exact⟨hr,trivial⟩
 |agg cs=>
  obtain⟨vs,hv,ha⟩:=hr;rw[hv];exact ha
theorem Rd.cells:∀{t:Ty}{x:t.D}{ds:List Value},Rd w (okb C γ h none) t x ds->ai (av C γ h w) (t.cells none x) ds
 | .int _,_,_,e=>by rw[e];exact⟨rfl,trivial⟩
 | .bool,_,_,e=>by rw[e];exact⟨rfl,trivial⟩
 | .str,_,_,e=>by rw[e];exact⟨rfl,trivial⟩
 | .sl _,_,_,hr=>by
  obtain⟨A,c,e,rest⟩:=hr;subst e;exact⟨⟨rfl,RdS.iff.2 ⟨A,c,rfl,rest⟩⟩,trivial⟩
 | .nil,_,_,e=>by rw[e];exact trivial
 | .pair _ _,_,_,⟨_,_,e,h1,h2⟩=>by rw[e];exact h1.cells.append h2.cells
 | .fn,_,_,⟨gs,e,hx⟩=>by subst e;exact⟨⟨rfl,gs,rfl,hx⟩,trivial⟩
theorem Ga{v:Value}{x:V1}(he:dD v=some x):aM C γ h w x v:=by
 cases v with
 |int k n=>simp only[dD,Uw] at he;subst he;rfl
 |bool b=>simp only[dD,Uw] at he;subst he;rfl
 |string s=>simp only[dD,Uw] at he;subst he;rfl
 |slice a n c=>
  cases a with
  |some a=>simp[dD] at he
  |none=>
   cases n with
   |succ n=>simp[dD] at he
   |zero=>cases c with
    |succ c=>simp[dD] at he
    |zero=>simp only[dD,Uw] at he;subst he;rfl
 |nilIface=>simp only[dD,Uw] at he;subst he;exact⟨rfl,rfl⟩
 |pointer a=>
  cases a with
  |some a=>simp[dD] at he
  |none=>simp only[dD,Uw] at he;subst he;exact⟨rfl,rfl⟩
 |nilFunc=>simp only[dD,Uw] at he;subst he;exact⟨rfl,rfl⟩
 |_=>simp[dD] at he
theorem ED{v:Value}{x:V1}(he:dD v=some x):x≠.c .dead:=by
 intro hd;subst hd;unfold dD at he;split at he<;>simp at he
theorem Rel.opd{st:St}{a:Act}(R:Rel C γ w st a.tmps){x:Operand}{v:V1}(he:opd st x=some v):aM C γ st.h w v (a.eval x)/\v≠.c .dead:=by
 cases x with
 |tmp t=>
  simp only[Rv.opd] at he;split at he;·simp at he
  ·rename_i x hs hx;simp only[Uw] at he;subst he;exact⟨R.slot t _ hx,fun e=>hs (e ▸ rfl)⟩
  ·simp at he
 |const v=>exact⟨Ga he,ED he⟩
 |func f=>
  simp only[Rv.opd,Uw] at he;subst he;exact⟨⟨rfl,rfl⟩,by simp⟩
 |global g=>simp[Rv.opd] at he
theorem rM{t:TypeId}{i:TI}(hi:aS P t i){w':World}{g off:Nat}{ds:List Value}(hl:ds.length=i.size)(hc:∀j u,ds[j]?=some u->w'.cell? ⟨g,off+j,none⟩=some u){cs:List Cell}
  (ha:ai (av C γ h w) cs ds) {x:V1} (hm:mkV i.agg cs=some x):∃val,(loadVar t ⟨g,off,none⟩).run P w'=.ok val w'/\aM C γ h w x val /\
   (∀w'',(∀j u,ds[j]?=some u->w''.cell? ⟨g,off+j,none⟩=some u)->(loadVar t ⟨g,off,none⟩).run P w''=.ok val w''):=by
 cases hag:i.agg with
 |true=>
  rw[hag] at hm;simp only[mkV,if_true,Uw] at hm;subst hm;have key:∀w'',(∀j u,ds[j]?=some u->w''.cell? ⟨g,off+j,none⟩=some u)->(loadVar t ⟨g,off,none⟩).run P w''=.ok (.agg ds.toArray) w'':=by
   intro w'' hc;have hlc:(loadCells ⟨g,off,none⟩ ds.length).run P w''=.ok ds.toArray w'':=run_loadCells_list (P:=P) w'' ⟨g,off,none⟩ ds fun j u e=>by rw[iG];exact hc j u e
   simp only[loadVar,UJ,hi.isAgg,hag,Uy,if_true,hi.sizeOf,<- hl,hlc,UQ]
  exact⟨.agg ds.toArray,key w' hc,⟨ds,rfl,ha⟩,key⟩
 |false=>
  rw[hag] at hm;simp only[mkV,Bool.false_eq_true,if_false] at hm;cases cs with
  |nil=>simp at hm
  |cons c r=>
   cases r with
   |cons _ _=>simp at hm
   |nil=>
    simp only[Uw] at hm;subst hm;cases ds with
    |nil=>exact ha.elim
    |cons u r=>cases r with
     |cons _ _=>exact ha.2.elim
     |nil=>
      have key:∀w'',(∀j u',[u][j]?=some u'->w''.cell? ⟨g,off+j,none⟩=some u')->(loadVar t ⟨g,off,none⟩).run P w''=.ok u w'':=by
       intro w'' hc;have h0:w''.cell? ⟨g,off,none⟩=some u:=hc 0 u rfl;simp only[loadVar,UJ,hi.isAgg,hag,Uy,Bool.false_eq_true,if_false,run_load,h0]
      exact⟨u,key w' hc,ha.1,key⟩
theorem OM{t:TypeId}{sz:Nat}{ag:Bool}(hinf:∃inf,P.info? t=some inf/\inf.size=sz)(hag:∃d,P.underlying t=some d/\gP d=ag){off:Nat}{cs:List Cell}{vs:List Value}(ha:ai (av C γ h w) cs vs)
  (hle:off+sz<=cs.length) {x:V1} (hm:mkV ag ((cs.drop off).take sz)=some x) (w':World):∃val,(part t vs.toArray off).run P w'=.ok val w'/\aM C γ h w x val/\∀w'',(part t vs.toArray off).run P w''=.ok val w'':=by
 obtain⟨inf,h1,h2⟩:=hinf;obtain⟨d,h3,h4⟩:=hag;have hsz:∀w',(Go.sizeOf t).run P w'=.ok sz w':=fun w'=>by simp[Go.sizeOf,typeInfo,h1,h2]
 have hia:∀w',(Go.isAgg t).run P w'=.ok ag w':=fun w'=>by
  rw[<- h4];simp only[Go.isAgg,UJ,run_underlying h3,Uy];cases d<;>rfl
 have hp:=(ha.drop off).take sz;cases ag with
 |true=>
  simp only[mkV,if_true,Uw] at hm;subst hm;have key:∀w',(part t vs.toArray off).run P w'=.ok (.agg ((vs.drop off).take sz).toArray) w':=fun w'=>by
   simp only[part,UJ,hia,Uy,if_true,hsz,UQ];congr 2;apply Array.ext';simp[List.extract_eq_take_drop]
  exact⟨_,key w',⟨_,rfl,hp⟩,key⟩
 |false=>
  simp only[mkV,Bool.false_eq_true,if_false] at hm;revert hm hp;generalize hcs:(cs.drop off).take sz=l;generalize hvs:(vs.drop off).take sz=m;intro hp hm;cases l with
  |nil=>simp at hm
  |cons c r=>
   cases r with
   |cons _ _=>simp at hm
   |nil=>
    simp only[Uw] at hm;subst hm;cases m with
    |nil=>exact hp.elim
    |cons u r=>cases r with
     |cons _ _=>exact hp.2.elim
     |nil=>
      have hu:vs[off]?=some u:=by
       have:((vs.drop off).take sz)[0]?=some u:=by rw[hvs];rfl
       rw[UZ] at this;split at this;·simpa using this
       ·cases this
      have key:∀w',(part t vs.toArray off).run P w'=.ok u w':=fun w'=>by
       simp only[part,UJ,hia,Uy,Bool.false_eq_true,if_false,List.getElem?_toArray,hu,UQ]
      exact⟨u,key w',hp.1,key⟩
end
end Rv
namespace Rv
open Go
section
variable{P:Program}{C:Ctx}{γ:Gam}{h:Heap}{w:World}{R:Type}{r:R}
theorem ae{α:Type}{x:Option α}{K:α->Option R}(h:au x K=some r):∃a,x=some a/\K a=some r:=by
 cases x with
 |none=>simp[au] at h
 |some a=>exact⟨a,rfl,h⟩
theorem aa{c:Prop}[Decidable c]{x:Option R}(h:(if c then x else none)=some r):c/\x=some r:=by
 split at h;·exact⟨‹_›,h⟩
 ·cases h
theorem nu{c:Prop}[Decidable c]{x:Option R}(h:(if c then none else x)=some r):¬c/\x=some r:=by
 split at h;·cases h
 ·exact⟨‹_›,h⟩
theorem rR(s:Str):(mkS s).size=s.length:=rfl
theorem fV(s:Str):(mkS s).toList=s:=ByteArray.toList_eq (mkS s)
theorem F8(s:Str)(l h:Nat):(mkS s).extract l h=mkS ((s.take h).drop l):=by
 apply ByteArray.ext;apply Array.ext';rw[Lib.extract_data,List.drop_take];rfl
def fO(P:Program)(s:Sem Value)(C:Ctx)(γ:Gam)(h:Heap)(w:World)(x:V1):Prop:=∃val,aM C γ h w x val/\∀w',s.run P w'=.ok val w'
theorem II{op:BinOp}{k:IntKind}{x y:Int}{K:V1->Option R}(hs:op≠.shl)(hs':op≠.shr)(he:qR op k x y (fun c=>K (.c c))=some r)(t:TypeId) :
  ∃c,K c=some r/\fO P (binOp op t (.int k x) (.int k y)) C γ h w c:=by
 cases op with
 |shl=>exact absurd rfl hs
 |shr=>exact absurd rfl hs'
 |quo=>simp only[qR] at he;obtain⟨hy,he⟩:=nu he;exact⟨_,he,_,rfl,fun w'=>by simp[binOp,Op.intDiv,hy]⟩
 |rem=>simp only[qR] at he;obtain⟨hy,he⟩:=nu he;exact⟨_,he,_,rfl,fun w'=>by simp[binOp,Op.intDiv,hy]⟩
 |eql=>exact⟨_,he,_,rfl,fun w'=>by simp[binOp,Op.intCmp];rfl⟩
 |neq=>exact⟨_,he,_,rfl,fun w'=>by simp[binOp,Op.intCmp];rfl⟩
 |_=>exact⟨_,he,_,rfl,fun w'=>by simp[binOp,Op.intArith,Op.intBits,Op.intCmp,aC]⟩
theorem Cs{op:BinOp}{k k':IntKind}{x y:Int}{K:V1->Option R}(hs:op=.shl\/op=.shr)(he:shI op k x y (fun c=>K (.c c))=some r)(t:TypeId) :
  ∃c,K c=some r/\fO P (binOp op t (.int k x) (.int k' y)) C γ h w c:=by
 rcases hs with rfl|rfl<;>simp only[shI] at he<;>obtain⟨hy,he⟩:=nu he<;>refine⟨_,he,_,rfl,fun w'=>?_⟩<;>simp[binOp,Op.shift,hy]
theorem Dp(x y:Str):(x == y)=decide (x=y):=by rw[Bool.eq_iff_iff];simp
theorem IM{op:BinOp}{x y:Str}{K:V1->Option R}(he:qU op x y (fun c=>K (.c c))=some r)(t:TypeId) :
  ∃c,K c=some r/\fO P (binOp op t (.string (mkS x)) (.string (mkS y))) C γ h w c:=by
 cases op with
 |add=>
  simp only[qU] at he;obtain⟨hle,he⟩:=aa he;refine⟨_,he,.string (mkS x++mkS y),?_,fun w'=>?_⟩;·show Value.string _=Value.string _;congr 1
  ·have:(binOp .add t (.string (mkS x)) (.string (mkS y)))=Op.stringOp .add (mkS x) (mkS y):=by simp[binOp]
   rw[this];exact run_string_add_sum w' (mkS x) (mkS y) hle
 |eql=>exact⟨_,he,_,rfl,fun w'=>by simp[binOp,Op.stringOp,fV,Dp]⟩
 |neq=>exact⟨_,he,_,rfl,fun w'=>by simp[binOp,Op.stringOp,fV,Dp]⟩
 |lss=>exact⟨_,he,_,rfl,fun w'=>by simp[binOp,Op.stringOp,fV]⟩
 |geq=>exact⟨_,he,_,rfl,fun w'=>by simp[binOp,Op.stringOp,fV]⟩
 |leq=>exact⟨_,he,_,rfl,fun w'=>by simp[binOp,Op.stringOp,fV,Dp]⟩
 |gtr=>exact⟨_,he,_,rfl,fun w'=>by simp[binOp,Op.stringOp,fV,Dp]⟩
 |_=>simp[qU] at he
theorem CV{op:BinOp}{t:TypeId}{x y:Operand}{a b:Value}(h1:a.oneCell'=true)(h2:a≠.nilIface)(w':World):(eqGuard op t x y a b).run P w'=.ok () w':=by
 cases a<;>first|(simp[Value.oneCell'] at h1;done)|(exact absurd rfl h2)|(cases op<;>rfl)
def Ty.vals:(t:Ty)->t.D->List Value
 | .int k,n=>[.int k n]
 | .bool,b=>[.bool b]
 | .str,s=>[.string (mkS s)]
 | .sl _,_=>[]
 | .nil,_=>[]
 | .pair a b,x=>a.vals x.1++b.vals x.2
 | .fn,_=>[]
def Ty.val(t:Ty)(x:t.D):Value:=if t.isAgg=true then .agg (t.vals x).toArray else(t.vals x).headD undef
theorem ou:∀{t:Ty}{x:t.D},t.hasSl=false->(t.vals x).length=t.size
 | .int _,_,_=>rfl
 | .bool,_,_=>rfl
 | .str,_,_=>rfl
 | .sl _,_,h=>by simp[Ty.hasSl] at h
 | .nil,_,_=>rfl
 | .pair a b,x,h=>by
  simp only[Ty.hasSl,Bool.or_eq_false_iff] at h;simp only[Ty.vals,UD,Ty.size,ou h.1,ou h.2]
theorem rY:∀{t:Ty}{l:List Cell}{x:t.D}{rest:List Cell}{vs:List Value},t.parse l=some (x,rest)->t.hasSl=false->ai (av C γ h w) l vs->∃v2,vs=t.vals x++v2/\ai (av C γ h w) rest v2
 | .int k,l,x,rest,vs,he,_,ha=>by
  cases l with
  |nil=>cases he
  |cons c l=>
   cases c with
   |int j n=>
    simp only[Ty.parse] at he;obtain⟨hk,he⟩:=aa he;simp only[Uw,UC] at he;obtain⟨rfl,rfl⟩:=he;subst hk;cases vs with
    |nil=>exact ha.elim
    |cons v vs=>exact⟨vs,by rw[show v=_ from ha.1];rfl,ha.2⟩
   |_=>cases he
 | .bool,l,x,rest,vs,he,_,ha=>by
  cases l with
  |nil=>cases he
  |cons c l=>
   cases c with
   |bool b=>
    simp only[Ty.parse,Uw,UC] at he;obtain⟨rfl,rfl⟩:=he;cases vs with
    |nil=>exact ha.elim
    |cons v vs=>exact⟨vs,by rw[show v=_ from ha.1];rfl,ha.2⟩
   |_=>cases he
 | .str,l,x,rest,vs,he,_,ha=>by
  cases l with
  |nil=>cases he
  |cons c l=>
   cases c with
   |str b=>
    simp only[Ty.parse,Uw,UC] at he;obtain⟨rfl,rfl⟩:=he;cases vs with
    |nil=>exact ha.elim
    |cons v vs=>exact⟨vs,by rw[show v=_ from ha.1];rfl,ha.2⟩
   |_=>cases he
 | .sl _,_,_,_,_,_,hs,_=>by simp[Ty.hasSl] at hs
 | .nil,l,x,rest,vs,he,_,ha=>by
  simp only[Ty.parse,Uw,UC] at he;obtain⟨_,rfl⟩:=he;exact⟨vs,rfl,ha⟩
 | .pair a b,l,x,rest,vs,he,hs,ha=>by
  simp only[Ty.hasSl,Bool.or_eq_false_iff] at hs;simp only[Ty.parse] at he;split at he
  ·rename_i x1 r1 h1;split at he
   ·rename_i y1 r2 h2;simp only[Uw,UC] at he;obtain⟨rfl,rfl⟩:=he;obtain⟨v2,rfl,h3⟩:=rY h1 hs.1 ha;obtain⟨v3,rfl,h4⟩:=rY h2 hs.2 h3;exact⟨v3,by simp[Ty.vals],h4⟩
   ·cases he
  ·cases he
theorem uQ{t:Ty}{l:List Cell}{x:t.D}{vs:List Value}(he:t.ofCells l=some x)(hs:t.hasSl=false)(ha:ai (av C γ h w) l vs):vs=t.vals x:=by
 unfold Ty.ofCells at he;split at he
 ·rename_i y h1;simp only[Uw] at he;subst he;obtain⟨v2,rfl,h2⟩:=rY h1 hs ha;cases v2 with
  |nil=>simp
  |cons _ _=>exact h2.elim
 ·cases he
theorem EH{t:TypeId}{A:Ty}(hsl:A.hasSl=false)(h1:∃inf,P.info? t=some inf/\inf.size=A.size)(h2:∃d,P.underlying t=some d/\gP d=A.isAgg)(x:A.D)(p r:List Value)(w':World) :
  (part t (p++(A.vals x++r)).toArray p.length).run P w'=.ok (A.val x) w':=by
 obtain⟨inf,hi,hsz⟩:=h1;obtain⟨d,hd,hg⟩:=h2;have hagg:(Go.isAgg t).run P w'=.ok A.isAgg w':=by
  rw[<- hg];simp only[Go.isAgg,UJ,run_underlying hd,Uy];cases d<;>rfl
 have hsize:(Go.sizeOf t).run P w'=.ok A.size w':=by simp[Go.sizeOf,typeInfo,hi,hsz]
 unfold part;rw[UJ,hagg,Uy];cases hA:A.isAgg with
 |true=>
  simp only[if_true,UJ,hsize,Uy,UQ];congr 1;unfold Ty.val;rw[if_pos hA];congr 1;have hl:=ou (t:=A) (x:=x) hsl;rw[List.extract_toArray];congr 1;simp[List.extract,<- hl]
 |false=>
  simp only[Bool.false_eq_true,if_false];have hv:∃v,A.vals x=[v]:=by
   cases A with
   |int k=>exact⟨_,rfl⟩
   |bool=>exact⟨_,rfl⟩
   |str=>exact⟨_,rfl⟩
   |sl t=>simp[Ty.hasSl] at hsl
   |fn=>simp[Ty.hasSl] at hsl
   |nil=>cases hA
   |pair a b=>cases hA
  obtain⟨v,hv⟩:=hv;have:(p++(A.vals x++r)).toArray[p.length]?=some v:=by
   rw[hv];simp
  rw[this];unfold Ty.val;rw[if_neg (by rw[hA];simp),hv];rfl
theorem ry{D:Nat}{rec:TypeId->Ty->Prop}(hrec:∀t A,rec t A->A.hasSl=false->∀(x y:A.D) (w':World),(Op.equalIn D t (A.val x) (A.val y)).run P w'=.ok (A.eqv x y) w') :
  ∀(fs:List Field) (off:Nat) (T:Ty),Dr P rec fs off T->T.hasSl=false->∀(x y:T.D) (p q:List Value),p.length=off->q.length=off->∀w':World,(Op.eqFields D (p++T.vals x).toArray (q++T.vals y).toArray fs).run P w'=.ok (T.eqv x y) w'
 |[],off,.nil,_,_,_,_,_,_,_,_,_=>by simp[Op.eqFields,Ty.eqv,UQ]
 |f::fs,off,.pair A B,h,hsl,x,y,p,q,hp,hq,w'=>by
  simp only[Ty.hasSl,Bool.or_eq_false_iff] at hsl;obtain⟨hn,ho,hr,hi,hd,hrest⟩:=h
  have hn':f.name ≠ "_" := fun e=>by simp[e] at hn
  have ih:=ry hrec fs (off+A.size) B hrest hsl.2 x.2 y.2 (p++A.vals x.1) (q++A.vals y.1) (by rw[UD,hp,ou hsl.1]) (by rw[UD,hq,ou hsl.1]) w';simp only[Op.eqFields,if_pos hn'];have g1:=EH hsl.1 hi hd x.1 p (B.vals x.2) w';have g2:=EH hsl.1 hi hd y.1 q (B.vals y.2) w';rw[hp] at g1;rw[hq] at g2;rw[ho,UJ];simp only[Ty.vals];rw[g1,Uy,UJ,g2,Uy,UJ,hrec _ _ hr hsl.1,Uy];simp only[Ty.eqv];cases hb:A.eqv x.1 y.1 with
  |false=>simp[UQ]
  |true=>
   simp only[Bool.not_true,Bool.false_eq_true,if_false,Bool.true_and];rw[<- UM,<- UM];exact ih
 |[],_,.int _,h,_,_,_,_,_,_,_,_|[],_,.bool,h,_,_,_,_,_,_,_,_|[],_,.str,h,_,_,_,_,_,_,_,_|[],_,.sl _,h,_,_,_,_,_,_,_,_|[],_,.pair _ _,h,_,_,_,_,_,_,_,_=>h.elim
 |_::_,_,.int _,h,_,_,_,_,_,_,_,_|_::_,_,.bool,h,_,_,_,_,_,_,_,_|_::_,_,.str,h,_,_,_,_,_,_,_,_|_::_,_,.sl _,h,_,_,_,_,_,_,_,_|_::_,_,.nil,h,_,_,_,_,_,_,_,_=>h.elim
theorem yO:∀(d:Nat) (t:TypeId) (T:Ty),zR P d t T->T.hasSl=false->∀D,d<=D->∀(x y:T.D) (w':World),(Op.equalIn D t (T.val x) (T.val y)).run P w'=.ok (T.eqv x y) w'
 |0,_,_,h,_,_,_,_,_,_=>h.elim
 |d+1,t,T,h,hsl,D,hD,x,y,w'=>by
  obtain⟨D,rfl⟩:∃D',D=D'+1:=⟨D-1,by omega⟩
  have hrec:∀t A,zR P d t A->A.hasSl=false->∀(x y:A.D) (w':World),(Op.equalIn D t (A.val x) (A.val y)).run P w'=.ok (A.eqv x y) w':=fun t A hA hs x y w'=>yO d t A hA hs D (by omega) x y w'
  cases T with
  |int k=>exact run_equalIn_int w' D t k k x y h
  |bool=>exact run_equalIn_bool' w' D t x y h
  |str=>
   have:=run_equalIn_string w' D t (mkS x) (mkS y) h;rw[fV,fV] at this;refine Eq.trans this ?_;congr 1;show(x == y)=decide (x=y);by_cases e:x=y<;>simp[e]
  |sl t=>exact h.elim
  |fn=>exact h.elim
  |nil=>
   obtain⟨h1,h2,h3⟩:=h;exact(run_equalIn_agg w' D t _ _ h1 h2).trans (ry hrec _ 0 .nil h3 hsl x y [] [] rfl rfl w')
  |pair a b=>
   obtain⟨h1,h2,h3⟩:=h;exact(run_equalIn_agg w' D t _ _ h1 h2).trans (ry hrec _ 0 (.pair a b) h3 hsl x y [] [] rfl rfl w')
theorem uE{te:TypeId->Option TI}(hte:∀t i,te t=some i->aS P t i){t:TypeId}(hh:isBool te t=true):P.underlying t=some .bool:=by
 unfold isBool at hh;split at hh
 ·rename_i ti hti;split at hh
  ·rename_i hty;exact(hte t ti hti).bool hty
  ·cases hh
 ·cases hh
theorem Qt{d:Nat}{t:TypeId}{ms}(h:P.underlying t=some (.interface ms))(w':World):(Op.equalIn (d+1) t .nilIface .nilIface).run P w'=.ok true w':=by
 simp[Op.equalIn,run_underlying h]
theorem NB{d:Nat}{t tt:TypeId}{ms}{v:Value}(h:P.underlying t=some (.interface ms))(w':World):(Op.equalIn (d+1) t (.iface tt v) .nilIface).run P w'=.ok false w':=by
 simp[Op.equalIn,run_underlying h]
theorem FT{d:Nat}{t tt:TypeId}{ms}{v:Value}(h:P.underlying t=some (.interface ms))(w':World):(Op.equalIn (d+1) t .nilIface (.iface tt v)).run P w'=.ok false w':=by
 simp[Op.equalIn,run_underlying h]
theorem NA{d:Nat}{t tt:TypeId}{ms}{k:IntKind}{a b:Int}{inf:TypeInfo}(h:P.underlying t=some (.interface ms))(hi:P.info? tt=some inf)(hc:inf.comparable=true)(hk:P.underlying tt=some (.int k))(w':World) :
  (Op.equalIn (d+1+1) t (.iface tt (.int k a)) (.iface tt (.int k b))).run P w'=.ok (a == b) w':=by
 rw[Op.equalIn];simp only[UJ,run_underlying h,Uy,ne_eq,not_true_eq_false,if_false];simp only[typeInfo,UJ,run_program,Uy,hi,UQ,hc,Bool.not_true,Bool.false_eq_true,if_false];exact run_equalIn_int w' d tt k k a b hk
theorem CY{te:TypeId->Option TI}(hte:∀t i,te t=some i->aS P t i){t:TypeId}(hh:isIface te t=true):∃ms,P.underlying t=some (.interface ms):=by
 unfold isIface at hh;split at hh;·rename_i ti hti;exact(hte _ _ hti).iface hh
 ·cases hh
theorem CU{te:TypeId->Option TI}(hte:∀t i,te t=some i->aS P t i){t:TypeId}{k:IntKind}(hh:qg te t=some k):P.underlying t=some (.int k)/\∃inf,P.info? t=some inf/\inf.comparable=true:=by
 unfold qg at hh;split at hh;·rename_i ti hti;obtain⟨hc,hi⟩:=aa hh;exact⟨(hte _ _ hti).int _ hi,(hte _ _ hti).cmp hc⟩
 ·cases hh
theorem KU{te:TypeId->Option TI}(hte:∀t i,te t=some i->aS P t i){t tt:TypeId}{k:IntKind}{o:Option Int}{m:Int}{x y:Operand}(hX:isIface te t=true)(hk:qg te tt=some k){va:Value}(ha:match o with|none=>va=.nilIface|some n=>va=.iface tt (.int k n))(w':World) :
  (∀op,(eqGuard op t x y va (.iface tt (.int k m))).run P w'=.ok () w')/\(Op.equal t va (.iface tt (.int k m))).run P w'=.ok (decide (o=some m)) w':=by
 obtain⟨ms,hms⟩:=CY hte hX;obtain⟨hu,inf,hi,hc⟩:=CU hte hk;cases o with
 |none=>
  rw[show va=_ from ha];refine⟨fun op=>by cases op<;>rfl,?_⟩;exact(FT (d:=9999) hms w').trans (by simp)
 |some n=>
  rw[show va=_ from ha];refine⟨fun op=>by cases op<;>rfl,?_⟩;refine(NA (d:=9998) hms hi hc hu w').trans ?_;congr 1;by_cases e:n=m<;>simp[e]
theorem Ao{tt:TypeId}{k:IntKind}{o:Option Int}{va:Value}(ha:match o with|none=>va=.nilIface|some n=>va=.iface tt (.int k n)):(o.isNone=true->va=.nilIface)/\(o.isNone=false->∃t x,va=.iface t x):=by
 cases o with
 |none=>exact⟨fun _=>ha,fun e=>by simp at e⟩
 |some n=>exact⟨fun e=>by simp at e,fun _=>⟨_,_,ha⟩⟩
theorem lY{te:TypeId->Option TI}(hte:∀t i,te t=some i->aS P t i){t:TypeId}{x y:Operand}(hh:oK te t y=true){b:Bool}{va:Value}(ha:(b=true->va=.nilIface)/\(b=false->∃t x,va=.iface t x))(w':World) :
  (eqGuard .eql t x y va .nilIface).run P w'=.ok () w'/\(eqGuard .neq t x y va .nilIface).run P w'=.ok () w'/\(Op.equal t va .nilIface).run P w'=.ok b w':=by
 unfold oK at hh;simp only[UB] at hh;obtain⟨hi,hy⟩:=hh;split at hi
 ·rename_i ti hti;obtain⟨ms,hms⟩:=(hte t ti hti).iface hi;cases y with
  |const v=>
   cases b with
   |true=>
    rw[ha.1 rfl];refine⟨?_,?_,Qt (d:=9999) hms w'⟩;·simp[eqGuard]
    ·simp[eqGuard]
   |false=>
    obtain⟨tt,xx,rfl⟩:=ha.2 rfl;refine⟨?_,?_,NB (d:=9999) hms w'⟩;·simp[eqGuard]
    ·simp[eqGuard]
  |_=>cases hy
 ·cases hi
theorem IK{te:TypeId->Option TI}(hte:∀t i,te t=some i->aS P t i){op:BinOp}{t:TypeId}{a b:V1}{K:V1->Option R}{x y:Operand}(he:jI (isBool te t) (oK te t y) (isIface te t) (qg te) (IZ te t) op a b K=some r){va vb:Value}(ha:aM C γ h w a va)(hb:aM C γ h w b vb) :
  ∃c,K c=some r/\fO P (do eqGuard op t x y va vb;binOp op t va vb) C γ h w c:=by
 have fin:∀{va:Value},va.oneCell'=true->va≠.nilIface->(∃c,K c=some r/\fO P (binOp op t va vb) C γ h w c)->∃c,K c=some r/\fO P (do eqGuard op t x y va vb;binOp op t va vb) C γ h w c:=by
  rintro va h1 h2 ⟨c,hc,val,hv,hr⟩;exact⟨c,hc,val,hv,fun w'=>by rw[UJ,CV h1 h2,Uy];exact hr w'⟩
 have agg:∀{xs ys:List Cell}{T:Ty}{K':Bool->Option R}{va vb:Value},IZ te t=some T->oI T xs ys K'=some r->aM C γ h w (.agg xs) va->aM C γ h w (.agg ys) vb ->
   ∃b,K' b=some r/\∃us vs:Array Value,va=.agg us/\vb=.agg vs/\P.eqGuardType P.depth t=false/\∀w',(Op.equalIn 10000 t (.agg us) (.agg vs)).run P w'=.ok b w':=by
  intro xs ys T K' va vb hT he ha hb;obtain⟨us,rfl,hu⟩:=ha;obtain⟨vs,rfl,hv⟩:=hb;unfold IZ at hT;split at hT
  ·rename_i ti hti;obtain⟨h1,h2,h3,h4⟩:=(hte t ti hti).eq T hT;unfold oI at he;split at he
   ·rename_i x y hx hy;have e1:=uQ hx h2 hu;have e2:=uQ hy h2 hv;refine⟨_,he,_,_,rfl,rfl,h4,fun w'=>?_⟩;have:=yO 20 t T h1 h2 10000 (by omega) x y w';unfold Ty.val at this;rw[if_pos h3,if_pos h3] at this;rw[e1,e2];exact this
   ·cases he
  ·cases hT
 unfold jI at he;split at he;·rw[show va=_ from ha];rw[show vb=_ from hb];rw[show vb=_ from hb] at fin;exact fin rfl (by simp) (Cs (.inl rfl) he t)
 ·rw[show va=_ from ha];rw[show vb=_ from hb];rw[show vb=_ from hb] at fin;exact fin rfl (by simp) (Cs (.inr rfl) he t)
 ·rename_i h1 h2;obtain⟨hk,he2⟩:=aa he;subst hk;rw[show va=_ from ha];rw[show vb=_ from hb];rw[show vb=_ from hb] at fin;exact fin rfl (by simp) (II h1 h2 he2 t)
 ·rw[show va=_ from ha];rw[show vb=_ from hb];rw[show vb=_ from hb] at fin;exact fin rfl (by simp) (IM he t)
 ·obtain⟨hB,he⟩:=aa he;rw[show va=_ from ha];rw[show vb=_ from hb];rw[show vb=_ from hb] at fin;exact fin rfl (by simp) ⟨_,he,_,rfl,fun w'=>run_eql_bool w' t _ _ (uE hte hB)⟩
 ·obtain⟨hB,he⟩:=aa he;rw[show va=_ from ha];rw[show vb=_ from hb];rw[show vb=_ from hb] at fin;exact fin rfl (by simp) ⟨_,he,_,rfl,fun w'=>run_neq_bool w' t _ _ (uE hte hB)⟩
 ·obtain⟨hI,he⟩:=aa he;have hvb:vb=.nilIface:=hb.1;subst hvb;exact⟨_,he,_,rfl,fun w'=>by
   have h:=lY (P:=P) (x:=x) hte hI ha.2 w';rw[UJ,h.1,Uy];simp only[binOp,UJ,h.2.2,Uy,UQ]⟩
 ·obtain⟨hI,he⟩:=aa he;have hvb:vb=.nilIface:=hb.1;subst hvb;exact⟨_,he,_,rfl,fun w'=>by
   have h:=lY (P:=P) (x:=x) hte hI ha.2 w';rw[UJ,h.2.1,Uy];simp only[binOp,UJ,h.2.2,Uy,UQ]⟩
 ·rename_i tt k o;obtain⟨hI,he⟩:=aa he;have hvb:vb=.nilIface:=hb.1;subst hvb;exact⟨_,he,_,rfl,fun w'=>by
   have h:=lY (P:=P) (x:=x) hte hI (b:=o.isNone) (va:=va) (Ao ha) w';rw[UJ,h.1,Uy];simp only[binOp,UJ,h.2.2,Uy,UQ]⟩
 ·rename_i tt k o;obtain⟨hI,he⟩:=aa he;have hvb:vb=.nilIface:=hb.1;subst hvb;exact⟨_,he,_,rfl,fun w'=>by
   have h:=lY (P:=P) (x:=x) hte hI (b:=o.isNone) (va:=va) (Ao ha) w';rw[UJ,h.2.1,Uy];simp only[binOp,UJ,h.2.2,Uy,UQ]⟩
 ·rename_i t1 k1 o t2 k2 m;obtain⟨⟨hX,e1,e2,hk⟩,he2⟩:=aa he;subst e1 e2;have hvb:vb=.iface t1 (.int k1 m):=hb;subst hvb;exact⟨_,he2,_,rfl,fun w'=>by
   have h:=KU (P:=P) (x:=x) (y:=y) (m:=m) hte hX hk (va:=va) ha w';rw[UJ,h.1,Uy];cases o with
   |none=>rw[show va=_ from ha] at h⊢;simp only[binOp,UJ,h.2,Uy,UQ]
   |some n=>rw[show va=_ from ha] at h⊢;simp only[binOp,UJ,h.2,Uy,UQ]⟩
 ·rename_i t1 k1 o t2 k2 m;obtain⟨⟨hX,e1,e2,hk⟩,he2⟩:=aa he;subst e1 e2;have hvb:vb=.iface t1 (.int k1 m):=hb;subst hvb;exact⟨_,he2,_,rfl,fun w'=>by
   have h:=KU (P:=P) (x:=x) (y:=y) (m:=m) hte hX hk (va:=va) ha w';rw[UJ,h.1,Uy];cases o with
   |none=>rw[show va=_ from ha] at h⊢;simp only[binOp,UJ,h.2,Uy,UQ]
   |some n=>rw[show va=_ from ha] at h⊢;simp only[binOp,UJ,h.2,Uy,UQ]⟩
 ·split at he
  ·rename_i hT;obtain⟨b,hk,us,vs,rfl,rfl,hg,hrun⟩:=agg hT he ha hb;exact⟨_,hk,_,rfl,fun w'=>by rw[UJ,run_eqGuard_agg w' _ _ _ _ _ _ hg,Uy,run_eql_struct,hrun,Uy]⟩
  ·cases he
 ·split at he
  ·rename_i hT;obtain⟨b,hk,us,vs,rfl,rfl,hg,hrun⟩:=agg hT he ha hb;exact⟨_,hk,_,rfl,fun w'=>by rw[UJ,run_eqGuard_agg w' _ _ _ _ _ _ hg,Uy,run_neq_struct,hrun,Uy]⟩
  ·cases he
 ·cases he
theorem MG{op:UnOp}{a:V1}{K:V1->Option R}(he:unK op a K=some r){va:Value}(ha:aM C γ h w a va):∃c,K c=some r/\fO P (Op.unary op va) C γ h w c:=by
 unfold unK at he;split at he;·rw[show va=_ from ha];exact⟨_,he,_,rfl,fun w'=>by simp[Op.unary]⟩
 ·rw[show va=_ from ha];exact⟨_,he,_,rfl,fun w'=>by simp[Op.unary,Op.intArith]⟩
 ·rw[show va=_ from ha];exact⟨_,he,_,rfl,fun w'=>by simp[Op.unary,Op.intBits,aC]⟩
 ·cases he
def jN(C:Ctx)(γ:Gam)(h:Heap)(w:World):Option V1->Option Value->Prop
 |none,none=>True
 |some x,some v=>aM C γ h w x v
 |_,_=>False
theorem eu{isSlice:Bool}{n cap:Nat}(hn:n<=cap){lo hi mx:Option V1}{vl vh vm:Option Value}(hl:jN C γ h w lo vl)(hh:jN C γ h w hi vh)(hm:jN C γ h w mx vm){K:Nat->Nat->Option R}
  (he:gK n lo hi mx K=some r):∃l hh m,K l hh=some r/\l<=hh/\hh<=n/\hh<=m/\m<=cap/\(mx=none->m=cap)/\(lo=none->l=0)/\∀w',(Instr.sliceBounds isSlice n cap vl vh vm).run P w'=.ok (l,hh,m) w':=by
 unfold gK at he;cases mx with
 |none=>
  cases vm with
  |some _=>exact hm.elim
  |none=>
   cases hi with
   |none=>
    cases vh with
    |some _=>exact hh.elim
    |none=>
     cases lo with
     |none=>
      cases vl with
      |some _=>exact hl.elim
      |none=>exact⟨0,n,cap,he,Nat.zero_le _,Uz _,hn,Uz _,fun _=>rfl,fun _=>rfl,fun w'=>by simp[Instr.sliceBounds]⟩
     |some x=>
      cases vl with
      |none=>exact hl.elim
      |some v=>
       cases x with
       |agg cs=>simp at he
       |c x=>cases x with
        |int k i=>
         obtain⟨hc,he⟩:=aa he;rw[show v=_ from hl];refine⟨i.toNat,n,cap,he,by omega,Uz _,hn,Uz _,fun _=>rfl,(fun e=>by cases e),fun w'=>?_⟩;simp[Instr.sliceBounds,run_sliceBound w' k i n _ hc.1 hc.2]
        |_=>simp at he
   |some x=>
    cases vh with
    |none=>exact hh.elim
    |some vh=>
     cases x with
     |agg cs=>simp at he
     |c x=>cases x with
      |int k j=>
       obtain⟨hc,he⟩:=aa he;rw[show vh=_ from hh];cases lo with
       |none=>
        cases vl with
        |some _=>exact hl.elim
        |none=>
         refine⟨0,j.toNat,cap,he,Nat.zero_le _,by omega,by omega,Uz _,fun _=>rfl,fun _=>rfl,fun w'=>?_⟩;simp[Instr.sliceBounds,run_sliceBound w' k j cap _ hc.1 (by omega)]
       |some x=>
        cases vl with
        |none=>exact hl.elim
        |some v=>
         cases x with
         |agg cs=>simp at he
         |c x=>cases x with
          |int k' i=>
           obtain⟨hc',he⟩:=aa he;rw[show v=_ from hl];refine⟨i.toNat,j.toNat,cap,he,by omega,by omega,by omega,Uz _,fun _=>rfl,(fun e=>by cases e),fun w'=>?_⟩;simp[Instr.sliceBounds,run_sliceBound w' k j cap _ hc.1 (by omega),run_sliceBound w' k' i j.toNat _ hc'.1 (by omega)]
          |_=>simp at he
      |_=>simp at he
 |some x=>
  cases vm with
  |none=>exact hm.elim
  |some vm=>
   cases x with
   |agg cs=>simp at he
   |c x=>cases x with
    |int k m=>
     obtain⟨hcm,he⟩:=aa he;rw[show vm=_ from hm];cases hi with
     |none=>simp at he
     |some x=>
      cases vh with
      |none=>exact hh.elim
      |some vh=>
       cases x with
       |agg cs=>simp at he
       |c x=>cases x with
        |int kh j=>
         obtain⟨hc,he⟩:=aa he;rw[show vh=_ from hh];cases lo with
         |none=>
          cases vl with
          |some _=>exact hl.elim
          |none=>
           refine⟨0,j.toNat,m.toNat,he,Nat.zero_le _,by omega,by omega,by omega,(fun e=>by cases e),fun _=>rfl,fun w'=>?_⟩;simp[Instr.sliceBounds,run_sliceBound w' k m cap _ hcm.1 (by omega),run_sliceBound w' kh j m.toNat _ hc.1 (by omega)]
         |some x=>
          cases vl with
          |none=>exact hl.elim
          |some v=>
           cases x with
           |agg cs=>simp at he
           |c x=>cases x with
            |int k' i=>
             obtain⟨hc',he⟩:=aa he;rw[show v=_ from hl];refine⟨i.toNat,j.toNat,m.toNat,he,by omega,by omega,by omega,by omega,(fun e=>by cases e),(fun e=>by cases e),fun w'=>?_⟩;simp[Instr.sliceBounds,run_sliceBound w' k m cap _ hcm.1 (by omega),run_sliceBound w' kh j m.toNat _ hc.1 (by omega),run_sliceBound w' k' i j.toNat _ hc'.1 (by omega)]
            |_=>simp at he
        |_=>simp at he
    |_=>simp at he
theorem fo{te:TypeId->Option TI}(hte:∀t i,te t=some i->aS P t i){t:TypeId}{n:Nat}(he:fC te t=some n):∃e i,te e=some i/\i.size=n/\P.underlying t=some (.slice e):=by
 unfold fC at he;split at he
 ·rename_i e h1;split at he
  ·rename_i ti h2;simp only[Uw] at he;cases h0:te t with
   |none=>simp[h0] at h1
   |some i0=>
    simp only[h0,Uv] at h1;exact⟨e,ti,h2,he,(hte t i0 h0).elem e h1⟩
  ·cases he
 ·cases he
theorem pJ{te:TypeId->Option TI}(hte:∀t i,te t=some i->aS P t i){t:TypeId}(he:isStr te t=true):P.underlying t=some .string:=by
 unfold isStr at he;split at he;·rename_i ti h;exact(hte t ti h).str he
 ·cases he
theorem GA{t e:TypeId}(h:P.underlying t=some (.slice e)):P.underlying t=some (.slice (P.elem t)):=by
 rw[h];simp[Program.elem,h]
theorem Qs{t e:TypeId}(h:P.underlying t=some (.slice e)):P.elem t=e:=by simp[Program.elem,h]
end
end Rv
namespace Rv
open Go
section
variable{P:Program}{C:Ctx}{γ:Gam}{h:Heap}{w:World}{R:Type}{r:R}
def yC(P:Program)(s:Sem Value)(C:Ctx)(γ:Gam)(h:Heap)(w:World)(x:V1):Prop:=∃val,aM C γ h w x val/\∀w',Ext w w'->s.run P w'=.ok val w'
theorem fO.ext{s:Sem Value}{x:V1}(hf:fO P s C γ h w x):yC P s C γ h w x:=let ⟨v,h1,h2⟩:=hf;⟨v,h1,fun w' _=>h2 w'⟩
theorem ql{α:Type}{l:List α}{i:Nat}(d:α)(hi:i<l.length):l[i]?=some (l.getD i d):=by
 grind
theorem uL{t:TypeId}{ti:TI}(hi:aS P t ti){t':Ty}{x:t'.D}{ds:List Value}{g p off:Nat}(hrd:Rd w (okb C γ h none) t' x ds)(hcell:∀j u,ds[j]?=some u->w.cell? ⟨g,p+j,none⟩=some u)
  (hle:off+ti.size<=t'.size) {y:V1} (hm:mkV ti.agg (((t'.cells none x).drop off).take ti.size)=some y):yC P (Instr.loadAt t (.pointer (some ⟨g,p+off,none⟩))) C γ h w y:=by
 have ha:=hrd.cells;have hl:=hrd.length;have hds:((ds.drop off).take ti.size).length=ti.size:=by simp;omega
 have hc:∀j u,((ds.drop off).take ti.size)[j]?=some u->w.cell? ⟨g,(p+off)+j,none⟩=some u:=fun j u e=>by
  grind
 obtain⟨val,h1,h2,h3⟩:=rM hi hds hc ((ha.drop off).take ti.size) hm;exact⟨val,h2,fun w' hw=>by
  simp only[Instr.loadAt,Instr.sureAddr,UJ,UQ,Uy];exact h3 w' fun j u e=>hw.cell (hc j u e)⟩
theorem uD{k:IntKind}:∀{cs:List Cell}{l:List Int}{vs:List Value},jO k cs=some l->ai (av C γ h w) cs vs->vs=l.map (Value.int k)
 |[],l,vs,he,ha=>by
  simp only[jO,Uw] at he;subst he;cases vs with
  |nil=>rfl
  |cons _ _=>exact ha.elim
 |c::cs,l,vs,he,ha=>by
  cases c with
  |int j n=>
   simp only[jO] at he;obtain⟨hj,he⟩:=aa he;split at he
   ·rename_i l' hl;simp only[Uw] at he;subst he;cases vs with
    |nil=>exact ha.elim
    |cons v vs=>
     rw[UO,<- uD hl ha.2,show v=_ from ha.1,hj]
   ·cases he
  |_=>cases he
theorem vL:∀{cs:List Cell}{l:List Str}{vs:List Value},strsOf cs=some l->ai (av C γ h w) cs vs->vs=l.map fun s=>Value.string (mkS s)
 |[],l,vs,he,ha=>by
  simp only[strsOf,Uw] at he;subst he;cases vs with
  |nil=>rfl
  |cons _ _=>exact ha.elim
 |c::cs,l,vs,he,ha=>by
  cases c with
  |str s=>
   simp only[strsOf] at he;split at he
   ·rename_i l' hl;simp only[Uw] at he;subst he;cases vs with
    |nil=>exact ha.elim
    |cons v vs=>
     rw[UO,<- vL hl ha.2,show v=_ from ha.1]
   ·cases he
  |_=>cases he
theorem tq:∀{cs:List Cell}{l:List Bool}{vs:List Value},qc cs=some l->ai (av C γ h w) cs vs->vs=l.map fun s=>Value.bool s
 |[],l,vs,he,ha=>by
  simp only[qc,Uw] at he;subst he;cases vs with
  |nil=>rfl
  |cons _ _=>exact ha.elim
 |c::cs,l,vs,he,ha=>by
  cases c with
  |bool s=>
   simp only[qc] at he;split at he
   ·rename_i l' hl;simp only[Uw] at he;subst he;cases vs with
    |nil=>exact ha.elim
    |cons v vs=>
     rw[UO,<- tq hl ha.2,show v=_ from ha.1]
   ·cases he
  |_=>cases he
theorem wM{cs:List Cell}{i:Nat}{c:Cell}{vs:List Value}(he:Db cs i=some c)(ha:ai (av C γ h w) cs vs)(hi:i<cs.length):∃v,vs[i]?=some v/\av C γ h w c v:=by
 have hl:=ha.length;unfold Db at he;split at he
 ·split at he
  ·rename_i l hl';simp only[Uw] at he;subst he;have:=uD hl' ha;simp_all [av]
  ·cases he
 ·split at he
  ·rename_i l hl';simp only[Uw] at he;subst he;have:=vL hl' ha;simp_all [av]
  ·cases he
 ·split at he
  ·rename_i l hl';simp only[Uw] at he;subst he;have:=tq hl' ha;simp_all [av]
  ·cases he
 ·cases he
theorem ug{te:TypeId->Option TI}(hte:∀t i,te t=some i->aS P t i){t:TypeId}{n:Nat}(he:qa te t=some n):∃e,P.underlying t=some (.array n e)/\(∀w,(Go.sizeOf e).run P w=.ok 1 w)/\∀w,(Go.isAgg e).run P w=.ok false w:=by
 unfold qa at he;split at he
 ·rename_i ti hti;split at he
  ·rename_i m hm;split at he
   ·rename_i hs;simp only[Uw] at he;subst he;obtain⟨h0,e,h1,h2,h3⟩:=(hte _ _ hti).arr m hm;simp_all
   ·cases he
  ·cases he
 ·cases he
theorem DZ{te:TypeId->Option TI}(hte:∀t i,te t=some i->aS P t i){t:TypeId}{n s:Nat}(he:yM te t=some (n,s)):∃e,P.underlying t=some (.array n e)/\∀w,(Go.sizeOf e).run P w=.ok s w:=by
 unfold yM at he;split at he
 ·rename_i ti hti;split at he
  ·rename_i m hm;simp only[Uw,UC] at he;obtain⟨rfl,rfl⟩:=he;obtain⟨_,e,h1,h2,_⟩:=(hte _ _ hti).arr m hm
   grind
  ·cases he
 ·cases he
theorem wW{te:TypeId->Option TI}(hte:∀t i,te t=some i->aS P t i){st:St}(I:Inv C γ st.h w){t:TypeId}{x:V1}{K:V1->Option R}(he:dW te st t x K=some r){v:Value}(hv:aM C γ st.h w x v) :
  ∃y,K y=some r/\yC P (Instr.loadAt t v) C γ st.h w y:=by
 unfold dW at he;split at he
 ·rename_i k kv off ti hti;have hi:=hte _ _ hti;split at he
  ·rename_i l hat
   obtain⟨e,hk,hve,hbox⟩:=aK hat
   obtain⟨g,c,hγ,rfl⟩:=hv.2.get hk hve l hbox;obtain⟨hle,he⟩:=aa he;obtain⟨y,hm,he⟩:=ae he;have hb0:=I.box k _ hk;rw[hbox] at hb0;obtain⟨g',vs,U,hγ',hb,ha⟩:=hb0;rw[hγ] at hγ';simp only[Uw,UC] at hγ';obtain⟨rfl,rfl⟩:=hγ';have hlen:=ha.length;have hds:((vs.toList.drop off).take ti.size).length=ti.size:=by grind
   have hc:∀j u,((vs.toList.drop off).take ti.size)[j]?=some u->w.cell? ⟨g,off+j,none⟩=some u:=fun j u e=>by
    grind [cell_of_row]
   obtain⟨val,h1,h2,h3⟩:=rM hi hds hc ((ha.drop off).take ti.size) hm;exact⟨y,he,val,h2,fun w' hw=>by
    simp only[Instr.loadAt,Instr.sureAddr,UJ,UQ,Uy];exact h3 w' fun j u e=>hw.cell (hc j u e)⟩
  ·cases he
 ·rename_i k kv i off ti hti;have hi:=hte _ _ hti;split at he
  ·rename_i a t' xs hat
   obtain⟨e,hk,hve,hbox⟩:=aK hat
   obtain⟨hlt,g,c,hγ,rfl⟩:=hv.2.get hk hve xs.length (by rw[hbox];rfl);obtain⟨hle,he⟩:=aa he;obtain⟨y,hm,he⟩:=ae he;have hb0:=I.box k _ hk;rw[hbox] at hb0;rcases hb0 with⟨h0,_⟩|⟨g',c',cur,hγ',hb,hxc,hcm,hcs,hsz,hr⟩;·grind
   ·rw[hγ] at hγ';simp only[Uw,UC] at hγ';obtain⟨rfl,rfl⟩:=hγ';rw[hbox];refine⟨y,he,uL hi (hr i _ (ql t'.dflt hlt)) (fun j u e=>?_) hle hm⟩
    grind [cell_of_row,Box.tsize]
  ·rename_i t' xs hat
   obtain⟨e,hk,hve,hbox⟩:=aK hat
   obtain⟨hlt,g,c,hγ,rfl⟩:=hv.2.get hk hve xs.length (by rw[hbox];rfl);obtain⟨hle,he⟩:=aa he;obtain⟨y,hm,he⟩:=ae he;have hb0:=I.box k _ hk;rw[hbox] at hb0;obtain⟨u,h1,A,cc,hA,_,hx⟩:=hb0;rw[hγ] at h1;rw[show u=_ from h1] at hA;simp only[List.cons.injEq,Value.slice.injEq,and_true,true_and] at hA;obtain⟨rfl,rfl⟩:=hA;obtain⟨g',o,ds,hA',ho,hgs,hd,hcell⟩:=hx i _ (ql t'.dflt hlt);simp only[Uw,Addr.mk.injEq,and_true] at hA';obtain⟨rfl,rfl⟩:=hA';rw[hbox];exact⟨y,he,uL hi hd (fun j u e=>by grind [Box.tsize]) hle hm⟩
  ·cases he
 ·rename_i k kv base n i ti hti;have hi:=hte _ _ hti;split at he
  ·rename_i l hat
   obtain⟨e,hk,hve,hbox⟩:=aK hat
   obtain⟨hlt,g,c,hγ,rfl⟩:=hv.2.get hk hve l hbox;obtain⟨⟨hle,hs1,hag⟩,he⟩:=aa he;obtain⟨cl,hm,he⟩:=ae he;have hb0:=I.box k _ hk;rw[hbox] at hb0;obtain⟨g',vs,U,hγ',hb,ha⟩:=hb0;rw[hγ] at hγ';simp only[Uw,UC] at hγ';obtain⟨rfl,rfl⟩:=hγ';obtain⟨u,hu,hr⟩:=wM hm ((ha.drop base).take n) (by simp;omega);have hu':vs.toList[base+i]?=some u:=by
    grind
   have hc:w.cell? ⟨g,base+i,none⟩=some u:=by
    grind [cell_of_row]
   have hcs:∀j u',[u][j]?=some u'->w.cell? ⟨g,base+i+j,none⟩=some u':=fun j u' ej=>by
    grind
   obtain⟨val,h1,h2,h3⟩:=rM hi (ds:=[u]) (by rw[hs1];rfl) hcs (cs:=[cl]) ⟨hr,trivial⟩ (x:=.c cl) (by rw[hag];rfl);exact⟨_,he,val,h2,fun w' hw=>by
    simp only[Instr.loadAt,Instr.sureAddr,UJ,UQ,Uy];exact h3 w' fun j u e=>hw.cell (hcs j u e)⟩
  ·cases he
 ·rename_i d t' xs i off ti hti;have hi:=hte _ _ hti;obtain⟨hd,he⟩:=aa he;obtain⟨g,p,x,ds,rfl,hx,ho,hg,hrd,hcell⟩:=hv.2.get hd;obtain⟨hle,he⟩:=aa he;obtain⟨y,hm,he⟩:=ae he;have hlt:i<xs.length:=(UI.1 hx).1;have hxx:x=xs.getD i t'.dflt:=by grind
  subst hxx;exact⟨y,he,uL hi hrd hcell hle hm⟩
 ·cases he
theorem yS{t:TypeId}{i:TI}(hi:aS P t i){f:Nat}{fd:Nat×Nat×Bool}(he:i.fields[f]?=some fd):∃(fs:Array Field) (q:Field),P.underlying t=some (.struct fs)/\fs[f]?=some q/\q.offset=fd.1/\0<fd.2.1 /\
  (∃inf,P.info? q.type=some inf/\inf.size=fd.2.1)/\∃d,P.underlying q.type=some d/\gP d=fd.2.2:=by
 rcases hi.fields with h0|⟨fs,h1,h2⟩;·grind
 ·obtain⟨q,hq,h3,h4,h5,h6⟩:=h2.get he
  grind
theorem pE{t:TypeId}{i:TI}(hi:aS P t i){f:Nat}{fd:Nat×Nat×Bool}(he:i.fields[f]?=some fd)(g o:Nat)(w':World):(Instr.fieldAt t (.pointer (some ⟨g,o,none⟩)) f).run P w'=.ok (.pointer (some ⟨g,o+fd.1,none⟩)) w':=by
 obtain⟨fs,q,h1,h2,h3,h4,⟨inf,h5,h6⟩,_⟩:=yS hi he;have hs:(Go.sizeOf q.type).run P w'=.ok fd.2.1 w':=by simp[Go.sizeOf,typeInfo,h5,h6]
 have hne:¬fd.2.1=0:=by omega
 simp_all [Instr.fieldAt,run_underlying,Instr.sureAddr,fieldPlace,iG]
theorem KM{t:TypeId}{i:TI}(hi:aS P t i){f:Nat}{fd:Nat×Nat×Bool}(he:i.fields[f]?=some fd){cs:List Cell}{v:Value}(hv:aM C γ h w (.agg cs) v)(hle:fd.1+fd.2.1<=cs.length){x:V1}
  (hm:mkV fd.2.2 ((cs.drop fd.1).take fd.2.1)=some x):fO P (Instr.field t v f) C γ h w x:=by
 obtain⟨fs,q,h1,h2,h3,h4,h5,h6⟩:=yS hi he;obtain⟨vs,rfl,ha⟩:=hv;obtain⟨val,_,hr,hall⟩:=OM h5 h6 ha hle hm w;exact⟨val,hr,fun w'=>by simp_all [Instr.field,run_underlying,asAgg]⟩
theorem lU{t e:TypeId}{n:Nat}(hu:P.underlying t=some (.slice e))(hs:∀w',(Go.sizeOf e).run P w'=.ok n w')(g o len cap:Nat)(k:IntKind)(i:Int)(h0:0<=i)(h1:i<len)(w':World) :
  (Instr.indexAt t (.slice (some ⟨g,o,none⟩) len cap) (.int k i)).run P w'=.ok (.pointer (some ⟨g,o+i.toNat*n,none⟩)) w':=by
 simp[Instr.indexAt,asIntOf,run_underlying hu,h0,h1,hs,iG]
theorem eZ{k v n:Nat}{t:Ty}(hr:rowLen h k v=some (t,n)):∃e,h k=some e/\e.ver=v/\e.box.len=some n/\e.box.tsize=t.size:=by
 unfold rowLen at hr;split at hr
 ·rename_i a t' xs hat
  obtain⟨e,hk,hve,hbox⟩:=aK hat
  simp only[Uw,UC] at hr;obtain⟨rfl,rfl⟩:=hr;exact⟨e,hk,hve,by rw[hbox];rfl,by rw[hbox];rfl⟩
 ·rename_i t' xs hat
  obtain⟨e,hk,hve,hbox⟩:=aK hat
  simp only[Uw,UC] at hr;obtain⟨rfl,rfl⟩:=hr;exact⟨e,hk,hve,by rw[hbox];rfl,by rw[hbox];rfl⟩
 ·cases hr
theorem aY{k v:Nat}{e:En}(hk:h k=some e)(hv:e.ver=v){p:En->Prop}(hp:p e):Now h k v p:=⟨e,hk,by omega,fun _=>hp⟩
theorem F3{te:TypeId->Option TI}(hte:∀t i,te t=some i->aS P t i){st:St}(I:Inv C γ st.h w){t:TypeId}{x:V1}{K:V->Option R}(he:kK te st t x K=some r){v:Value}(hv:aM C γ st.h w x v) :
  ∃y val,K y=some r/\bv C γ st.h w y val/\∀w',Ext w w'->(Instr.loadAt t v).run P w'=.ok val w':=by
 unfold kK at he;split at he
 ·rename_i k kv f;split at he
  ·rename_i ti l hti hat
   obtain⟨⟨h1,h2,h3⟩,he⟩:=aa he;obtain⟨en,hk,hve,hbox⟩:=aK hat
   obtain⟨b,c,g,j,hγ,hvv,hcl⟩:=hv.2.get hk hve l hbox;have hm:mkV ti.agg [.raw (.func (.func f) #[] #[.pointer (some ⟨b,0,none⟩)])]=some (.c (.raw (.func (.func f) #[] #[.pointer (some ⟨b,0,none⟩)]))):=by rw[h2];rfl
   obtain⟨val,g1,g2,g3⟩:=rM (C:=C) (γ:=γ) (h:=st.h) (w:=w) (hte _ _ hti) (ds:=[.func (.func f) #[] #[.pointer (some ⟨b,0,none⟩)]]) (g:=g) (off:=j) (by simp[h1]) (fun m u e=>by
    cases m with
    |zero=>simp only[U0,Uw] at e;subst e;exact hcl.2.2
    |succ m=>simp at e) (show ai (av C γ st.h w) [.raw _] _ from⟨⟨rfl,rfl⟩,trivial⟩) hm
   refine⟨_,val,he,⟨[.pointer (some ⟨b,0,none⟩)],g2.1.trans (nK h3 _).symm,⟨rfl,aY hk hve fun l' hl'=>⟨b,c,hγ,rfl⟩⟩,trivial⟩,fun w' hw=>?_⟩;rw[hvv];simp only[Instr.loadAt,Instr.sureAddr,UJ,UQ,Uy];refine g3 w' fun m u e=>hw.cell ?_
   cases m with
   |zero=>simp only[U0,Uw] at e;subst e;exact hcl.2.2
   |succ m=>simp at e
  ·cases he
 ·obtain⟨y,h1,val,h2,h3⟩:=wW hte I he hv;exact⟨.v y,val,h1,h2,h3⟩
theorem xJ{te:TypeId->Option TI}(hte:∀t i,te t=some i->aS P t i){st:St}{t:TypeId}{x i:V1}{K:V1->Option R}(he:aV st (fC te t) (qa te t) (yM te t) x i K=some r){v vi:Value}(hv:aM C γ st.h w x v)(hvi:aM C γ st.h w i vi) :
  ∃y,K y=some r/\fO P (Instr.indexAt t v vi) C γ st.h w y:=by
 unfold aV at he;split at he
 ·rename_i d t' xs k i;obtain⟨hd,he⟩:=aa he;obtain⟨hes,he⟩:=aa he;obtain⟨hc,he⟩:=aa he;obtain⟨e,ti,h1,h2,h3⟩:=fo hte hes;rw[show vi=_ from hvi];obtain⟨A,c,hA,hle,hx⟩:=hv.2.get hd;have hlt:i.toNat<xs.length:=by omega
  obtain⟨g,o,ds,rfl,ho,hg,hrd,hcell⟩:=hx _ _ (ql t'.dflt hlt);rw[hA];refine⟨_,he,.pointer (some ⟨g,o+i.toNat*t'.size,none⟩),⟨rfl,eO.mk hd ⟨g,o+i.toNat*t'.size,_,ds,rfl,ql t'.dflt hlt,ho,hg,hrd,hcell⟩⟩,fun w'=>?_⟩;exact lU h3 (fun w'=>by rw[<- h2];exact(hte _ _ h1).sizeOf w') g o _ c k i hc.1 (by omega) w'
 ·rename_i kk kv k i;split at he
  ·rename_i t' n hrl;obtain⟨en,hk,hve,hlen,hts⟩:=eZ hrl;obtain⟨hes,he⟩:=aa he;obtain⟨hc,he⟩:=aa he;obtain⟨e,ti,h1,h2,h3⟩:=fo hte hes;rw[show vi=_ from hvi];have hown:=hv.2.get hk hve n hlen;cases hγ:γ kk with
   |none=>rw[hγ] at hown;have:=hown.1;omega
   |some p=>
    obtain⟨g,c⟩:=p;rw[hγ] at hown;rw[show v=_ from hown];refine⟨_,he,.pointer (some ⟨g,0+i.toNat*t'.size,none⟩),⟨rfl,aY hk hve fun n' hn'=>?_⟩,fun w'=>?_⟩;·grind
    ·exact lU h3 (fun w'=>by rw[<- h2];exact(hte _ _ h1).sizeOf w') g 0 _ c k i hc.1 (by omega) w'
  ·cases he
 ·rename_i kk kv m k i;split at he
  ·rename_i t' n hrl;obtain⟨en,hk,hve,hlen,hts⟩:=eZ hrl;obtain⟨hes,he⟩:=aa he;obtain⟨hc,he⟩:=aa he;obtain⟨e,ti,h1,h2,h3⟩:=fo hte hes;rw[show vi=_ from hvi];obtain⟨hmn,hown⟩:=hv.2.get hk hve n hlen;cases hγ:γ kk with
   |none=>rw[hγ] at hown;have:=hown.1;omega
   |some p=>
    obtain⟨g,c⟩:=p;rw[hγ] at hown;rw[show v=_ from hown];refine⟨_,he,.pointer (some ⟨g,0+i.toNat*t'.size,none⟩),⟨rfl,aY hk hve fun n' hn'=>?_⟩,fun w'=>?_⟩;·grind
    ·exact lU h3 (fun w'=>by rw[<- h2];exact(hte _ _ h1).sizeOf w') g 0 _ c k i hc.1 (by omega) w'
  ·cases he
 ·rename_i kk kv fs k i;obtain⟨hes,he⟩:=aa he;split at he
  ·rename_i l hat
   obtain⟨m,f,hm,hi,he',_⟩:=uW he;obtain⟨e,ti,h1,h2,h3⟩:=fo hte hes;rw[Nat.zero_add] at hi;subst hi;obtain⟨en,hk,hve,hbox⟩:=aK hat
   obtain⟨b,c,g,hγ,hvv,hcl⟩:=hv.2.get hk hve l hbox;rw[show vi=_ from hvi,hvv];have hlt:m<fs.length:=(UI.1 hm).1;refine⟨_,he',.pointer (some ⟨g,0+m*1,none⟩),⟨rfl,aY hk hve fun l' hl'=>⟨b,c,g,m,hγ,by simp,hcl m f hm⟩⟩,fun w'=>?_⟩;exact lU h3 (fun w'=>by rw[<- h2];exact(hte _ _ h1).sizeOf w') g 0 _ _ k m (by omega) (by omega) w'
  ·cases he
 ·rename_i kk kv off k i;split at he
  ·rename_i n l har hat
   obtain⟨hc,he⟩:=aa he;obtain⟨e,hu,hsz,_⟩:=ug hte har;obtain⟨en,hk,hve,hbox⟩:=aK hat
   obtain⟨g,c,hγ,hvv⟩:=hv.2.get hk hve l hbox;rw[show vi=_ from hvi];refine⟨_,he,.pointer (some ⟨g,off+i.toNat,none⟩),⟨rfl,aY hk hve fun l' hl'=>⟨by omega,g,c,hγ,rfl⟩⟩,fun w'=>?_⟩;rw[hvv];simp[Instr.indexAt,asIntOf,run_underlying hu,Instr.sureAddr,hc.1,hc.2,hsz,iG]
  ·rename_i l har hat
   split at he
   ·rename_i n s hel;obtain⟨m,_,hm,hi,he',_⟩:=si he;obtain⟨e,hu,hsz⟩:=DZ hte hel;obtain⟨en,hk,hve,hbox⟩:=aK hat
    obtain⟨g,c,hγ,hvv⟩:=hv.2.get hk hve l hbox;rw[show vi=_ from hvi];subst hi;refine⟨_,he',.pointer (some ⟨g,off+m*s,none⟩),⟨rfl,aY hk hve fun l' hl'=>⟨g,c,hγ,rfl⟩⟩,fun w'=>?_⟩;rw[hvv];have h0:(0:Int)<=(m:Int):=by omega
    have h1:(m:Int)<(n:Int):=by omega
    have h2:¬n<=m:=by omega
    simp[Instr.indexAt,asIntOf,run_underlying hu,Instr.sureAddr,h0,h1,h2,hsz,iG]
   ·cases he
  ·cases he
 ·cases he
theorem Eg{te:TypeId->Option TI}(hte:∀t i,te t=some i->aS P t i){t:TypeId}{x i:V1}{K:V1->Option R}(he:mg (isStr te t) (qa te t) x i K=some r){v vi:Value}(hv:aM C γ h w x v)(hvi:aM C γ h w i vi) :
  ∃y,K y=some r/\fO P (Instr.index t v vi) C γ h w y:=by
 unfold mg at he;split at he
 ·rename_i s k i;obtain⟨hs,he⟩:=aa he;obtain⟨hc,he⟩:=aa he;rw[show v=_ from hv,show vi=_ from hvi];refine⟨_,he,_,rfl,fun w'=>?_⟩;rw[run_index_string (P:=P) w' t (mkS s) k i (pJ hte hs),dif_pos (by simpa[rR] using hc)];have:((mkS s)[i.toNat]'(by simp[rR];omega))=s.getD i.toNat 0:=by
   have hlt:i.toNat<s.length:=by omega
   simp[List.getD,hlt];rfl
  rw[this];rfl
 ·rename_i cs k i;split at he
  ·rename_i n har;obtain⟨hl,he⟩:=aa he;obtain⟨hc,he⟩:=aa he;obtain⟨c,hm,he⟩:=ae he;obtain⟨e,hu,hsz,hag⟩:=ug hte har;obtain⟨us,rfl,ha⟩:=hv;obtain⟨u,hu',hr⟩:=wM hm ha (by omega);rw[show vi=_ from hvi];refine⟨_,he,u,hr,fun w'=>?_⟩;simp_all [Instr.index,asIntOf,run_underlying,part]
  ·cases he
 ·cases he
theorem Ji{te:TypeId->Option TI}(hte:∀t i,te t=some i->aS P t i){st:St}{t ty:TypeId}{x:V1}{K:Nat->Option R}(he:gU st (isStr te t) (fC te t) x K=some r){v:Value}(hv:aM C γ st.h w x v) :
  ∃n,K n=some r/\∀w',(Builtin.len_ #[t] ty #[v]).run P w'=.ok (.int .i64 n) w':=by
 have sl:∀(a:Option Addr) (n c:Nat),(fC te t).isSome=true->∀w',(Builtin.len_ #[t] ty #[.slice a n c]).run P w'=.ok (.int .i64 n) w':=by
  intro a n c hs w';obtain⟨m,hm⟩:=Vn.1 hs;obtain⟨e,ti,h1,h2,h3⟩:=fo hte hm;simp[Builtin.len_,run_underlying h3,goInt]
 unfold gU at he;split at he;·rename_i s;obtain⟨hs,he⟩:=aa he;rw[show v=_ from hv];exact⟨_,he,fun w'=>by simp[Builtin.len_,run_underlying (pJ hte hs),goInt,rR]⟩
 ·obtain⟨hd,he⟩:=aa he;obtain⟨hs,he⟩:=aa he;obtain⟨A,c,hA,_⟩:=hv.2.get hd
  grind
 ·obtain⟨hs,he⟩:=aa he;rw[show v=_ from hv]
  grind
 ·obtain⟨hd,he⟩:=aa he;obtain⟨hs,he⟩:=aa he;obtain⟨_,A,hA⟩:=hv.2.get hd
  grind
 ·split at he
  ·rename_i l hat
   obtain⟨hs,he⟩:=aa he;obtain⟨en,hk,hve,hbox⟩:=aK hat
   obtain⟨b,c,g,hγ,hvv,hcl⟩:=hv.2.get hk hve l hbox
   grind
  ·cases he
 ·rename_i k kv;split at he
  ·rename_i t' n hrl;obtain⟨en,hk,hve,hlen,hts⟩:=eZ hrl;obtain⟨hs,he⟩:=aa he;have hown:=hv.2.get hk hve n hlen;cases hγ:γ k with
   |none=>rw[hγ] at hown;rw[hown.2];rw[hown.1] at he;grind
   |some p=>rw[hγ] at hown;rw[show v=_ from hown];grind
  ·cases he
 ·rename_i k kv n;split at he
  ·rename_i x hrl;obtain⟨t',m⟩:=x;obtain⟨en,hk,hve,hlen,hts⟩:=eZ hrl;obtain⟨hs,he⟩:=aa he;have hown:=(hv.2.get hk hve m hlen).2;cases hγ:γ k with
   |none=>rw[hγ] at hown;rw[hown.2];rw[hown.1] at he;grind
   |some p=>rw[hγ] at hown;rw[show v=_ from hown];grind
  ·cases he
 ·cases he
theorem RdS.sub{d:Dep}{t:Ty}{xs:List t.D}{A:Option Addr}{n c:Nat}(hr:RdS C γ h w d t xs (.slice A n c)){l hh m:Nat}(hl:l<=hh)(hn:hh<=xs.length)(hm:hh<=m) :
  RdS C γ h w d t ((xs.take hh).drop l) (sliced A l hh m t.size):=by
 obtain⟨A',c',hA,hle,hx⟩:=hr;simp only[Value.slice.injEq] at hA;obtain⟨rfl,rfl,rfl⟩:=hA;have hlen:((xs.take hh).drop l).length=hh-l:=by simp;omega
 refine⟨if m=l then A else A.map (·.add (l*t.size)),m-l,by rw[hlen];rfl,by grind,fun i x hi=>?_⟩;rw[Va,UZ] at hi;split at hi
 ·obtain⟨g,o,ds,rfl,ho,hg,hd,hc⟩:=hx _ _ hi;refine⟨g,o+l*t.size,ds,?_,ho,hg,hd,fun j v e=>?_⟩
  ·rw[if_neg (by omega)];simp[iG]
  grind
 ·cases hi
theorem jm{te:TypeId->Option TI}(hte:∀t i,te t=some i->aS P t i){t:TypeId}{es:Nat}(hes:fC te t=some es){lo hi mx:Option Value}{A:Option Addr}{n c l hh m:Nat}(hb:∀w',(Instr.sliceBounds true n c lo hi mx).run P w'=.ok (l,hh,m) w')(w':World) :
  (Instr.sliceAt t (.slice A n c) lo hi mx).run P w'=.ok (sliced A l hh m es) w':=by
 obtain⟨e,ti,h1,h2,h3⟩:=fo hte hes;rw[run_sliceAt_slice w' t _ lo hi mx (GA h3),run_slice_any w' t A n c (GA h3),hb w'];simp only[Uy,Qs h3,(hte _ _ h1).sizeOf w',h2]
theorem zq{k:Nat}{A:Option Addr}{n c m hh es:Nat}(ho:d9 (γ k) n (.slice A n c))(hle:hh<=n)(hm:m=c):d9 (γ k) hh (sliced A 0 hh m es):=by
 subst hm;cases hγ:γ k with
 |none=>
  rw[hγ] at ho;obtain⟨h0,hv⟩:=ho;simp only[Value.slice.injEq] at hv;obtain⟨rfl,_,rfl⟩:=hv;have:hh=0:=by omega
  subst this;exact⟨rfl,by simp[sliced]⟩
 |some p=>
  simp_all [d9,sliced,iG]
theorem uU{k n:Nat}{v:Value}(ho:d9 (γ k) n v):∃A c,v=.slice A n c:=by
 cases hγ:γ k with
 |none=>rw[hγ] at ho;obtain⟨rfl,rfl⟩:=ho;grind
 |some p=>obtain⟨g,c⟩:=p;rw[hγ] at ho;exact⟨_,c,ho⟩
theorem xz{c:Cell}{rr:(t:Ty)×List t.D}(hr:rowOf h c=some rr):h.depOk (fI h c)=true:=by
 cases c with
 |sl d t xs=>
  simp only[rowOf] at hr;split at hr;·assumption
  ·cases hr
 |own k v=>
  grind [rowOf,aK,fI,Heap.depOk]
 |ownP k v n=>
  grind [rowOf,aK,fI,Heap.depOk]
 |_=>simp[rowOf] at hr
theorem L9{k v n:Nat}{t:Ty}{rr:(t:Ty)×List t.D}(hl:rowLen h k v=some (t,n))(hr:rowOf h (.own k v)=some rr):rr.1=t/\rr.2.length=n:=by
 grind [rowLen,rowOf]
theorem JG{k v n m:Nat}{t:Ty}{rr:(t:Ty)×List t.D}(hl:rowLen h k v=some (t,n))(hr:rowOf h (.ownP k v m)=some rr)(hle:m<=n):rr.1=t/\rr.2.length=m:=by
 unfold rowLen at hl;simp only[rowOf] at hr
 grind
theorem vH{te:TypeId->Option TI}(hte:∀t i,te t=some i->aS P t i){st:St}(I:Inv C γ st.h w){t:TypeId}{x:V1}{lo hi mx:Option V1}{K:V1->Option R}(he:aZ st (isStr te t) (fC te t) x lo hi mx K=some r){v:Value}{vl vh vm:Option Value}
  (hv:aM C γ st.h w x v) (hl:jN C γ st.h w lo vl) (hh:jN C γ st.h w hi vh) (hm:jN C γ st.h w mx vm) :
  ∃y,K y=some r/\fO P (Instr.sliceAt t v vl vh vm) C γ st.h w y:=by
 unfold aZ at he;split at he
 ·rename_i s;split at he
  ·cases vm with
   |some _=>exact hm.elim
   |none=>
    obtain⟨hs,he⟩:=aa he;rw[show v=_ from hv];have hu:=pJ hte hs;obtain⟨l,e,m,he,hle,hn,_,_,_,_,hb⟩:=eu (P:=P) (isSlice:=false) (Uz s.length) hl hh (mx:=none) (vm:=none) trivial he;refine⟨_,he,_,rfl,fun w'=>?_⟩;have hb:=hb w';rw[run_sliceAt_string w' t _ vl vh none hu];simp only[Instr.slice,UJ,run_underlying hu,Uy,rR,hb,Option.isSome_none,Bool.false_eq_true,if_false,UQ,F8]
  ·cases he
 ·obtain⟨hes,he⟩:=aa he;obtain⟨es,hes⟩:=Vn.1 hes;rw[show v=_ from hv];obtain⟨l,e,m,he,h1,h2,h3,h4,_,_,hb⟩:=eu (P:=P) (isSlice:=true) (Uz 0) hl hh hm he;have e1:e=0:=by omega
  have e2:l=0:=by omega
  have e3:m=0:=by omega
  subst e1;subst e2;subst e3;exact⟨_,he,_,rfl,fun w'=>jm hte hes hb w'⟩
 ·rename_i k kv;split at he
  ·rename_i t' n hrl;obtain⟨en,hk,hve,hlen,hts⟩:=eZ hrl;obtain⟨hes,he⟩:=aa he;have hown:=hv.2.get hk hve n hlen;obtain⟨A,c,rfl⟩:=uU hown;have hat:∃rr,rowOf st.h (.own k kv)=some rr:=by
    unfold rowLen at hrl;simp only[rowOf];split at hrl;·simp_all
    ·simp_all
    ·cases hrl
   obtain⟨rr,hrr⟩:=hat
   have hrow:=lK I hrr hv;obtain⟨hrt,hrlen⟩:=L9 hrl hrr;obtain⟨A',c',hA',hle,hx'⟩:=hrow;have hrow:RdS C γ st.h w (fI st.h (.own k kv)) rr.1 rr.2 (.slice A n c):=⟨A',c',hA',hle,hx'⟩
   simp only[Value.slice.injEq] at hA';obtain⟨rfl,_,rfl⟩:=hA';rw[hrlen] at hle;split at he
   ·cases vl with
    |some _=>exact hl.elim
    |none=>cases vm with
     |some _=>exact hm.elim
     |none=>
      obtain⟨l,e,m,he,h1,h2,h3,h4,h5,h6,hb⟩:=eu (P:=P) (isSlice:=true) hle (lo:=none) (vl:=none) trivial hh (mx:=none) (vm:=none) trivial he;have h6:=h6 rfl;subst h6;refine⟨_,he,sliced A 0 e m t'.size,⟨rfl,aY hk hve fun n' hn'=>?_⟩,fun w'=>jm hte hes hb w'⟩;rw[hlen] at hn';simp only[Uw] at hn';subst hn';exact⟨h2,zq hown h2 (h5 rfl)⟩
   ·obtain⟨rr',hrr',he⟩:=ae he;rw[hrr] at hrr';simp only[Uw] at hrr';subst hrr';obtain⟨l,e,m,he,h1,h2,h3,h4,h5,h6,hb⟩:=eu (P:=P) (isSlice:=true) hle hl hh hm he;have hsub:=hrow.sub (l:=l) (hh:=e) (m:=m) h1 (by omega) h3;refine⟨_,he,sliced A l e m t'.size,⟨rfl,eO.mk (xz hrr) ?_⟩,fun w'=>jm hte hes hb w'⟩
    grind
  ·cases he
 ·rename_i k kv q;split at he
  ·rename_i t' n hrl;obtain⟨en,hk,hve,hlen,hts⟩:=eZ hrl;obtain⟨hes,he⟩:=aa he;obtain⟨hqn,hown⟩:=hv.2.get hk hve n hlen;obtain⟨A,c,rfl⟩:=uU hown;have hat:∃rr,rowOf st.h (.ownP k kv q)=some rr:=by
    unfold rowLen at hrl;simp only[rowOf];split at hrl;·simp_all
    ·simp_all
    ·cases hrl
   obtain⟨rr,hrr⟩:=hat
   have hrow:=lK I hrr hv;obtain⟨hrt,hrlen⟩:=JG hrl hrr hqn;obtain⟨A',c',hA',hle,hx'⟩:=hrow;have hrow:RdS C γ st.h w (fI st.h (.ownP k kv q)) rr.1 rr.2 (.slice A q c):=⟨A',c',hA',hle,hx'⟩
   simp only[Value.slice.injEq] at hA';obtain⟨rfl,_,rfl⟩:=hA';rw[hrlen] at hle;split at he
   ·cases vl with
    |some _=>exact hl.elim
    |none=>cases vm with
     |some _=>exact hm.elim
     |none=>
      obtain⟨l,e,m,he,h1,h2,h3,h4,h5,h6,hb⟩:=eu (P:=P) (isSlice:=true) hle (lo:=none) (vl:=none) trivial hh (mx:=none) (vm:=none) trivial he;have h6:=h6 rfl;subst h6;refine⟨_,he,sliced A 0 e m t'.size,⟨rfl,aY hk hve fun n' hn'=>?_⟩,fun w'=>jm hte hes hb w'⟩;rw[hlen] at hn';simp only[Uw] at hn';subst hn';exact⟨by omega,zq hown h2 (h5 rfl)⟩
   ·obtain⟨rr',hrr',he⟩:=ae he;rw[hrr] at hrr';simp only[Uw] at hrr';subst hrr';obtain⟨l,e,m,he,h1,h2,h3,h4,h5,h6,hb⟩:=eu (P:=P) (isSlice:=true) hle hl hh hm he;have hsub:=hrow.sub (l:=l) (hh:=e) (m:=m) h1 (by omega) h3;refine⟨_,he,sliced A l e m t'.size,⟨rfl,eO.mk (xz hrr) ?_⟩,fun w'=>jm hte hes hb w'⟩
    grind
  ·cases he
 ·rename_i d t' xs;obtain⟨hd,he⟩:=aa he;obtain⟨hes,he⟩:=aa he;have hv':=hv.2.get hd;obtain⟨A,c,hA,hle,hx⟩:=hv';have hv':RdS C γ st.h w d t' xs v:=⟨A,c,hA,hle,hx⟩
  subst hA;obtain⟨l,e,m,he,h1,h2,h3,h4,_,_,hb⟩:=eu (P:=P) (isSlice:=true) hle hl hh hm he;exact⟨_,he,sliced A l e m t'.size,⟨rfl,eO.mk hd (hv'.sub h1 h2 h3)⟩,fun w'=>jm hte hes hb w'⟩
 ·cases he
theorem Fg{te:TypeId->Option TI}(hte:∀t i,te t=some i->aS P t i){st:St}(I:Inv C γ st.h w){t:TypeId}{x:V1}{lo hi mx:Option V1}{K:V1->Option R}(he:iL st (isStr te t) (fC te t) x lo hi mx K=some r){v:Value}{vl vh vm:Option Value}
  (hv:aM C γ st.h w x v) (hl:jN C γ st.h w lo vl) (hh:jN C γ st.h w hi vh) (hm:jN C γ st.h w mx vm) :
  ∃y,K y=some r/\fO P (Instr.sliceAt t v vl vh vm) C γ st.h w y:=by
 unfold iL at he;split at he
 ·rename_i c ka a kb b;split at he
  ·rename_i rr hrr;obtain⟨⟨hes,rfl,rfl⟩,he'⟩:=aa he;cases vl with
   |some _=>exact hl.elim
   |none=>cases vh with
    |none=>exact hh.elim
    |some vh=>cases vm with
     |none=>exact hm.elim
     |some vm=>
      have h1:vh=.int ka (rr.2.length:Int):=hh;have h2:vm=.int kb (rr.2.length:Int):=hm;subst h1;subst h2;have hrow:=lK I hrr hv;obtain⟨A,cc,hA,hle,hx⟩:=hrow;have hrow:RdS C γ st.h w (fI st.h c) rr.1 rr.2 v:=⟨A,cc,hA,hle,hx⟩
      subst hA;have hb:∀w',(Instr.sliceBounds true rr.2.length cc none (some (.int ka (rr.2.length:Int))) (some (.int kb (rr.2.length:Int)))).run P w'=.ok (0,rr.2.length,rr.2.length) w':=fun w'=>by
       simp_all [Instr.sliceBounds,run_sliceBound]
      have hs:=hrow.sub (l:=0) (hh:=rr.2.length) (m:=rr.2.length) (by omega) (by omega) (by omega);rw[List.take_length,U3] at hs;refine⟨_,he',sliced A 0 rr.2.length rr.2.length rr.1.size,⟨rfl,eO.mk (xz hrr) ⟨hs,_,rfl⟩⟩,fun w'=>jm hte hes hb w'⟩
  ·exact vH hte I he hv hl hh hm
 ·exact vH hte I he hv hl hh hm
end
end Rv
namespace Rv
open Go
section
variable{P:Program}{C:Ctx}{γ:Gam}{h:Heap}{w:World}{R:Type}{r:R}
theorem AV:∀(l:List Value) (i off:Nat) (cs:Array Value),off+i+l.length<=cs.size ->
  ((l.zipIdx i).foldl (fun(cs:Array Value) (p:Value×Nat)=>cs.setIfInBounds (off+p.2) p.1) cs).toList=cs.toList.take (off+i)++l++cs.toList.drop (off+i+l.length)
 |[],i,off,cs,_=>by simp
 |v::l,i,off,cs,hle=>by
  simp only[UN] at hle;simp only[List.zipIdx_cons,U9];rw[AV l (i+1) off _ (by simp;omega)];have hi:off+i<cs.toList.length:=by simp;omega
  simp only[Array.toList_setIfInBounds,UN];rw[show off+(i+1)=off+i+1 by omega,List.take_succ_eq_append_getElem (by simpa using hi),List.drop_set,if_pos (by omega),show off+i+1+l.length=off+i+(l.length+1) by omega];simp[List.take_set_of_le]
theorem rz{place:Nat->Option (Nat×Nat)}{R':Cell->Value->Prop}:∀{ps:List (Nat×V1)}{qs:List (Nat×Value)}{cs cs':List Cell}{vs:Array Value},
  gZ place cs ps=some cs'->ai R' cs vs.toList->ai (fun(p:Nat×V1) (q:Nat×Value)=>p.1=q.1/\ai R' p.2.cells q.2.cells.toList) ps qs ->
  ∃vs':Array Value,Instr.fill place vs qs=some vs'/\ai R' cs' vs'.toList/\vs'.size=vs.size
 |[],[],cs,cs',vs,he,ha,_=>by
  simp only[gZ,Uw] at he;subst he;exact⟨vs,rfl,ha,rfl⟩
 |(i,x)::ps,(j,v)::qs,cs,cs',vs,he,ha,hp=>by
  obtain⟨⟨hij,hc⟩,hp⟩:=hp;simp only at hij;subst hij;simp only[gZ] at he;split at he;·cases he
  ·rename_i off size hpl;obtain⟨⟨h1,h2⟩,he⟩:=aa he;have hl:=ha.length;have hlc:=hc.length;have hsz:v.cells.size=size:=by simp at hlc;omega
   have hle:off+v.cells.size<=vs.size:=by simp at hl;omega
   have hset:(v.cells.zipIdx.foldl (fun(cs:Array Value) (p:Value×Nat)=>cs.setIfInBounds (off+p.2) p.1) vs).toList=vs.toList.take off++v.cells.toList++vs.toList.drop (off+size):=by
    rw[<- Array.foldl_toList,Array.toList_zipIdx];have:=AV v.cells.toList 0 off vs (by simpa using hle);simpa[hsz] using this
   have ha':ai R' (cs.take off++x.cells++cs.drop (off+size)) (v.cells.zipIdx.foldl (fun(cs:Array Value) (p:Value×Nat)=>cs.setIfInBounds (off+p.2) p.1) vs).toList:=by
    rw[hset];exact((ha.take off).append hc).append (ha.drop (off+size))
   obtain⟨vs',h3,h4,h5⟩:=rz he ha' hp;refine⟨vs',?_,h4,?_⟩;·simp only[Instr.fill,hpl];rw[if_neg (by simp;omega)];exact h3
   ·rw[h5,<- Array.length_toList,hset];simp;omega
 |[],_::_,_,_,_,_,_,hp=>hp.elim
 |_::_,[],_,_,_,_,_,hp=>hp.elim
theorem uY{c:Cell}{v:Value}(hp:c.plain=some v):av C γ h w c v:=by
 unfold Cell.plain at hp;split at hp<;>first|(cases hp;done)|(simp only[Uw] at hp;subst hp;first|rfl|exact⟨rfl,rfl⟩)
theorem oz{t:TypeId}{i:TI}(hi:aS P t i):∃z,(∀w',(zeroValue t).run P w'=.ok z w')/\z.cells.size=i.size/\ai (av C γ h w) i.zero z.cells.toList:=by
 obtain⟨inf,h1,h2,h3,z,h4,h5,h6⟩:=hi.info;exact⟨z,fun w'=>by simp[zeroValue,typeInfo,h1,h4],h5,h6.mono fun _ _ hp=>uY hp⟩
theorem wX:∀(l:List Field) (m:List (Nat×Nat×Bool)),ai (fun(f:Nat×Nat×Bool) (fd:Field)=>fd.offset=f.1/\0<f.2.1/\(∃inf,P.info? fd.type=some inf/\inf.size=f.2.1) /\
  ∃d,P.underlying fd.type=some d/\gP d=f.2.2) m l->∀w',(l.mapM (fun(f:Field)=>do pure (f.offset,<- Go.sizeOf f.type):Field->Sem (Nat×Nat))).run P w'=.ok (m.map fun f=>(f.1,f.2.1)) w'
 |[],[],_,w'=>by simp
 |f::l,x::m,⟨⟨h1,h2,⟨inf,h3,h4⟩,_⟩,hr⟩,w'=>by
  have ih:=wX l m hr w';have hs:(Go.sizeOf f.type).run P w'=.ok x.2.1 w':=by simp[Go.sizeOf,typeInfo,h3,h4]
  simp only[List.mapM_cons,UJ,hs,Uy,UQ,ih,h1,UO]
 |[],_::_,hh,_=>hh.elim
 |_::_,[],hh,_=>hh.elim
theorem jT{st:St}{a:Act}(R':Rel C γ w st a.tmps):∀{l:List (Nat×Operand)}{ps:List (Nat×V1)},partsOf st l=some ps ->
  ai (fun(p:Nat×V1) (q:Nat×Value)=>p.1=q.1/\ai (av C γ st.h w) p.2.cells q.2.cells.toList) ps (l.map fun(p:Nat×Operand)=>(p.1,a.eval p.2))
 |[],ps,he=>by simp only[partsOf,Uw] at he;subst he;trivial
 |(i,x)::l,ps,he=>by
  simp only[partsOf] at he;split at he
  ·rename_i v hv;split at he
   ·rename_i l' hl;simp only[Uw] at he;subst he;have:=R'.opd hv;exact⟨⟨rfl,this.1.cells⟩,jT R' hl⟩
   ·cases he
  ·cases he
theorem FQ{st:St}{a:Act}(R':Rel C γ w st a.tmps){t:TypeId}{i:TI}(hi:aS P t i)(hne:i.fields≠[]){parts:Array (Nat×Operand)}{ps:List (Nat×V1)}(hp:partsOf st parts.toList=some ps){cs:List Cell}
  (hf:gZ (fun j=>i.fields[j]?.map fun f=>(f.1,f.2.1)) i.zero ps=some cs):fO P (Instr.build t (parts.map fun(p:Nat×Operand)=>(p.1,a.eval p.2))) C γ st.h w (.agg cs):=by
 obtain⟨z,hz,hzs,hza⟩:=oz (C:=C) (γ:=γ) (h:=st.h) (w:=w) hi;rcases hi.fields with h0|⟨fs,h1,h2⟩;·exact absurd h0 hne
 ·obtain⟨vs',h3,h4,h5⟩:=rz hf hza (jT R' hp);refine⟨.agg vs',⟨vs'.toList,by simp,h4⟩,fun w'=>?_⟩;have hm:=wX fs.toList i.fields h2 w';have hpl:(fs.mapM (fun(f:Field)=>do pure (f.offset,<- Go.sizeOf f.type):Field->Sem (Nat×Nat))).run P w'=.ok (i.fields.map fun(f:Nat×Nat×Bool)=>(f.1,f.2.1)).toArray w':=by
   rw[Array.mapM_eq_mapM_toList,Sem.run_map,hm];rfl
  have h3':Instr.fill (fun j=>(i.fields.map fun(f:Nat×Nat×Bool)=>(f.1,f.2.1)).toArray[j]?) z.cells (parts.map fun(p:Nat×Operand)=>(p.1,a.eval p.2)).toList=some vs':=by
   rw[Array.toList_map];have:(fun(j:Nat)=>(i.fields.map fun(f:Nat×Nat×Bool)=>(f.1,f.2.1)).toArray[j]?)=(fun(j:Nat)=>i.fields[j]?.map fun(f:Nat×Nat×Bool)=>(f.1,f.2.1)):=by funext j;simp
   rw[this];exact h3
  simp only[Instr.build,UJ,hz,Uy,run_underlying h1,hpl,h3',UQ]
theorem DL{st:St}{a:Act}(R':Rel C γ w st a.tmps){t:TypeId}{i:TI}(hi:aS P t i){n:Nat}(har:i.arr=some n){parts:Array (Nat×Operand)}{ps:List (Nat×V1)}(hp:partsOf st parts.toList=some ps){cs:List Cell}
  (hf:gZ (fun j=>some (j*(i.size / n),i.size / n)) i.zero ps=some cs):fO P (Instr.build t (parts.map fun(p:Nat×Operand)=>(p.1,a.eval p.2))) C γ st.h w (.agg cs):=by
 obtain⟨z,hz,hzs,hza⟩:=oz (C:=C) (γ:=γ) (h:=st.h) (w:=w) hi;obtain⟨_,e,hu,hsz,_⟩:=hi.arr n har;obtain⟨vs',h3,h4,h5⟩:=rz hf hza (jT R' hp);refine⟨.agg vs',⟨vs'.toList,by simp,h4⟩,fun w'=>?_⟩;have h3':Instr.fill (fun j=>some (j*(i.size / n),i.size / n)) z.cells (parts.map fun(p:Nat×Operand)=>(p.1,a.eval p.2)).toList=some vs':=by
  rw[Array.toList_map];exact h3
 simp only[Instr.build,UJ,hz,Uy,run_underlying hu,hsz,h3',UQ]
theorem Jr{h:Heap}{v:V}(hn:mq h v=true){u:Value}(hv:bv C γ h w v u)(hI:Inv C γ h w):(∃q,u=.pointer (some q))\/∃f b c,u=.func (.func f) b c:=by
 unfold mq at hn;split at hn
 ·rename_i k kv off;split at hn
  ·rename_i l hat
   obtain⟨e,hk,hve,hbox⟩:=aK hat
   have hv:av C γ h w (.ptr k kv off) u:=hv;obtain⟨g,c,_,rfl⟩:=hv.2.get hk hve l hbox;exact .inl ⟨_,rfl⟩
  ·cases hn
 ·rename_i k kv i off;have hv:av C γ h w (.elt k kv i off) u:=hv;cases hr:rowLen h k kv with
  |none=>rw[hr] at hn;cases hn
  |some x=>
   obtain⟨t',n⟩:=x;obtain⟨en,hk,hve,hlen,hts⟩:=eZ hr;obtain⟨_,g,c,_,rfl⟩:=hv.2.get hk hve n hlen;exact .inl ⟨_,rfl⟩
 ·rename_i d t' xs i off;have hv:av C γ h w (.slp d t' xs i off) u:=hv;obtain⟨g,p,x,ds,rfl,_⟩:=hv.2.get hn;exact .inl ⟨_,rfl⟩
 ·rename_i f cs;obtain⟨vs,rfl,_⟩:=hv;refine .inr ?_;unfold mK;split
  ·exact⟨_,_,_,rfl⟩
  ·exact⟨_,_,_,rfl⟩
 ·cases hn
theorem nZ{st:St}{a:Act}(R':Rel C γ w st a.tmps){x:Option Operand}{v:Option V1}(he:kP st x=some v):jN C γ st.h w v (x.map a.eval):=by
 cases x with
 |none=>simp only[kP,Uw] at he;subst he;trivial
 |some x=>
  simp only[kP] at he;split at he;·rename_i v' hv;simp only[Uw] at he;subst he;exact(R'.opd hv).1
  ·cases he
theorem kN{st:St}{a:Act}(R':Rel C γ w st a.tmps):∀{l:List Operand}{vs:List V1},iV st l=some vs->ai (fun x v=>aM C γ st.h w x v/\x≠.c .dead) vs (l.map a.eval)
 |[],vs,he=>by simp only[iV,Uw] at he;subst he;trivial
 |x::l,vs,he=>by
  simp only[iV] at he;split at he
  ·rename_i v hv;split at he
   ·rename_i l' hl;simp only[Uw] at he;subst he;exact⟨R'.opd hv,kN R' hl⟩
   ·cases he
  ·cases he
theorem tJ{k:IntKind}:∀{vs:List V1}{l:List Value}{acc n:Int},jq mn k acc vs=some n->ai (fun x v=>aM C γ h w x v/\x≠.c .dead) vs l->∀w',(l.foldlM Builtin.min2 (.int k acc)).run P w'=.ok (.int k n) w'
 |[],[],acc,n,he,_,w'=>by simp only[jq,Uw] at he;subst he;rfl
 | .c (.int k' m)::vs,v::l,acc,n,he,⟨⟨hv,_⟩,ha⟩,w'=>by
  simp only[jq] at he;obtain⟨hk,he2⟩:=aa he;subst hk;rw[show v=_ from hv];simp only[List.foldlM_cons,UJ,Builtin.min2,UQ,Uy];exact tJ he2 ha w'
theorem tH{k:IntKind}:∀{vs:List V1}{l:List Value}{acc n:Int},jq mx k acc vs=some n->ai (fun x v=>aM C γ h w x v/\x≠.c .dead) vs l->∀w',(l.foldlM Builtin.max2 (.int k acc)).run P w'=.ok (.int k n) w'
 |[],[],acc,n,he,_,w'=>by simp only[jq,Uw] at he;subst he;rfl
 | .c (.int k' m)::vs,v::l,acc,n,he,⟨⟨hv,_⟩,ha⟩,w'=>by
  simp only[jq] at he;obtain⟨hk,he2⟩:=aa he;subst hk;rw[show v=_ from hv];simp only[List.foldlM_cons,UJ,Builtin.max2,UQ,Uy];exact tH he2 ha w'
theorem kX:∀{vs:List V1}{cs:List Cell}{us:List Value},kW vs=some cs->ai (fun x v=>aM C γ h w x v/\x≠.c .dead) vs us->ai (av C γ h w) cs us
 |[],cs,[],he,_=>by
  simp only[kW,Uw] at he;subst he;trivial
 | .c x::vs,cs,u::us,he,ha=>by
  simp only[kW] at he;split at he;·rename_i l hl;simp only[Uw] at he;subst he;exact⟨ha.1.1,kX hl ha.2⟩
  ·cases he
 | .agg _::_,_,_,he,_=>by cases he
 |[],_,_::_,_,ha=>ha.elim
 | .c _::_,_,[],_,ha=>ha.elim
theorem jB{st:St}{a:Act}(R':Rel C γ w st a.tmps){x:Operand}{v:V}(hv:opdV st x=some v):bv C γ st.h w v (a.eval x):=by
 cases x with
 |tmp t=>
  simp only[opdV] at hv;split at hv;·rename_i vs hs;simp only[Uw] at hv;subst hv;exact R'.slot t _ hs
  ·rename_i f cs hs;simp only[Uw] at hv;subst hv;exact R'.slot t _ hs
  ·cases hv
  ·rename_i y _ hs;simp only[Uw] at hv;subst hv;exact R'.slot t _ hs
  ·cases hv
 |const c=>
  simp only[opdV] at hv;split at hv;·rename_i y hy;simp only[Uw] at hv;subst hv;exact(R'.opd hy).1
  ·cases hv
 |func f=>
  simp only[opdV] at hv;split at hv;·rename_i y hy;simp only[Uw] at hv;subst hv;exact(R'.opd hy).1
  ·cases hv
 |global g=>
  simp only[opdV] at hv;split at hv;·rename_i y hy;simp only[Uw] at hv;subst hv;exact(R'.opd hy).1
  ·cases hv
theorem Oh{st:St}{a:Act}(R':Rel C γ w st a.tmps){x:Operand}{v:V}(hv:(match x with | .tmp s=>st.s[s]? | x=>(opd st x).map .v)=some v):bv C γ st.h w v (a.eval x):=by
 cases x with
 |tmp t=>exact R'.slot t _ hv
 |const c=>
  simp only[Option.map_eq_some_iff] at hv;obtain⟨y,hy,rfl⟩:=hv;exact(R'.opd hy).1
 |func f=>
  simp only[Option.map_eq_some_iff] at hv;obtain⟨y,hy,rfl⟩:=hv;exact(R'.opd hy).1
 |global g=>
  simp only[Option.map_eq_some_iff] at hv;obtain⟨y,hy,rfl⟩:=hv;exact(R'.opd hy).1
theorem QX{t:TypeId}{i:TI}(hi:aS P t i)(h:i.iface=false)(v:Value)(w':World):(Instr.makeInterface t v).run P w'=.ok (.iface t v) w':=by
 obtain⟨d,hd,_⟩:=hi.desc;have hn:=hi.notIface h;simp only[Instr.makeInterface,UJ,run_underlying hd,Uy];cases d<;>first|rfl|exact absurd hd (hn _)
theorem MM{te:TypeId->Option TI}(hte:∀t i,te t=some i->aS P t i){st:St}{a:Act}(R':Rel C γ w st a.tmps){o:Oper}{K:V->Option R}(he:vop te st o.op K=some r) :
  ∃y val,K y=some r/\bv C γ st.h w y val/\∀w',Ext w w'->(execOp a.eval o).run P w'=.ok (.value val) w':=by
 have fin:∀{s:Sem Value},(∃y,one K y=some r/\yC P s C γ st.h w y)->execOp a.eval o=(do pure (.value (<- s)))->∃y val,K y=some r/\bv C γ st.h w y val/\∀w',Ext w w'->(execOp a.eval o).run P w'=.ok (.value val) w':=by
  rintro s ⟨y,hk,val,hr,hrun⟩ hs;exact⟨.v y,val,hk,hr,fun w' hw=>by rw[hs,UJ,hrun w' hw,Uy,UQ]⟩
 have finF:∀{s:Sem Value},(∃y,one K y=some r/\fO P s C γ st.h w y)->execOp a.eval o=(do pure (.value (<- s)))->∃y val,K y=some r/\bv C γ st.h w y val/\∀w',Ext w w'->(execOp a.eval o).run P w'=.ok (.value val) w':=by
  rintro s ⟨y,hk,hf⟩ hs;exact fin ⟨y,hk,hf.ext⟩ hs
 unfold vop at he;split at he;·rename_i x ho;obtain⟨v,hv,he⟩:=ae he;exact⟨v,_,he,jB R' hv,fun w' _=>by simp[execOp,ho]⟩
 ·rename_i x ho;obtain⟨v,hv,he⟩:=ae he;exact⟨v,_,he,jB R' hv,fun w' _=>by simp[execOp,ho]⟩
 ·rename_i c x y ho;split at he
  ·rename_i b hb;have hbv:a.eval c=.bool b:=(R'.opd hb).1;split at he
   ·rename_i ht;subst ht;obtain⟨v,hv,he⟩:=ae he;exact⟨.v v,_,he,(R'.opd hv).1,fun w' _=>by simp[execOp,ho,hbv,asBool]⟩
   ·rename_i ht;have ht:b=false:=by simpa using ht
    subst ht;obtain⟨v,hv,he⟩:=ae he;exact⟨.v v,_,he,(R'.opd hv).1,fun w' _=>by simp[execOp,ho,hbv,asBool]⟩
  ·cases he
 ·rename_i t parts ho;split at he
  ·rename_i ti ps hti hps;split at he
   ·rename_i n har;obtain⟨cs,hf,he⟩:=ae he;exact finF ⟨_,he,DL R' (hte _ _ hti) har hps hf⟩ (by simp[execOp,ho])
   split at he;·cases he
   ·rename_i hne;obtain⟨cs,hf,he⟩:=ae he;exact finF ⟨_,he,FQ R' (hte _ _ hti) (by simpa using hne) hps hf⟩ (by simp[execOp,ho])
  ·cases he
 ·rename_i t x ho;obtain⟨v,hv,he⟩:=ae he;obtain⟨y,val,h1,h2,h3⟩:=F3 (P:=P) hte R'.inv he (R'.opd hv).1;exact⟨y,val,h1,h2,fun w' hw=>by simp[execOp,ho,h3 w' hw]⟩
 ·rename_i t x f ho;have fg:∀{fd:Nat×Nat×Bool},(te t).bind (·.fields[f]?)=some fd->∃i,aS P t i/\i.fields[f]?=some fd:=by
   intro fd hh;cases ht:te t with
   |none=>rw[ht] at hh;simp at hh
   |some i=>rw[ht] at hh;exact⟨i,hte _ _ ht,hh⟩
  split at he
  ·rename_i k kv off fd hx hfd;split at he
   ·rename_i l hat
    obtain⟨i,hi,hfd⟩:=fg hfd;obtain⟨e,hk,hve,hbox⟩:=aK hat
    obtain⟨g,c,h2,h3⟩:=(R'.opd hx).1.2.get hk hve l hbox;refine finF (s:=Instr.fieldAt t (a.eval x) f) ⟨_,he,.pointer (some ⟨g,off+fd.1,none⟩),⟨rfl,aY hk hve fun l' hl'=>⟨g,c,h2,rfl⟩⟩,fun w'=>?_⟩ (by simp[execOp,ho]);rw[h3];exact pE hi hfd g off w'
   ·cases he
  ·rename_i k kv i' off fd hx hfd;split at he
   ·rename_i x' hrl;obtain⟨t',n⟩:=x';obtain⟨i,hi,hfd⟩:=fg hfd;obtain⟨en,hk,hve,hlen,hts⟩:=eZ hrl;obtain⟨h2,g,c,h3,h4⟩:=(R'.opd hx).1.2.get hk hve n hlen;refine finF (s:=Instr.fieldAt t (a.eval x) f) ⟨_,he,.pointer (some ⟨g,i'*en.box.tsize+(off+fd.1),none⟩),⟨rfl,aY hk hve fun n' hn'=>?_⟩,fun w'=>?_⟩ (by simp[execOp,ho])
    ·rw[hlen] at hn';simp only[Uw] at hn';subst hn';exact⟨h2,g,c,h3,rfl⟩
    ·rw[h4,<- Vk];exact pE hi hfd g _ w'
   ·cases he
  ·rename_i d t' xs i' off fd hx hfd;obtain⟨hd,he⟩:=aa he;obtain⟨i,hi,hfd⟩:=fg hfd;obtain⟨g,p,x',ds,h1,h2⟩:=(R'.opd hx).1.2.get hd;refine finF (s:=Instr.fieldAt t (a.eval x) f) ⟨_,he,.pointer (some ⟨g,p+(off+fd.1),none⟩),⟨rfl,eO.mk hd ⟨g,p,x',ds,rfl,h2⟩⟩,fun w'=>?_⟩ (by simp[execOp,ho]);rw[h1,<- Vk];exact pE hi hfd g _ w'
  ·cases he
 ·rename_i t x f ho;split at he
  ·rename_i cs fd hx hfd;obtain⟨hle,he⟩:=aa he;obtain⟨y,hm,he⟩:=ae he;cases ht:te t with
   |none=>rw[ht] at hfd;simp at hfd
   |some i=>
    rw[ht] at hfd;exact finF ⟨y,he,KM (hte _ _ ht) hfd (R'.opd hx).1 hle hm⟩ (by simp[execOp,ho])
  ·cases he
 ·rename_i t x i ho;obtain⟨v,hv,he⟩:=ae he;obtain⟨vi,hvi,he⟩:=ae he;exact finF (xJ hte he (R'.opd hv).1 (R'.opd hvi).1) (by simp[execOp,ho])
 ·rename_i t x i ho;obtain⟨v,hv,he⟩:=ae he;obtain⟨vi,hvi,he⟩:=ae he;exact finF (Eg hte he (R'.opd hv).1 (R'.opd hvi).1) (by simp[execOp,ho])
 ·rename_i t x lo hi mx ho;obtain⟨v,hv,he⟩:=ae he;obtain⟨vl,hvl,he⟩:=ae he;obtain⟨vh,hvh,he⟩:=ae he;obtain⟨vm,hvm,he⟩:=ae he;exact finF (Fg hte R'.inv he (R'.opd hv).1 (nZ R' hvl) (nZ R' hvh) (nZ R' hvm)) (by simp[execOp,ho])
 ·rename_i op t x y yt ho;obtain⟨v,hv,he⟩:=ae he;obtain⟨v',hv',he⟩:=ae he;exact finF (IK (x:=x) (y:=y) hte he (R'.opd hv).1 (R'.opd hv').1) (by simp[execOp,ho])
 ·rename_i op t x ho;obtain⟨v,hv,he⟩:=ae he;exact finF (MG he (R'.opd hv).1) (by simp[execOp,ho])
 ·rename_i src dst x ho;split at he
  ·rename_i k n ti hx hti;split at he
   ·rename_i k' hk;have hi:=hte _ _ hti;have hv:a.eval x=.int k n:=(R'.opd hx).1;split at he
    ·rename_i hs;obtain⟨d,hd,hs⟩:∃d,P.underlying src=some d/\True:=by
      cases hts:te src with
      |none=>rw[hts] at hs;simp at hs
      |some i=>obtain⟨d,h1,_⟩:=(hte _ _ hts).desc;exact⟨d,h1,trivial⟩
     refine finF (s:=convert src dst (a.eval x)) ⟨_,he,.int k' (k'.wrap n),rfl,fun w'=>?_⟩ (by simp[execOp,ho]);rw[hv];simp only[convert,UJ,run_underlying hd,run_underlying (hi.int _ hk),Uy,Conv.intToInt,UQ]
    ·cases he
   ·cases he
  ·cases he
 ·rename_i t x ho;split at he
  ·rename_i ti hti;split at he
   ·cases he
   ·rename_i hni;have hni':ti.iface=false:=by simpa using hni
    have hx:execOp a.eval o=(do pure (.value (<- Instr.makeInterface t (a.eval x)))):=by simp[execOp,ho]
    have fi:∀{y:V1},K (.v y)=some r->aM C γ st.h w y (.iface t (a.eval x))->∃y val,K y=some r/\bv C γ st.h w y val/\∀w',Ext w w'->(execOp a.eval o).run P w'=.ok (.value val) w':=fun {y} hk hr=>
     ⟨.v y,_,hk,hr,fun w' _=>by rw[hx,UJ,QX (hte _ _ hti) hni',Uy,UQ]⟩
    split at he;·rename_i k n hs;exact fi he (show _=_ by rw[show a.eval x=.int k n from Oh R' hs])
    ·exact fi he ⟨rfl,fun h=>(by cases h),fun _=>⟨_,_,rfl⟩⟩
    ·cases he
  ·cases he
 ·rename_i f first captured ho
  obtain⟨hlt,he⟩:=aa he;split at he
  ·rename_i hf;obtain⟨vs,hvs,he2⟩:=ae he;obtain⟨cs,hcs,he3⟩:=ae he2;have hf':first=#[]:=by simpa using hf
   subst hf';refine⟨.clo f cs,.func (.func f) #[] (captured.map a.eval),he3,⟨captured.toList.map a.eval,by rw[nK hlt,<- Array.toList_map],kX hcs (kN R' hvs)⟩,fun w' _=>by simp[execOp,ho,Instr.makeFunc]⟩
  ·obtain⟨hf,he⟩:=aa he;obtain⟨vs,hvs,he2⟩:=ae he;obtain⟨cs,hcs,he3⟩:=ae he2;have hf':captured=#[]:=by simpa using hf
   subst hf';refine⟨.clo (f+gJ) cs,.func (.func f) (first.map a.eval) #[],he3,⟨first.toList.map a.eval,by rw[KJ,<- Array.toList_map],kX hcs (kN R' hvs)⟩,fun w' _=>by simp[execOp,ho,Instr.makeFunc]⟩
 ·rename_i x ho;obtain⟨v,hv,he⟩:=ae he;obtain⟨hn,he⟩:=aa he;have hr:=jB R' hv;refine⟨v,a.eval x,he,hr,fun w' _=>?_⟩;rcases Jr hn hr R'.inv with⟨q,hq⟩|⟨f,b,c,hq⟩
  ·simp[execOp,ho,hq]
  ·simp[execOp,ho,hq]
 ·rename_i x i ho;split at he
  ·rename_i t;split at he
   ·rename_i vs hvs;obtain⟨v,hv,he⟩:=ae he;obtain⟨us,hu,ha⟩:=R'.slot t _ hvs;obtain⟨u,hui,hr⟩:=ha.get hv;refine finF (s:=Instr.extract (a.eval (.tmp t)) i) ⟨v,he,u,hr,fun w'=>?_⟩ (by simp[execOp,ho]);show(Instr.extract (a.tmps.getD t undef) i).run P w'=_;rw[hu];simp[Instr.extract,hui]
   ·cases he
  ·cases he
 ·rename_i args argTypes ho;split at he
  ·rename_i x t hx ht;obtain⟨v,hv,he⟩:=ae he;obtain⟨n,he,hrun⟩:=Ji (P:=P) (ty:=o.type) hte he (R'.opd hv).1;have e1:args=#[x]:=Array.ext' hx;have e2:argTypes=#[t]:=Array.ext' ht;exact finF (s:=Builtin.len_ argTypes o.type (args.map a.eval)) ⟨_,he,_,rfl,fun w'=>by rw[e1,e2];simpa using hrun w'⟩ (by simp[execOp,ho,resolve,invoke,builtin])
  ·cases he
 ·rename_i args argTypes ho;split at he
  ·rename_i k n vs hvs;obtain⟨m,hm,he⟩:=ae he;have ha:=kN R' hvs;rw[<- Array.toList_map] at ha;cases hl:(args.map a.eval).toList with
   |nil=>rw[hl] at ha;exact ha.elim
   |cons v l=>
    rw[hl] at ha;refine finF (s:=Builtin.min_ argTypes o.type (args.map a.eval)) ⟨_,he,_,rfl,fun w'=>?_⟩ (by simp[execOp,ho,resolve,invoke,builtin]);have hv:v=.int k n:=ha.1.1;simp only[Builtin.min_,hl,hv];exact tJ hm ha.2 w'
  ·cases he
 ·rename_i args argTypes ho;split at he
  ·rename_i k n vs hvs;obtain⟨m,hm,he⟩:=ae he;have ha:=kN R' hvs;rw[<- Array.toList_map] at ha;cases hl:(args.map a.eval).toList with
   |nil=>rw[hl] at ha;exact ha.elim
   |cons v l=>
    rw[hl] at ha;refine finF (s:=Builtin.max_ argTypes o.type (args.map a.eval)) ⟨_,he,_,rfl,fun w'=>?_⟩ (by simp[execOp,ho,resolve,invoke,builtin]);have hv:v=.int k n:=ha.1.1;simp only[Builtin.max_,hl,hv];exact tH hm ha.2 w'
  ·cases he
 ·cases he
end
end Rv
namespace Rv
open Go
section
variable{P:Program}{C:Ctx}{γ:Gam}{h:Heap}{w:World}{R:Type}{r:R}
theorem Rel.put{st:St}{a:Act}(R':Rel C γ w st a.tmps)(dst:Option Nat){y:V}{val:Value}(hr:bv C γ st.h w y val):Rel C γ w (st.put dst y) (a.put dst val).tmps:=by
 cases dst with
 |none=>exact R'
 |some d=>
  refine⟨by simp[St.put,Act.put,R'.size],fun i v hv=>?_,R'.inv⟩;simp only[St.put,List.getElem?_set] at hv;by_cases e:d=i
  ·subst e;rw[if_pos rfl] at hv;by_cases hl:d<st.s.length
   ·rw[if_pos hl] at hv;simp only[Uw] at hv;subst hv;have hsz:d<a.tmps.size:=by rw[R'.size];exact hl
    simpa[St.put,Act.put,Array.getD,hsz] using hr
   ·rw[if_neg hl] at hv;cases hv
  ·rw[if_neg e] at hv;have:=R'.slot i v hv;simpa[St.put,Act.put,Array.getD_eq_getD_getElem?,Array.getElem?_setIfInBounds,e] using this
structure Step (C:Ctx) (w w':World):Prop where
 size:w.heap.size<=w'.heap.size
 old:∀g,g<w.heap.size->¬C.own g->w'.heap[g]?=w.heap[g]?
 os:w'.os=w.os
 tape:w'.tape=w.tape
 output:w'.output=w.output
theorem Step.of_ext{w w':World}(hE:Ext w w')(h1:w'.os=w.os)(h2:w'.tape=w.tape)(h3:w'.output=w.output):Step C w w':=⟨hE.1,fun g hg _=>hE.2 g hg,h1,h2,h3⟩
theorem Inv.step{γ':Gam}{h':Heap}{w':World}(I:Inv C γ h w)(S:Step C w w')(T:cK C γ h w C γ' h' w')(hbox:∀k e,h' k=some e->dJ C γ' h' w' k e.box)
  (hinj:∀k k' e e' g c c',h' k=some e->e.box.live->h' k'=some e'->e'.box.live->γ' k=some (g,c)->γ' k'=some (g,c')->k=k')
  (hown:∀k e g c,h' k=some e->e.box.live->γ' k=some (g,c)->C.own g):Inv C γ' h' w' where
 box:=hbox
 inj:=hinj
 own:=hown
 frame:=fun g hg hno=>(S.old g (Vd hg I.size) hno).trans (I.frame g hg hno)
 size:=UW I.size S.size
 os:=S.os.trans I.os
 tape:=S.tape.trans I.tape
 output:=S.output.trans I.output
 new:=I.new
 rd:=I.rd
 laid:=I.stable w w' I.laid fun g hno=>by
  by_cases hg:g<w.heap.size;·exact S.old g hg hno
  ·exact absurd (I.new g (UW I.size (by omega))) hno
 stable:=I.stable
 lent:=T.lent I.lent
def jl(γ:Gam)(K:Nat)(v:Option (Nat×Nat)):Gam:=fun j=>if j=K then v else γ j
theorem bG(γ:Gam)(K:Nat)(v:Option (Nat×Nat)):jl γ K v K=v:=by simp[jl]
theorem dE(γ:Gam){K k:Nat}(v:Option (Nat×Nat))(h:k≠K):jl γ K v k=γ k:=by simp[jl,h]
theorem bO(h:Heap)(K:Nat)(e:En):h.set K e K=some e:=by simp[Heap.set]
theorem bn(h:Heap){K k:Nat}(e:En)(hne:k≠K):h.set K e k=h k:=by simp[Heap.set,hne]
theorem jh(I:Inv C γ h w){k g c:Nat}{e:En}(hk:h k=some e)(hl:e.box.live)(hγ:γ k=some (g,c)):g<w.heap.size:=by
 have:=I.box k e hk;cases hb:e.box with
 |cells l=>
  rw[hb] at this;obtain⟨g',vs,U,h1,h2,_⟩:=this;rw[hγ] at h1;simp only[Uw,UC] at h1;rw[h1.1];exact(Array.getElem?_eq_some_iff.1 h2).1
 |row a t xs=>
  rw[hb] at this;rcases this with⟨h0,_⟩|⟨g',c',cur,h1,h2,_⟩;·rw[hγ] at h0;cases h0
  ·rw[hγ] at h1;simp only[Uw,UC] at h1;rw[h1.1];exact(Array.getElem?_eq_some_iff.1 h2).1
 |pub t xs=>rw[hb] at hl;exact hl.elim
 |gone=>rw[hb] at hl;exact hl.elim
theorem lF{K:Nat}{e:En}(hk:h K=some e):e.ver<h.next K:=by simp[Heap.next,hk]
theorem pW(_I:Inv C γ h w){w':World}(hE:Ext w w')(K:Nat)(b:Box)(v:Option (Nat×Nat))(hv:∀g c,v=some (g,c)->w.heap.size<=g) :
  cK C γ h w C (jl γ K v) (h.set K ⟨h.next K,0,b⟩) w' where
 sz:=hE.1
 blk:=fun g hg _=>hE.2 g hg
 keep:=fun k e hk=>by
  by_cases hkK:k=K;·subst hkK;exact⟨_,bO _ _ _,.inl (lF hk)⟩
  ·exact⟨e,by rw[bn _ _ hkK];exact hk,.inr ⟨rfl,dE _ _ hkK,Alike.refl e⟩⟩
 okn:=fun k e' c g hk hl hγ hg=>by
  by_cases hkK:k=K;·subst hkK;rw[bG] at hγ;exact absurd (hv g c hγ) (by omega)
  ·rw[dE _ _ hkK] at hγ;rw[bn _ _ hkK] at hk;exact⟨k,e',c,hk,hl,hγ,.inl rfl⟩
 rd:=fun _ _ h=>h
 L:=fun _ h=>h
theorem Inv.fresh(I:Inv C γ h w){w':World}(hE:Ext w w')(S:Step C w w')(K:Nat)(b:Box)(v:Option (Nat×Nat))(hv:∀g c,v=some (g,c)->w.heap.size<=g)
  (hB:dJ C (jl γ K v) (h.set K ⟨h.next K,0,b⟩) w' K b):Inv C (jl γ K v) (h.set K ⟨h.next K,0,b⟩) w':=by
 have T:=pW I hE K b v hv;refine I.step S T (fun k e hk=>?_) (fun k k' e e' g c c' hk hl hk' hl' h1 h2=>?_) (fun k e g c hk hl h1=>?_)
 ·by_cases hkK:k=K
  ·subst hkK;rw[bO] at hk;simp only[Uw] at hk;subst hk;exact hB
  ·rw[bn _ _ hkK] at hk;exact dJ.step T (I.box k e hk) (dE _ _ hkK) fun hl g c hγ=>hE.2 g (jh I hk hl hγ)
 ·by_cases hkK:k=K<;>by_cases hkK':k'=K
  ·rw[hkK,hkK']
  ·subst hkK;rw[bG] at h1;rw[dE _ _ hkK'] at h2;rw[bn _ _ hkK'] at hk';have:=jh I hk' hl' h2;have:=hv g c h1;omega
  ·subst hkK';rw[bG] at h2;rw[dE _ _ hkK] at h1;rw[bn _ _ hkK] at hk;have:=jh I hk hl h1;have:=hv g c' h2;omega
  ·rw[dE _ _ hkK] at h1;rw[dE _ _ hkK'] at h2;rw[bn _ _ hkK] at hk;rw[bn _ _ hkK'] at hk';exact I.inj k k' e e' g c c' hk hl hk' hl' h1 h2
 ·by_cases hkK:k=K
  ·subst hkK;rw[bG] at h1;exact I.new g (UW I.size (hv g c h1))
  ·rw[dE _ _ hkK] at h1;rw[bn _ _ hkK] at hk;exact I.own k e g c hk hl h1
def gH(P:Program)(C:Ctx)(w:World)(st:St)(a:Act)(o:Oper)(x:Dl):Prop:=
 ∀(next:Act->World->Prop) (Q:Exit->Act->World->Prop),(∀γ' w' val,Rel C γ' w' (st.app o.dst x) (a.put o.dst val).tmps->next (a.put o.dst val) w')->o.wp P a w next Q
theorem Rel.app{st:St}{a:Act}(R':Rel C γ w st a.tmps){γ':Gam}{w':World}{dst:Option Nat}{x:Dl}(T:cK C γ st.h w C γ' (x.up.foldl (fun h p=>h.set p.1 p.2) st.h) w')
  (I':Inv C γ' (x.up.foldl (fun h p=>h.set p.1 p.2) st.h) w') {val:Value} (hv:bv C γ' (x.up.foldl (fun h p=>h.set p.1 p.2) st.h) w' x.v val):Rel C γ' w' (st.app dst x) (a.put dst val).tmps:=by
 have R1:Rel C γ' w' ⟨st.s,x.up.foldl (fun h p=>h.set p.1 p.2) st.h⟩ a.tmps:=R'.step T I';exact R1.put dst hv
theorem eH{o:Oper}{a:Act}{val:Value}{w':World}(hr:(execOp a.eval o).run P w=.ok (.value val) w'){next:Act->World->Prop}{Q:Exit->Act->World->Prop}(hn:next (a.put o.dst val) w'):o.wp P a w next Q:=by
 unfold Oper.wp;rw[hr];exact hn
theorem FL{o:Oper}{a:Act}{w':World}(hr:(execOp a.eval o).run P w=.ok .skip w'){next:Act->World->Prop}{Q:Exit->Act->World->Prop}(hn:next (a.put o.dst undef) w'):o.wp P a w next Q:=by
 unfold Oper.wp;rw[hr];exact hn
theorem oJ(w:World)(o:Obj):Ext w (w.alloc o):=⟨by simp,fun g hg=>Go.RowKit.Below.heap_alloc w o g hg⟩
theorem sP(w:World)(o:Obj):Step C w (w.alloc o):=Step.of_ext (oJ w o) rfl rfl rfl
theorem dS{a b g c:Nat}(h:some (a,b)=some (g,c)):a=g/\b=c:=by simpa using h
theorem Kl{st:St}{a:Act}(R':Rel C γ w st a.tmps){o:Oper}{T:TypeId}{l:List Cell}{vs:Array Value}{rd:List Nat}(ha:ai (av C γ st.h w) l vs.toList)
  (hrun:(execOp a.eval o).run P w=.ok (.value (.pointer (some ⟨w.heap.size,0,none⟩))) (w.alloc (.cells vs T))) :
  gH P C w st a o ⟨.v (.c (.ptr (dk o.dst) (st.h.next (dk o.dst)) 0)),rd,[(dk o.dst,⟨st.h.next (dk o.dst),0,.cells l⟩)]⟩:=by
 intro next Q hn
 have hE:=oJ w (.cells vs T);have hv:∀g c,some (w.heap.size,0)=some (g,c)->w.heap.size<=g:=fun g c e=>by have:=dS e;omega
 have T':=pW R'.inv hE (dk o.dst) (.cells l) (some (w.heap.size,0)) hv;refine eH hrun (hn (jl γ (dk o.dst) (some (w.heap.size,0))) _ _ (R'.app T' (R'.inv.fresh hE (sP w _) (dk o.dst) (.cells l) (some (w.heap.size,0)) hv ?_) ?_));·exact⟨w.heap.size,vs,T,bG _ _ _,heap_alloc_new w _,ha.mono fun _ _ hh=>av.step T' hh⟩
 ·exact⟨rfl,aY (bO _ _ _) rfl fun l _=>⟨w.heap.size,0,bG _ _ _,rfl⟩⟩
theorem Rd.parse:∀{t:Ty}{l:List Cell}{x:t.D}{rest:List Cell}{vs:List Value},t.parse l=some (x,rest)->ai (av C γ h w) l vs->∃v1 v2,vs=v1++v2/\Rd w (okb C γ h none) t x v1/\ai (av C γ h w) rest v2
 | .int k,l,x,rest,vs,he,ha=>by
  cases l with
  |nil=>simp[Ty.parse] at he
  |cons c r=>
   cases c with
   |int j n=>
    simp only[Ty.parse] at he;split at he
    ·rename_i hjk;subst hjk;simp only[Uw,UC] at he;obtain⟨rfl,rfl⟩:=he;cases vs with
     |nil=>exact ha.elim
     |cons v vs=>exact⟨[v],vs,rfl,by rw[show v=_ from ha.1];rfl,ha.2⟩
    ·cases he
   |_=>simp[Ty.parse] at he
 | .bool,l,x,rest,vs,he,ha=>by
  cases l with
  |nil=>simp[Ty.parse] at he
  |cons c r=>
   cases c with
   |bool b=>
    simp only[Ty.parse,Uw,UC] at he;obtain⟨rfl,rfl⟩:=he;cases vs with
    |nil=>exact ha.elim
    |cons v vs=>exact⟨[v],vs,rfl,by rw[show v=_ from ha.1];rfl,ha.2⟩
   |_=>simp[Ty.parse] at he
 | .str,l,x,rest,vs,he,ha=>by
  cases l with
  |nil=>simp[Ty.parse] at he
  |cons c r=>
   cases c with
   |str b=>
    simp only[Ty.parse,Uw,UC] at he;obtain⟨rfl,rfl⟩:=he;cases vs with
    |nil=>exact ha.elim
    |cons v vs=>exact⟨[v],vs,rfl,by rw[show v=_ from ha.1];rfl,ha.2⟩
   |_=>simp[Ty.parse] at he
 | .sl t,l,x,rest,vs,he,ha=>by
  cases l with
  |nil=>simp[Ty.parse] at he
  |cons c r=>
   cases c with
   |nilS=>
    simp only[Ty.parse,Uw,UC] at he;obtain⟨rfl,rfl⟩:=he;cases vs with
    |nil=>exact ha.elim
    |cons v vs=>exact⟨[v],vs,rfl,⟨none,0,by rw[show v=_ from ha.1];rfl,by simp,fun i x e=>by simp at e⟩,ha.2⟩
   |sl d t' xs=>
    cases d with
    |some d=>simp[Ty.parse] at he
    |none=>
     simp only[Ty.parse] at he;split at he
     ·rename_i ht;subst ht;simp only[Uw,UC] at he;obtain⟨rfl,rfl⟩:=he;cases vs with
      |nil=>exact ha.elim
      |cons v vs=>exact⟨[v],vs,rfl,RdS.iff.1 ha.1.2,ha.2⟩
     ·cases he
   |_=>simp[Ty.parse] at he
 | .nil,l,x,rest,vs,he,ha=>by
  simp only[Ty.parse,Uw,UC] at he;obtain⟨_,rfl⟩:=he;exact⟨[],vs,rfl,rfl,ha⟩
 | .fn,l,x,rest,vs,he,ha=>by
  cases l with
  |nil=>simp[Ty.parse] at he
  |cons c r=>
   cases c with
   |fn b=>
    simp only[Ty.parse,Uw,UC] at he;obtain⟨rfl,rfl⟩:=he;cases vs with
    |nil=>exact ha.elim
    |cons v vs=>exact⟨[v],vs,rfl,ha.1.2,ha.2⟩
   |_=>simp[Ty.parse] at he
 | .pair a b,l,x,rest,vs,he,ha=>by
  simp only[Ty.parse] at he;split at he
  ·rename_i x1 r1 h1;split at he
   ·rename_i x2 r2 h2;simp only[Uw,UC] at he;obtain⟨rfl,rfl⟩:=he;obtain⟨v1,v2,rfl,hr1,ha1⟩:=Rd.parse h1 ha;obtain⟨v3,v4,rfl,hr2,ha2⟩:=Rd.parse h2 ha1;exact⟨v1++v3,v4,by simp,⟨v1,v3,rfl,hr1,hr2⟩,ha2⟩
   ·cases he
  ·cases he
theorem Rd.ofCells{t:Ty}{l:List Cell}{x:t.D}{vs:List Value}(he:t.ofCells l=some x)(ha:ai (av C γ h w) l vs):Rd w (okb C γ h none) t x vs:=by
 unfold Ty.ofCells at he;split at he
 ·rename_i y hp;simp only[Uw] at he;subst he;obtain⟨v1,v2,rfl,hr,ha⟩:=Rd.parse hp ha;cases v2 with
  |nil=>simpa using hr
  |cons _ _=>exact ha.elim
 ·cases he
theorem MX{st:St}{a:Act}(R':Rel C γ w st a.tmps){o:Oper}{t:TypeId}{ti:TI}(hi:aS P t ti)(ho:o.op=.alloc t){rd:List Nat} :
  gH P C w st a o ⟨.v (.c (.ptr (dk o.dst) (st.h.next (dk o.dst)) 0)),rd,[(dk o.dst,⟨st.h.next (dk o.dst),0,.cells ti.zero⟩)]⟩:=by
 obtain⟨z,hz,hzs,hza⟩:=oz (C:=C) (γ:=γ) (h:=st.h) (w:=w) hi;refine Kl R' hza (T:=t) ?_;simp[execOp,ho,Instr.alloc,hz,newVar,newRow]
theorem M8{st:St}{a:Act}(R':Rel C γ w st a.tmps){o:Oper}{t:TypeId}{x:Operand}{v:V1}(hx:opd st x=some v)(ho:o.op=.box t x){rd:List Nat} :
  gH P C w st a o ⟨.v (.c (.ptr (dk o.dst) (st.h.next (dk o.dst)) 0)),rd,[(dk o.dst,⟨st.h.next (dk o.dst),0,.cells v.cells⟩)]⟩:=by
 obtain⟨h1,h2⟩:=R'.opd hx;refine Kl R' h1.cells (T:=t) ?_;simp[execOp,ho,Instr.box,newVar,newRow]
theorem bq.set{ok:Nat->Prop}{t:Ty}{xs:List t.D}{cur:List Value}(hr:bq w ok t xs cur)(hl:cur.length=xs.length*t.size){i:Nat}(hi:i<xs.length){x:t.D}{ds:List Value}(hd:Rd w ok t x ds) :
  bq w ok t (xs.set i x) (cur.take (i*t.size)++ds++cur.drop (i*t.size+t.size)):=by
 have hlen:=hd.length;have hle:i*t.size+t.size<=cur.length:=by
  rw[hl]
  calc i*t.size+t.size=(i+1)*t.size:=by rw[Nat.add_mul,Nat.one_mul]
   _<=xs.length*t.size:=Nat.mul_le_mul_right _ hi
 intro j y hj;rw[List.getElem?_set] at hj;by_cases e:i=j
 ·subst e;rw[if_pos rfl,if_pos hi] at hj;simp only[Uw] at hj;subst hj;have:((cur.take (i*t.size)++ds++cur.drop (i*t.size+t.size)).drop (i*t.size)).take t.size=ds:=by
   rw[UM,List.drop_append_of_le_length (by simp;omega),List.drop_of_length_le (by simp;omega),UY,List.take_append_of_le_length (by omega),List.take_of_length_le (by omega)]
  rw[this];exact hd
 ·rw[if_neg e] at hj;have:=hr j y hj;have hjl:j<xs.length:=(UI.1 hj).1;have hjle:j*t.size+t.size<=cur.length:=by
   rw[hl]
   calc j*t.size+t.size=(j+1)*t.size:=by rw[Nat.add_mul,Nat.one_mul]
    _<=xs.length*t.size:=Nat.mul_le_mul_right _ hjl
  have heq:((cur.take (i*t.size)++ds++cur.drop (i*t.size+t.size)).drop (j*t.size)).take t.size=(cur.drop (j*t.size)).take t.size:=by
   apply List.ext_getElem?;intro m;rw[UZ,UZ];split
   ·rename_i hm;rw[Va,Va];rcases Nat.lt_or_gt_of_ne e with hlt|hgt
    ·have h1:i*t.size+t.size<=j*t.size:=by
      calc i*t.size+t.size=(i+1)*t.size:=by rw[Nat.add_mul,Nat.one_mul]
       _<=j*t.size:=Nat.mul_le_mul_right _ hlt
     rw[UM,List.getElem?_append_right (by simp;omega),List.getElem?_append_right (by simp;omega),Va];congr 1;simp;omega
    ·have h1:j*t.size+t.size<=i*t.size:=by
      calc j*t.size+t.size=(j+1)*t.size:=by rw[Nat.add_mul,Nat.one_mul]
       _<=i*t.size:=Nat.mul_le_mul_right _ hgt
     rw[UM,Ve (by simp;omega),UZ,if_pos (by omega)]
   ·rfl
  rw[heq];exact this
theorem tQ{t:Ty}{ok:Nat->Prop}(hok:∀{l:List Cell}{x:t.D}{vs:List Value},t.ofCells l=some x->ai (av C γ h w) l vs->Rd w ok t x vs) :
  ∀{ps:List (Nat×V1)}{qs:List (Nat×Value)}{acc xs:List t.D}{vs:Array Value},nA t acc ps=some xs->bq w ok t acc vs.toList->vs.size=acc.length*t.size ->
  ai (fun(p:Nat×V1) (q:Nat×Value)=>p.1=q.1/\ai (av C γ h w) p.2.cells q.2.cells.toList) ps qs ->
  ∃vs':Array Value,Instr.fill (fun i=>some (i*t.size,t.size)) vs qs=some vs'/\bq w ok t xs vs'.toList/\vs'.size=vs.size/\xs.length=acc.length
 |[],[],acc,xs,vs,he,hr,hl,_=>by
  simp only[nA,Uw] at he;subst he;exact⟨vs,rfl,hr,rfl,rfl⟩
 |(i,x)::ps,(j,v)::qs,acc,xs,vs,he,hr,hl,hp=>by
  obtain⟨⟨hij,hc⟩,hp⟩:=hp;simp only at hij;subst hij;simp only[nA] at he;split at he
  ·rename_i y hy;obtain⟨hi,he⟩:=aa he;have hd:=hok hy hc;have hlen:=hd.length;have hle:i*t.size+t.size<=vs.size:=by
    rw[hl]
    calc i*t.size+t.size=(i+1)*t.size:=by rw[Nat.add_mul,Nat.one_mul]
     _<=acc.length*t.size:=Nat.mul_le_mul_right _ hi
   have hsz:v.cells.size=t.size:=by simpa using hlen
   have hset:(v.cells.zipIdx.foldl (fun(cs:Array Value) (p:Value×Nat)=>cs.setIfInBounds (i*t.size+p.2) p.1) vs).toList=vs.toList.take (i*t.size)++v.cells.toList++vs.toList.drop (i*t.size+t.size):=by
    rw[<- Array.foldl_toList,Array.toList_zipIdx];have:=AV v.cells.toList 0 (i*t.size) vs (by simp;omega);simpa[hsz] using this
   have hr':=hr.set (by simpa using hl) hi hd;rw[<- hset] at hr';have hsize:(v.cells.zipIdx.foldl (fun(cs:Array Value) (p:Value×Nat)=>cs.setIfInBounds (i*t.size+p.2) p.1) vs).size=vs.size:=by
    rw[<- Array.length_toList,hset];simp;omega
   obtain⟨vs',h3,h4,h5,h6⟩:=tQ hok he hr' (by rw[hsize,hl];simp) hp;refine⟨vs',?_,h4,by rw[h5,hsize],by rw[h6];simp⟩;simp only[Instr.fill];rw[if_neg (by simp;omega)];exact h3
  ·cases he
 |[],_::_,_,_,_,_,_,_,hp=>hp.elim
 |_::_,[],_,_,_,_,_,_,hp=>hp.elim
end
end Rv
