/- Texts put together. -/
import Derived.Test.YtfphlcngbllgoaaGreatDoorA1
import Derived.WalkKit
set_option linter.all false
open Option renaming some→J,none→O
open _root_ renaming Option→W,Nat→X,List→Y,Bool→zac,if_pos→zae,if_neg→zaf
open Go renaming TypeId→Z,Value→G,World→zaa
open Bool renaming true→M,false→zab
open Decidable renaming decide→zah
namespace Rv
open Go
inductive CD where
 |int (k:IntKind)|bool|str|sl (t:Ty)|row (e:Z) (t:Ty)|ptr (i off:X)|raw (v:G)|err|ifo (t:Z) (k:IntKind)|any|fn|pp (t:Ty)|clr (i:X) (fs:Y FuncId)|slc (t:Ty)
@[reducible] def CD.T:CD->Type
 | .int _=>Int
 | .bool=>zac
 | .str=>Str
 | .sl t=>Y t.D
 | .row _ t=>Y t.D
 | .err=>zac
 | .ifo _ _=>W Int
 | .fn=>Fn
 | .pp t=>t.D
 | .slc t=>Y t.D
 |_=>Unit
inductive SD where
 |c (x:CD)
 |agg (l:Y CD)
 |clo (f:FuncId) (l:Y CD)
def SD.cds:SD->Y CD
 | .c x=>[x]
 | .agg l=>l
 | .clo _ l=>l
@[reducible] def TL:Y CD->Type
 |[]=>Unit
 |c::r=>c.T×TL r
structure Shape where
 slots:Y (X×SD)
 boxes:Y (W X×Y CD)
def Shape.all(sh:Shape):Y CD:=(sh.slots.flatMap λp=>p.2.cds)++sh.boxes.flatMap (·.2)
@[reducible] def Shape.T (sh:Shape):Type:=TL sh.all
abbrev Nm:=X->X×X
def CD.mk(nm:Nm):(c:CD)->c.T->X->Cell×Y (X×En)×X
 | .int k,n,m=>(.int k n,[],m)
 | .bool,b,m=>(.bool b,[],m)
 | .str,s,m=>(.str s,[],m)
 | .sl t,xs,m=>(.sl O t xs,[],m)
 | .row e t,xs,m=>(.own (nm m).1 (nm m).2,[((nm m).1,⟨(nm m).2,0,.row e t xs⟩)],m+1)
 | .ptr i off,_,m=>(.ptr (nm i).1 (nm i).2 off,[],m)
 | .raw v,_,m=>(.raw v,[],m)
 | .err,b,m=>(.err b,[],m)
 | .ifo t k,o,m=>(.ifo t k o,[],m)
 | .any,_,m=>(.dead,[],m)
 | .fn,x,m=>(.fn x,[],m)
 | .pp t,x,m=>(.slp O t [x] 0 0,[],m)
 | .clr i fs,_,m=>(.clr (nm i).1 (nm i).2 fs,[],m)
 | .slc t,xs,m=>(.slc O t xs,[],m)
def mkL(nm:Nm):(l:Y CD)->TL l->X->Y Cell×Y (X×En)×X
 |[],_,m=>([],[],m)
 |c::r,x,m=>
  let a:=c.mk nm x.1 m
  let b:=mkL nm r x.2 a.2.2
  (a.1::b.1,a.2.1++b.2.1,b.2.2)
def ax(l:Y V):Y (X×SD)->Y Cell->Y V×Y Cell
 |[],cs=>(l,cs)
 |(i,.c _)::r,cs=>ax (l.set i (.v (.c (cs.headD .dead)))) r cs.tail
 |(i,.agg ds)::r,cs=>ax (l.set i (.v (.agg (cs.take ds.length)))) r (cs.drop ds.length)
 |(i,.clo f ds)::r,cs=>ax (l.set i (.clo f (cs.take ds.length))) r (cs.drop ds.length)
def aR(nm:Nm):X->Y (W X×Y CD)->Y Cell->Y (X×En)
 |_,[],_=>[]
 |i,(_,ds)::r,cs=>((nm i).1,⟨(nm i).2,0,.cells (cs.take ds.length)⟩)::aR nm (i+1) r (cs.drop ds.length)
structure Mk where
 s:Y V
 bs:Y (X×En)
 rs:Y (X×En)
def Shape.mkAll(sh:Shape)(nm:Nm)(N:X)(x:sh.T):Mk:=
 let a:=mkL nm sh.all x sh.boxes.length
 let b:=ax (List.replicate N V.dead) sh.slots a.1
 ⟨b.1,aR nm 0 sh.boxes b.2,a.2.1⟩
def nmJ:Nm:=λi=>(16*i+15,0)
def Shape.mk'(sh:Shape)(nm:Nm)(N:X)(x:sh.T):St:=
 let m:=sh.mkAll nm N x
 ⟨m.s,Heap.ofList (m.bs++m.rs)⟩
def vM:G->G->zac
 | .nilIface,.nilIface=>M
 | .pointer O,.pointer O=>M
 | .nilFunc,.nilFunc=>M
 | .func (.func f) a b,.func (.func g) c d=>f == g&&a.isEmpty&&b.isEmpty&&c.isEmpty&&d.isEmpty
 |_,_=>zab
structure Met where
 rows:Y (W X)
 deps:Y X
def gP(t t':Ty)(xs:Y t.D):W (Y t'.D):=if h:t=t' then J (h ▸ xs) else O
def yO(h:Heap)(t:Ty):Box->W (Y t.D)
 | .row _ t' xs=>gP t' t xs
 | .pub t' xs=>gP t' t xs
 |_=>O
def CD.abs(h:Heap)(bm:Y X):(c:CD)->Cell->W (c.T×Met)
 | .int k,.int j n=>if j=k then J (n,⟨[],[]⟩) else O
 | .bool,.bool b=>J (b,⟨[],[]⟩)
 | .str,.str s=>J (s,⟨[],[]⟩)
 | .sl _,.nilS=>J ([],⟨[],[]⟩)
 | .sl t,.sl d t' xs=>if h.depOk d then match gP t' t xs with
  |some ys=>J (ys,⟨[],(d.map (·.1)).toList⟩)
  |none=>O
  else O
 | .sl t,.own k v=>match h.at k v with
  |some b=>match yO h t b with
   |some ys=>J (ys,⟨[],[k]⟩)
   |none=>O
  |none=>O
 | .sl t,.ownP k v n=>match h.at k v with
  |some b=>match yO h t b with
   |some ys=>J (ys.take n,⟨[],[k]⟩)
   |none=>O
  |none=>O
 | .row _ _,.nilS=>J ([],⟨[O],[]⟩)
 | .row e t,.own k v=>match h.at k v with
  |some (.row e' t' xs)=>if e'=e then match gP t' t xs with
   |some ys=>J (ys,⟨[J k],[]⟩)
   |none=>O
   else O
  |_=>O
 | .row e t,.ownP k v n=>match h.at k v with
  |some (.row e' t' xs)=>if e'=e then match gP t' t xs with
   |some ys=>J (ys.take n,⟨[J k],[]⟩)
   |none=>O
   else O
  |_=>O
 | .ptr i off,.ptr k v o=>if bm[i]?=J k then(if off=o then(match h.at k v with
  |some (.cells _)=>J ((),⟨[],[]⟩)
  |_=>O) else O) else O
 | .raw v,.raw u=>if vM v u then J ((),⟨[],[]⟩) else O
 | .err,.err b=>J (b,⟨[],[]⟩)
 | .err,.raw u=>if vM u .nilIface then J (M,⟨[],[]⟩) else O
 | .err,.ifo _ _ o=>J (o.isNone,⟨[],[]⟩)
 | .ifo t k,.ifo t' k' o=>if t'=t/\k'=k then J (o,⟨[],[]⟩) else O
 | .ifo _ _,.raw u=>if vM u .nilIface then J (O,⟨[],[]⟩) else O
 | .fn,.fn x=>J (x,⟨[],[]⟩)
 | .pp t,.slp O t' xs i off=>if off=0 then match gP t' t xs with
  |some ys=>match ys[i]? with
   |some y=>J (y,⟨[],[]⟩)
   |none=>O
  |none=>O
  else O
 | .pp t,.ptr k v off=>match h.at k v with
  |some (.cells l)=>if off+t.size<=l.length then match t.ofCells ((l.drop off).take t.size) with
   |some y=>J (y,⟨[],[k]⟩)
   |none=>O
   else O
  |_=>O
 | .clr i fs,.clr k v gs=>if bm[i]?=J k then(if fs=gs then(match h.at k v with
  |some (.cells _)=>J ((),⟨[],[]⟩)
  |_=>O) else O) else O
 | .slc t,.slc d t' xs=>if h.depOk d then match gP t' t xs with
  |some ys=>J (ys,⟨[],(d.map (·.1)).toList⟩)
  |none=>O
  else O
 | .sl t,.slc d t' xs=>if h.depOk d then match gP t' t xs with
  |some ys=>J (ys,⟨[],(d.map (·.1)).toList⟩)
  |none=>O
  else O
 | .any,_=>J ((),⟨[],[]⟩)
 |_,_=>O
def eF(h:Heap)(bm:Y X):(l:Y CD)->Y Cell->W (TL l×Met)
 |[],[]=>J ((),⟨[],[]⟩)
 |c::r,x::xs=>match c.abs h bm x with
  |some (y,m)=>match eF h bm r xs with
   |some (ys,m')=>J ((y,ys),⟨m.rows++m'.rows,m.deps++m'.deps⟩)
   |none=>O
  |none=>O
 |_,_=>O
def dx(l:Y V):Y (X×SD)->W (Y Cell)
 |[]=>J []
 |(i,.c _)::r=>match l[i]? with
  |some (.v (.c x))=>match dx l r with
   |some cs=>J (x::cs)
   |none=>O
  |_=>O
 |(i,.agg ds)::r=>match l[i]? with
  |some (.v (.agg xs))=>if xs.length=ds.length then match dx l r with
   |some cs=>J (xs++cs)
   |none=>O
   else O
  |_=>O
 |(i,.clo f ds)::r=>match l[i]? with
  |some (.clo f' xs)=>if f'=f/\xs.length=ds.length then match dx l r with
   |some cs=>J (xs++cs)
   |none=>O
   else O
  |_=>O
def bq(h:Heap):Y (W X×Y CD)->Y Cell->Y X->W (Y Cell×Y X)
 |[],cs,bm=>J (cs,bm)
 |(O,ds)::r,cs,bm=>match h.at (nmJ bm.length).1 0 with
  |some (.cells l)=>if l.length=ds.length then bq h r (cs++l) (bm++[(nmJ bm.length).1]) else O
  |_=>O
 |(J p,ds)::r,cs,bm=>match cs[p]? with
  |some (.ptr k v _)=>match h.at k v with
   |some (.cells l)=>if l.length=ds.length then bq h r (cs++l) (bm++[k]) else O
   |_=>O
  |_=>O
structure Abs (α:Type) where
 x:α
 bm:Y X
 m:Met
def nodupB:Y X->zac
 |[]=>M
 |a::r=>!(r.contains a)&&nodupB r
def Shape.abs(sh:Shape)(st:St):W (Abs sh.T):=
 match dx st.s sh.slots with
 |some cs=>match bq st.h sh.boxes cs [] with
  |some (all,bm)=>match eF st.h bm sh.all all with
   |some (x,m)=>if nodupB (bm++m.rows.filterMap id)&&m.deps.all (λd=>!((bm++m.rows.filterMap id).contains d)) then J ⟨x,bm,m⟩ else O
   |none=>O
  |none=>O
 |none=>O
def Abs.keys{α:Type}(a:Abs α):Y X:=a.bm++a.m.rows.filterMap id
def Shape.pins(sh:Shape)(n:X):zac:=zah (n<=sh.boxes.length)&&(sh.boxes.take n).all λp=>p.1.isNone
structure Spec where
 a:Shape
 r:Shape
 f:a.T->W r.T
structure JH (R:Type) where
 sh:Shape
 j:Y X->sh.T->W R
structure LH (R:Type) where
 sh:Shape
 l:Y X->X->sh.T->W R
structure Env (R:Type) where
 te:Z->W TI
 spec:FuncId->Y FuncId->W Spec
 join:X->W (JH R)
 loop:X->W (LH R)
 lab:X->W (LH R)
 n:X
 N:X
 nl:X:=0
 maps:X->Z->W (Cell->W (Cell×zac)):=λ_ _=>O
 fns:Y Fn:=[]
def Ty.hasSl:Ty->zac
 | .sl _=>M
 | .fn=>M
 | .pair a b=>a.hasSl||b.hasSl
 |_=>zab
def CD.shares:CD->zac
 | .sl _=>M
 | .fn=>M
 | .pp _=>M
 | .clr _ _=>M
 | .slc _=>M
 | .row _ t=>t.hasSl
 |_=>zab
def V.toV1:V->V1
 | .v x=>x
 |_=>.c .dead
def bN(h:Heap)(deps:Y X):Y (X×En):=
 deps.filterMap λk=>match h k with
  |some ⟨v,dv,.row _ t xs⟩=>J (k,(⟨v,dv,.pub t xs⟩:En))
  |_=>O
def JC:Y V->V
 |[v]=>v
 |l=>.tup (l.map V.toV1)
def nmP(h:Heap)(d:X):Nm:=λi=>(16*d+i,h.next (16*d+i))
def nmI(h:Heap)(d:X)(bm:Y X):Nm:=λi=>
 match bm[i]? with
 |some k=>(k,match h k with|some e=>e.ver|none=>0)
 |none=>nmP h d i
def lF(h:Heap)(ks:Y X):Y (X×En):=ks.filterMap λk=>(h k).map λe=>(k,e)
def gy(h:Heap)(ks:Y X):Y (X×En):=ks.map λk=>(k,⟨h.next k,0,.gone⟩)
def gJ(st:St)(d:X)(sp:Spec)(a:Abs sp.a.T)(y:sp.r.T):Dl:=
 let m:=sp.r.mkAll (nmI st.h d a.bm) sp.r.slots.length y
 ⟨JC m.s,[],(if a.keys.isEmpty then[] else lF st.h a.m.deps)++((if sp.r.all.any CD.shares then bN st.h a.m.deps else[])++(gy st.h (a.m.rows.filterMap id)++(m.bs++m.rs)))⟩
def CD.isRow:CD->zac
 | .row _ _=>M
 |_=>zab
def CD.ptrB(n:X):CD->zac
 | .ptr i _=>zah (i<n)
 | .clr i _=>zah (i<n)
 |_=>M
def CD.boxN:CD->W X
 | .ptr i _=>J i
 | .clr i _=>J i
 |_=>O
theorem CD.ptrB_lt{n i:X}{c:CD}(hc:c.boxN=J i)(hp:c.ptrB n=M):i<n:=by
 cases c<;>simp only[CD.boxN,ND,reduceCtorEq] at hc<;>subst hc<;>simpa[CD.ptrB] using hp
def SD.isV:SD->zac
 | .clo _ _=>zab
 |_=>M
def Shape.okRes(r:Shape)(nb:X):zac:=zah (r.boxes.length=nb)&&r.pins nb&&zah (r.slots.map (·.1)=List.range r.slots.length)&&r.all.all (CD.ptrB nb)&&r.slots.all λp=>p.2.isV
def nJ(h:Heap)(k:X):zac:=
 match h k with
 |some e=>zah (e.dver=0)
 |none=>zab
def aS(d:X)(r:Shape):Y X:=(List.range (r.all.filter CD.isRow).length).map λj=>16*d+(r.boxes.length+j)
def mE(h:Heap)(k:X):zac:=
 match h k with
 |some ⟨_,_,.cells _⟩=>zab
 |_=>M
def nD(h:Heap)(d:X)(sp:Spec)(a:Abs sp.a.T)(n:X):zac:=
 zah (n=sp.a.slots.length)&&sp.r.okRes sp.a.boxes.length&&a.bm.all (nJ h)&&((aS d sp.r).all λk=>!a.keys.contains k)&&(!(sp.r.all.any CD.shares)||a.m.deps.all (mE h))
def gM(st:St):Y Operand->W (Y V1)
 |[]=>J []
 |x::r=>match opd st x with
  |some v=>match gM st r with
   |some l=>J (v::l)
   |none=>O
  |none=>O
def gU(st:St):Y Operand->W (Y V)
 |[]=>J []
 |x::r=>match opdV st x with
  |some v=>match gU st r with
   |some l=>J (v::l)
   |none=>O
  |none=>O
def V.cloId:V->W FuncId
 | .clo f _=>J f
 |_=>O
def jE:Y V1->W (Y Cell)
 |[]=>J []
 | .c x::r=>match jE r with
  |some l=>J (x::l)
  |none=>O
 | .agg _::_=>O
def jb(st:St):Operand->W (FuncId×Y Cell)
 | .func f=>J (f,[])
 | .tmp t=>match st.s[t]? with
  |some (.clo f cs)=>if f<fe then J (f,cs) else O
  |some (.v (.c (.raw (.func (.func f) a b))))=>if a.isEmpty&&b.isEmpty then J (f,[]) else O
  |_=>O
 |_=>O
def jD(st:St):Operand->W (FuncId×Y Cell)
 | .tmp t=>match st.s[t]? with
  |some (.clo f cs)=>if f<fe then O else J (f-fe,cs)
  |_=>O
 |_=>O
def wD(st:St):Operand->W Fn
 | .tmp t=>match st.s[t]? with
  |some (.v (.c (.fn x)))=>J x
  |_=>O
 |_=>O
variable{R:Type}
def one(K:V->W R):V1->W R:=λx=>K (.v x)
def au{α:Type}(x:W α)(K:α->W R):W R:=
 match x with
 |some a=>K a
 |none=>O
def fo(n:X)(lo hi mx:W V1)(K:X->X->W R):W R:=
 let top:(Int->W R)->W R:=λC=>match mx with
  |none=>C n
  |some (.c (.int _ m))=>if 0<=m/\m<=(n:Int) then C m else O
  |some _=>O
 top λm=>
 let high:(Int->W R)->W R:=λC=>match hi,mx with
  |none,O=>C n
  |some (.c (.int _ h)),_=>if 0<=h/\h<=m then C h else O
  |_,_=>O
 high λh=>
 match lo with
 |none=>K 0 h.toNat
 |some (.c (.int _ l))=>if 0<=l/\l<=h then K l.toNat h.toNat else O
 |some _=>O
def jw(st:St):W Operand->W (W V1)
 |none=>J O
 |some x=>match opd st x with
  |some v=>J (J v)
  |none=>O
def fJ(place:X->W (X×X))(cells:Y Cell):Y (X×V1)->W (Y Cell)
 |[]=>J cells
 |(i,v)::r=>match place i with
  |none=>O
  |some (off,size)=>if v.cells.length=size/\off+size<=cells.length then fJ place (cells.take off++v.cells++cells.drop (off+size)) r else O
def partsOf(st:St):Y (X×Operand)->W (Y (X×V1))
 |[]=>J []
 |(i,x)::r=>match opd st x with
  |some v=>match partsOf st r with
   |some l=>J ((i,v)::l)
   |none=>O
  |none=>O
def fu(st:St):Y (X×Operand)->W (X×X×Y FuncId)
 |[]=>O
 |[(_,x)]=>match opdV st x with
  |some (.clo f [.ptr k v 0])=>J (k,v,[f])
  |_=>O
 |(_,x)::r=>match opdV st x with
  |some (.clo f [.ptr k v 0])=>match fu st r with
   |some (k',v',fs)=>if k'=k/\v'=v then J (k,v,f::fs) else O
   |none=>O
  |_=>O
def dG(te:Z->W TI)(st:St)(t:Z)(x:V1)(K:V1->W R):W R:=
 match x,te t with
 | .c (.ptr k v off),J ti=>match st.h.at k v with
  |some (.cells l)=>if off+ti.size<=l.length then au (mkV ti.agg ((l.drop off).take ti.size)) K else O
  |_=>O
 | .c (.elt k v i off),J ti=>match st.h.at k v with
  |some (.row _ t xs)=>if off+ti.size<=t.size then au (mkV ti.agg (((t.cells O (xs.getD i t.dflt)).drop off).take ti.size)) K else O
  |some (.pub t xs)=>if off+ti.size<=t.size then au (mkV ti.agg (((t.cells O (xs.getD i t.dflt)).drop off).take ti.size)) K else O
  |_=>O
 | .c (.pel k v base n i),J ti=>match st.h.at k v with
  |some (.cells l)=>if base+n<=l.length/\ti.size=1/\ti.agg=zab then au (yN ((l.drop base).take n) i) λc=>K (.c c) else O
  |_=>O
 | .c (.slp d t xs i off),J ti=>if st.h.depOk d then(if off+ti.size<=t.size then au (mkV ti.agg (((t.cells O (xs.getD i t.dflt)).drop off).take ti.size)) K else O) else O
 |_,_=>O
def jq(te:Z->W TI)(st:St)(t:Z)(v:V1)(K:V->W R):W R:=
 match v with
 | .c (.cle k kv f)=>match te t,st.h.at k kv with
  |some ti,J (.cells _)=>if ti.size=1/\ti.agg=zab/\f<fe then K (.clo f [.ptr k kv 0]) else O
  |_,_=>O
 |v=>dG te st t v (one K)
def dY(te:Z->W TI)(t:Z):W X:=
 match (te t).bind (·.elem) with
 |some e=>match te e with
  |some ti=>J ti.size
  |none=>O
 |none=>O
def isStr(te:Z->W TI)(t:Z):zac:=
 match te t with
 |some ti=>ti.str
 |none=>zab
def isBool(te:Z->W TI)(t:Z):zac:=
 match te t with
 |some ti=>match ti.ty with
  |some .bool=>M
  |_=>zab
 |none=>zab
def isIface(te:Z->W TI)(t:Z):zac:=
 match te t with
 |some ti=>ti.iface
 |none=>zab
def nE(te:Z->W TI)(t:Z):W IntKind:=
 match te t with
 |some ti=>if ti.cmp=M then ti.int else O
 |none=>O
def mr(te:Z->W TI)(t:Z)(y:Operand):zac:=
 (match te t with|some ti=>ti.iface|none=>zab)&&(match y with | .const _=>M|_=>zab)
def D8(te:Z->W TI)(t:Z):W Ty:=
 match te t with
 |some ti=>ti.eq
 |none=>O
def wZ(te:Z->W TI)(src dst:Z):zac:=
 isStr te dst&&(match (te src).bind (·.elem) with
  |some e=>match te e with
   |some ti=>match ti.int with
    |some .u8=>M
    |_=>zab
   |none=>zab
  |none=>zab)
def qx(te:Z->W TI)(src dst:Z):zac:=
 isStr te src&&(match (te dst).bind (·.elem) with
  |some e=>match te e with
   |some ti=>match ti.int with
    |some .u8=>M
    |_=>zab
   |none=>zab
  |none=>zab)
def rowLen(h:Heap)(k v:X):W (Ty×X):=
 match h.at k v with
 |some (.row _ t xs)=>J (t,xs.length)
 |some (.pub t xs)=>J (t,xs.length)
 |_=>O
def nz(te:Z->W TI)(t:Z):W X:=
 match te t with
 |some ti=>match ti.arr with
  |some n=>if ti.size=n then J n else O
  |none=>O
 |none=>O
def uQ(te:Z->W TI)(t:Z):W (X×X):=
 match te t with
 |some ti=>match ti.arr with
  |some n=>J (n,ti.size / n)
  |none=>O
 |none=>O
def pI(i:Int)(K:X->W R):X->X->W R
 |_,0=>O
 |j,n+1=>if i=(j:Int) then K j else pI i K (j+1) n
theorem pJ{i:Int}{K:X->W R}{r:R}:∀{n j:X},pI i K j n=J r->∃m,j<=m/\m<j+n/\i=(m:Int)/\K m=J r/\∀K':X->W R,pI i K' j n=K' m
 |0,_,h=>by cases h
 |n+1,j,h=>by
  rw[pI] at h;by_cases e:i=(j:Int)
  ·rw[zae e] at h;exact⟨j,NL _,by omega,e,h,λK'=>by rw[pI,zae e]⟩
  ·rw[zaf e] at h;obtain⟨m,h1,h2,h3,h4,h5⟩:=pJ h;exact⟨m,by omega,by omega,h3,h4,λK'=>by rw[pI,zaf e,h5 K']⟩
def pG(i:Int)(K:FuncId->W R):X->Y FuncId->W R
 |_,[]=>O
 |j,f::fs=>if i=(j:Int) then K f else pG i K (j+1) fs
theorem rq{i:Int}{K:FuncId->W R}{r:R}:∀{fs:Y FuncId}{j:X},pG i K j fs=J r->∃m f,fs[m]?=J f/\i=((j+m:X):Int)/\K f=J r/\∀K':FuncId->W R,pG i K' j fs=K' f
 |[],_,h=>by cases h
 |f::fs,j,h=>by
  rw[pG] at h;by_cases e:i=(j:Int)
  ·rw[zae e] at h;exact⟨0,f,rfl,by omega,h,λK'=>by rw[pG,zae e]⟩
  ·rw[zaf e] at h;obtain⟨m,g,h1,h2,h3,h4⟩:=rq h;exact⟨m+1,g,h1,by omega,h3,λK'=>by rw[pG,zaf e,h4 K']⟩
def aQ(st:St)(es ar:W X)(el:W (X×X))(x i:V1)(K:V1->W R):W R:=
 match x,i with
 | .c (.sl d t xs),.c (.int _ i)=>if st.h.depOk d then(if es=J t.size then(if 0<=i/\i<(xs.length:Int) then K (.c (.slp d t xs i.toNat 0)) else O) else O) else O
 | .c (.own k v),.c (.int _ i)=>match rowLen st.h k v with
  |some (t,n)=>if es=J t.size then(if 0<=i/\i<(n:Int) then K (.c (.elt k v i.toNat 0)) else O) else O
  |none=>O
 | .c (.ownP k v n),.c (.int _ i)=>match rowLen st.h k v with
  |some (t,_)=>if es=J t.size then(if 0<=i/\i<(n:Int) then K (.c (.elt k v i.toNat 0)) else O) else O
  |none=>O
 | .c (.clr k v fs),.c (.int _ i)=>if es=J 1 then(match st.h.at k v with
  |some (.cells _)=>pG i (λf=>K (.c (.cle k v f))) 0 fs
  |_=>O) else O
 | .c (.ptr k v off),.c (.int _ i)=>match ar,st.h.at k v with
  |some n,J (.cells _)=>if 0<=i/\i<(n:Int) then K (.c (.pel k v off n i.toNat)) else O
  |none,J (.cells _)=>match el with
   |some (n,s)=>pI i (λj=>K (.c (.ptr k v (off+j*s)))) 0 n
   |none=>O
  |_,_=>O
 |_,_=>O
def ky(str:zac)(ar:W X)(x i:V1)(K:V1->W R):W R:=
 match x,i with
 | .c (.str s),.c (.int _ i)=>if str=M then(if 0<=i/\i<(s.length:Int) then K (.c (.int .u8 (bt s i))) else O) else O
 | .agg cs,.c (.int _ i)=>match ar with
  |some n=>if cs.length=n then(if 0<=i/\i<(n:Int) then au (yN cs i.toNat) λc=>K (.c c) else O) else O
  |none=>O
 |_,_=>O
def aU(st:St)(str:zac)(es:W X)(x:V1)(lo hi mx:W V1)(K:V1->W R):W R:=
 match x with
 | .c (.str s)=>match mx with
  |none=>if str=M then fo s.length lo hi O λl h=>K (.c (.str ((s.take h).drop l))) else O
  |some _=>O
 | .c .nilS=>if es.isSome then fo 0 lo hi mx λ_ _=>K (.c .nilS) else O
 | .c (.own k v)=>match rowLen st.h k v with
  |some (t,n)=>if es=J t.size then match lo,mx with
   |none,O=>fo n O hi O λ_ h=>K (.c (.ownP k v h))
   |_,_=>au (rowOf st.h (.own k v)) λr=>fo n lo hi mx λl h=>K (.c (.sl (eB st.h (.own k v)) r.1 ((r.2.take h).drop l)))
   else O
  |none=>O
 | .c (.ownP k v n)=>match rowLen st.h k v with
  |some (t,_)=>if es=J t.size then match lo,mx with
   |none,O=>fo n O hi O λ_ h=>K (.c (.ownP k v h))
   |_,_=>au (rowOf st.h (.ownP k v n)) λr=>fo n lo hi mx λl h=>K (.c (.sl (eB st.h (.ownP k v n)) r.1 ((r.2.take h).drop l)))
   else O
  |none=>O
 | .c (.sl d t xs)=>if st.h.depOk d then(if es=J t.size then fo xs.length lo hi mx λl h=>K (.c (.sl d t ((xs.take h).drop l))) else O) else O
 |_=>O
def gD(st:St)(str:zac)(es:W X)(x:V1)(lo hi mx:W V1)(K:V1->W R):W R:=
 match x,lo,hi,mx with
 | .c c,O,J (.c (.int _ a)),J (.c (.int _ b))=>match rowOf st.h c with
  |some r=>if es=J r.1.size/\a=(r.2.length:Int)/\b=(r.2.length:Int) then K (.c (.slc (eB st.h c) r.1 r.2)) else O
  |none=>aU st str es x lo hi mx K
 |_,_,_,_=>aU st str es x lo hi mx K
def fD(st:St)(str:zac)(es:W X)(x:V1)(K:X->W R):W R:=
 match x with
 | .c (.str s)=>if str=M then K s.length else O
 | .c (.sl d _ xs)=>if st.h.depOk d then(if es.isSome then K xs.length else O) else O
 | .c .nilS=>if es.isSome then K 0 else O
 | .c (.slc d _ xs)=>if st.h.depOk d then(if es.isSome then K xs.length else O) else O
 | .c (.clr k v fs)=>match st.h.at k v with
  |some (.cells _)=>if es.isSome then K fs.length else O
  |_=>O
 | .c (.own k v)=>match rowLen st.h k v with
  |some (_,n)=>if es.isSome then K n else O
  |none=>O
 | .c (.ownP k v n)=>match rowLen st.h k v with
  |some _=>if es.isSome then K n else O
  |none=>O
 |_=>O
def iB(f:Int->Int->Int)(k:IntKind)(acc:Int):Y V1->W Int
 |[]=>J acc
 | .c (.int k' n)::r=>if k=k' then iB f k (f acc n) r else O
 |_::_=>O
def kz(h:Heap):V->zac
 | .v (.c (.ptr k v _))=>match h.at k v with
  |some (.cells _)=>M
  |_=>zab
 | .v (.c (.elt k v _ _))=>(rowLen h k v).isSome
 | .v (.c (.slp d _ _ _ _))=>h.depOk d
 | .clo _ _=>M
 |_=>zab
def vop(te:Z->W TI)(st:St)(op:Op)(K:V->W R):W R:=
 match op with
 | .move x | .assign x=>au (opdV st x) K
 | .pick c a b=>match opd st c with
  |some (.c (.bool t))=>if t=M then au (opd st a) (one K) else au (opd st b) (one K)
  |_=>O
 | .build t parts=>match te t,partsOf st parts.toList with
  |some ti,J ps=>match ti.arr with
   |some n=>au (fJ (λi=>J (i*(ti.size / n),ti.size / n)) ti.zero ps) λcs=>K (.v (.agg cs))
   |none=>if ti.fields.isEmpty then O else au (fJ (λi=>ti.fields[i]?.map λf=>(f.1,f.2.1)) ti.zero ps) λcs=>K (.v (.agg cs))
  |_,_=>O
 | .load t x=>au (opd st x) λv=>jq te st t v K
 | .fieldAddr t x f=>match opd st x,(te t).bind (·.fields[f]?) with
  |some (.c (.ptr k v off)),J fd=>match st.h.at k v with
   |some (.cells _)=>K (.v (.c (.ptr k v (off+fd.1))))
   |_=>O
  |some (.c (.elt k v i off)),J fd=>match rowLen st.h k v with
   |some _=>K (.v (.c (.elt k v i (off+fd.1))))
   |none=>O
  |some (.c (.slp d t xs i off)),J fd=>if st.h.depOk d then K (.v (.c (.slp d t xs i (off+fd.1)))) else O
  |_,_=>O
 | .field t x f=>match opd st x,(te t).bind (·.fields[f]?) with
  |some (.agg cs),J fd=>if fd.1+fd.2.1<=cs.length then au (mkV fd.2.2 ((cs.drop fd.1).take fd.2.1)) (one K) else O
  |_,_=>O
 | .indexAddr t x i=>au (opd st x) λx=>au (opd st i) λi=>aQ st (dY te t) (nz te t) (uQ te t) x i (one K)
 | .index t x i=>au (opd st x) λx=>au (opd st i) λi=>ky (isStr te t) (nz te t) x i (one K)
 | .slice t x lo hi mx=>au (opd st x) λx=>au (jw st lo) λlo=>au (jw st hi) λhi=>au (jw st mx) λmx=>gD st (isStr te t) (dY te t) x lo hi mx (one K)
 | .binOp op t x y _=>au (opd st x) λx'=>au (opd st y) λy'=>iM (isBool te t) (mr te t y) (isIface te t) (nE te) (D8 te t) op x' y' (one K)
 | .unOp op _ x=>au (opd st x) λx=>unK op x (one K)
 | .convert src dst x=>match opd st x,te dst with
  |some (.c (.int _ n)),J ti=>match ti.int with
   |some k=>if(te src).isSome then K (.v (.c (.int k (k.wrap n)))) else O
   |none=>O
  |_,_=>O
 | .makeInterface t x=>match te t with
  |some ti=>if ti.iface=M then O else match (match x with | .tmp s=>st.s[s]? | x=>(opd st x).map .v) with
   |some (.v (.c (.int k n)))=>K (.v (.c (.ifo t k (J n))))
   |some (.v _)=>K (.v (.c (.err zab)))
   |_=>O
  |none=>O
 | .makeFunc (.func f) first captured=>if f<fe then(if first.isEmpty=M then au (gM st captured.toList) λvs=>au (jE vs) λcs=>K (.clo f cs)
   else if captured.isEmpty=M then au (gM st first.toList) λvs=>au (jE vs) λcs=>K (.clo (f+fe) cs) else O) else O
 | .nilCheck x=>au (opdV st x) λv=>if kz st.h v=M then K v else O
 | .extract x i=>match x with
  | .tmp t=>match st.s[t]? with
   |some (.tup vs)=>au vs[i]? (one K)
   |_=>O
  |_=>O
 | .call { callee:=.builtin .len,args,argTypes }=>match args.toList,argTypes.toList with
  |[x],[t]=>au (opd st x) λx=>fD st (isStr te t) (dY te t) x λn=>K (.v (.c (.int .i64 n)))
  |_,_=>O
 | .call { callee:=.builtin .min,args,.. }=>match gM st args.toList with
  |some (.c (.int k n)::r)=>au (iB mn k n r) λn=>K (.v (.c (.int k n)))
  |_=>O
 | .call { callee:=.builtin .max,args,.. }=>match gM st args.toList with
  |some (.c (.int k n)::r)=>au (iB mx k n r) λn=>K (.v (.c (.int k n)))
  |_=>O
 |_=>O
def dk(d:W X):X:=16*d.getD 0
def V.keys:V->Y X
 | .v x=>x.keys
 | .clo _ cs=>cs.flatMap Cell.keys
 |_=>[]
def bW(st:St)(l:Y Operand):Y X:=
 l.flatMap λx=>match opdV st x with
  |some v=>v.keys
  |none=>[]
def sD(k:IntKind)(ns:Y Int)(n i:X)(x:Int):Y Cell:=(List.range n).map λj=>.int k ((ns.set i x).getD j 0)
def d9(te:Z->W TI)(st:St)(t:Z)(x v:V1)(K:Y (X×En)->W R):W R:=
 match x,te t with
 | .c (.ptr k kv off),J ti=>match st.h k with
  |some ⟨ver,dver,.cells l⟩=>if ver=kv then(if off+ti.size<=l.length/\v.cells.length=ti.size then K [(k,⟨ver,dver,.cells (l.take off++v.cells++l.drop (off+ti.size))⟩)] else O) else O
  |_=>O
 | .c (.pel k kv base n i),J ti=>match st.h k,v with
  |some ⟨ver,dver,.cells l⟩,.c (.int k0 y)=>if ver=kv then(if base+n<=l.length/\ti.size=1 then(match iT k0 ((l.drop base).take n) with
   |some ns=>K [(k,⟨ver,dver,.cells (l.take base++sD k0 ns n i y++l.drop (base+n))⟩)]
   |none=>O) else O) else O
  |_,_=>O
 | .c (.elt k kv i off),J ti=>match st.h k with
  |some ⟨ver,dver,.row e t xs⟩=>if ver=kv then(if off+ti.size<=t.size/\v.cells.length=ti.size then
    au (t.ofCells ((t.cells O (xs.getD i t.dflt)).take off++v.cells++(t.cells O (xs.getD i t.dflt)).drop (off+ti.size))) λy=>
     K [(k,⟨ver,dver+1,.row e t (xs.set i y)⟩)]
   else O) else O
  |_=>O
 |_,_=>O
def kZ(t:Ty)(acc:Y t.D):Y (X×V1)->W (Y t.D)
 |[]=>J acc
 |(i,v)::r=>match t.ofCells v.cells with
  |some x=>if i<acc.length then kZ t (acc.set i x) r else O
  |none=>O
def ji(h:Heap)(e:Z)(t:Ty):V1->W (Y t.D×W X)
 | .c .nilS=>J ([],O)
 | .c (.own k v)=>match h.at k v with
  |some (.row e' t' xs)=>if e'=e then(gP t' t xs).map (·,J k) else O
  |_=>O
 | .c (.ownP k v n)=>match h.at k v with
  |some (.row e' t' xs)=>if e'=e then(gP t' t xs).map λxs=>(xs.take n,J k) else O
  |_=>O
 |_=>O
def jr(h:Heap)(t:Ty):V1->W (Y t.D)
 | .c .nilS=>J []
 | .c c=>match rowOf h c with
  |some r=>gP r.1 t r.2
  |none=>O
 |_=>O
def gG(te:Z->W TI)(st:St)(d:W X)(sT:Z)(s x:V1)(K:Dl->W R):W R:=
 match (te sT).bind (·.elem) with
 |none=>O
 |some e=>match te e with
  |none=>O
  |some ti=>match ti.ty with
   |none=>O
   |some t=>match ji st.h e t s,jr st.h t x with
    |some (xs,k),J ys=>
     if(xs.length+ys.length)*ti.bytes<=140737488355328/\0<ti.bytes/\0<ti.size then
      K ⟨.v (.c (.own (dk d) (st.h.next (dk d)))),s.keys++x.keys++[dk d],
       (match k with|some k=>[(k,(⟨st.h.next k,0,.gone⟩:En))]|none=>[])++[(dk d,⟨st.h.next (dk d),0,.row e t (xs++ys)⟩)]⟩
     else O
    |_,_=>O
def eZ(te:Z->W TI)(st:St)(d:W X)(sT:Z)(s x:V1)(K:Dl->W R):W R:=
 match s with
 | .c (.slc dp t' xs')=>match (te sT).bind (·.elem) with
  |none=>O
  |some e=>match te e with
   |none=>O
   |some ti=>match ti.ty with
    |none=>O
    |some t=>match gP t' t xs',jr st.h t x with
     |some xs,J ys=>if st.h.depOk dp=M/\0<ys.length then
      (if(xs.length+ys.length)*ti.bytes<=140737488355328/\0<ti.bytes/\0<ti.size then
       K ⟨.v (.c (.own (dk d) (st.h.next (dk d)))),s.keys++x.keys++[dk d],[(dk d,⟨st.h.next (dk d),0,.row e t (xs++ys)⟩)]⟩
      else O) else O
     |_,_=>O
 |s=>gG te st d sT s x K
def nO(st:St)(d:W X)(b:Box)(c:X->X->Cell):Dl:=
 ⟨.v (.c (c (dk d) (st.h.next (dk d)))),[dk d],[(dk d,⟨st.h.next (dk d),0,b⟩)]⟩
def fH(h:Heap):Cell->Cell
 | .own k v=>match h.at k v with
  |some (.row _ t xs)=>.sl O t xs
  |some (.pub t xs)=>.sl O t xs
  |_=>.own k v
 | .ownP k v n=>match h.at k v with
  |some (.row _ t xs)=>.sl O t (xs.take n)
  |some (.pub t xs)=>.sl O t (xs.take n)
  |_=>.ownP k v n
 |c=>c
def V1.pub(h:Heap):V1->V1
 | .c x=>.c (fH h x)
 | .agg cs=>.agg (cs.map (fH h))
def Cell.ownK:Cell->Y X
 | .own k _=>[k]
 | .ownP k _ _=>[k]
 |_=>[]
def V1.ownKs(x:V1):Y X:=x.cells.flatMap Cell.ownK
def gB(h:Heap)(l:Y (X×En)):Heap:=l.foldl (λh p=>h.set p.1 p.2) h
def bU(st:St)(ks:Y X):St:=⟨st.s,gB st.h (bN st.h ks)⟩
def jZ:V1->V1->Y X
 | .c (.elt _ _ _ _),v=>v.ownKs
 |_,_=>[]
def nS(h:Heap):V1->V1->V1
 | .c (.elt _ _ _ _),v=>v.pub h
 |_,v=>v
def jk(E:Env R)(st:St)(d:W X)(f:FuncId)(cs:Y Cell)(vs:Y V)(K:Dl->W R):W R:=
 match E.spec f (vs.filterMap V.cloId) with
 |some sp=>match sp.a.abs ⟨vs++cs.map (λc=>V.v (.c c)),st.h⟩ with
  |some a=>if nD st.h (d.getD 0) sp a (vs.length+cs.length)=M then(sp.f a.x).bind λy=>K (gJ st (d.getD 0) sp a y) else O
  |none=>O
 |none=>O
def bf(E:Env R)(st:St)(o:Oper)(K:Dl->W R):W R:=
 match o.op with
 | .alloc t=>match E.te t with
  |some ti=>K (nO st o.dst (.cells ti.zero) λk v=>.ptr k v 0)
  |none=>O
 | .box _ x=>au (opd st x) λv=>K ⟨.v (.c (.ptr (dk o.dst) (st.h.next (dk o.dst)) 0)),v.keys++[dk o.dst],[(dk o.dst,⟨st.h.next (dk o.dst),0,.cells v.cells⟩)]⟩
 | .buildSlice t n parts=>match (E.te t).bind (·.elem) with
  |none=>O
  |some e=>match E.te e,partsOf st parts.toList with
   |some ti,O=>match fu st parts.toList with
    |some (k,v,fs)=>match st.h.at k v with
     |some (.cells _)=>if ti.size=1/\ti.agg=zab/\n=fs.length/\n<=1000/\parts.toList.map (·.1)=List.range n/\(fs.all λf=>zah (f<fe))=M then K ⟨.v (.c (.clr k v fs)),[k],[]⟩ else O
     |_=>O
    |none=>O
   |some ti,J ps=>match ti.ty with
    |some t=>match t.ofCells ti.zero with
     |some z=>if n*ti.size<=16777216/\0<ti.size then au (kZ t (List.replicate n z) (ps.map λp=>(p.1,p.2.pub st.h))) λxs=>
       K ⟨.v (.c (.own (dk o.dst) (st.h.next (dk o.dst)))),[dk o.dst],bN st.h (ps.flatMap λp=>p.2.ownKs)++[(dk o.dst,⟨st.h.next (dk o.dst),0,.row e t xs⟩)]⟩
      else O
     |none=>O
    |none=>O
   |_,_=>O
 | .store t x v=>match o.dst with
  |none=>au (opd st x) λx=>au (opd st v) λv=>d9 E.te (bU st (jZ x v)) t x (nS st.h x v) λup=>K ⟨.tup [],x.keys++v.keys,bN st.h (jZ x v)++up⟩
  |some _=>O
 | .call { callee:=.builtin .append,args,argTypes }=>match args.toList,argTypes.toList with
  |[s,x],[sT,xT]=>if sT=xT then au (opd st s) λs=>au (opd st x) λx=>eZ E.te st o.dst sT s x K else O
  |_,_=>O
 | .call { callee:=.value c,args,.. }=>match gU st args.toList with
  |some vs=>match jD st c with
   |some p=>jk E st o.dst p.1 [] (p.2.map (λc=>V.v (.c c))++vs) K
   |none=>match jb st c with
    |some p=>jk E st o.dst p.1 p.2 vs K
    |none=>match wD st c with
     |some x=>E.fns.foldr (λkey next=>if x=key then jk E st o.dst key.1 (key.2.map Cap.cell) vs K else next) O
     |none=>O
  |none=>O
 | .load t (.global g)=>match E.maps g t with
  |some _=>K ⟨.v (.c (.glob g)),[],[]⟩
  |none=>O
 | .lookup t x k ok=>match opd st x,opd st k with
  |some (.c (.glob g)),J (.c kc)=>match E.maps g t with
   |some F=>au (F kc) λp=>K ⟨if ok=M then .tup [.c p.1,.c (.bool p.2)] else .v (.c p.1),[],[]⟩
   |none=>O
  |_,_=>O
 | .makeSlice t l c=>match (E.te t).bind (·.elem) with
  |none=>O
  |some e=>match E.te e,opd st l,opd st c with
   |some ti,J (.c (.int _ n)),J (.c (.int _ m))=>match ti.ty with
    |some t=>match t.ofCells ti.zero with
     |some z=>if 0<=n/\m=n/\(ti.bytes:Int)*n<=281474976710656/\0<ti.bytes/\0<ti.size then K (nO st o.dst (.row e t (List.replicate n.toNat z)) λk v=>.own k v)
      else O
     |none=>O
    |none=>O
   |_,_,_=>O
 | .convert src dst x=>if wZ E.te src dst=M then au (opd st x) λv=>au (jr st.h (.int .u8) v) λxs=>K ⟨.v (.c (.str (bytesOf xs))),[],[]⟩
  else if qx E.te src dst=M then(match opd st x with
   |some (.c (.str s))=>K ⟨.v (.c (.sl O (.int .u8) (s.map λb=>(b.toNat:Int)))),[],[]⟩
   |_=>O)
  else vop E.te st (.convert src dst x) λv=>K ⟨v,bW st [x],[]⟩
 |op=>vop E.te st op λv=>K ⟨v,bW st op.operands.toList,[]⟩
def FQ(E:Env R)(st:St)(o:Oper)(K:St->W R):W R:=bf E st o λx=>K (st.app o.dst x)
def gH(E:Env R)(ops:Array Oper):Y Oper->St->(St->W R)->W R
 |[],st,K=>K st
 |o::rest,st,K=>match o.guard with
  |none=>FQ E st o λst=>gH E ops rest st K
  |some (j,want)=>match (ops[j]?).bind (·.dst) with
   |none=>O
   |some d=>match st.s[d]? with
    |some (.v (.c (.bool b)))=>
     if b=want then FQ E (st.put (J d) (.v (.c (.bool want)))) o λst=>gH E ops rest st K
     else gH E ops rest ((st.put (J d) (.v (.c (.bool !want)))).put o.dst (.tup [])) K
    |some (.tup [])=>gH E ops rest (st.put o.dst (.tup [])) K
    |_=>O
def Oper.guardSlot(ops:Array Oper)(o:Oper):Y X:=
 match o.guard with
 |none=>[]
 |some (j,_)=>((ops[j]?).bind (·.dst)).toList
def Oper.looks(ops:Array Oper)(o:Oper):Y X:=
 (o.op.operands.toList.filterMap λ| .tmp t=>J t|_=>O)++Oper.guardSlot ops o
structure Did where
 dst:W X
 looks:Y X
 rd:Y X
 x:Dl
def Did.ups(d:Did):Y X:=d.x.up.map (·.1)
def quiet:Op->zac
 | .move _ | .assign _ | .pick _ _ _ | .build _ _ | .field _ _ _ | .index _ _ _ | .binOp _ _ _ _ _ | .unOp _ _ _ | .makeInterface _ _ | .makeFunc _ _ _ | .extract _ _=>M
 |_=>zab
def o9(st:St)(o:Oper):Y X:=if quiet o.op=M then[] else bW st o.op.operands.toList
def did(ops:Array Oper)(st:St)(o:Oper)(x:Dl):Did:=⟨o.dst,Oper.looks ops o,o9 st o++x.up.map (·.1),x⟩
def sJ(ops:Array Oper)(o:Oper):Did:=⟨o.dst,Oper.looks ops o,[],⟨.tup [],[],[]⟩⟩
def wy(a b:Y X):zac:=a.all λx=>!b.contains x
def Did.apart(a b:Did):zac:=
 wy a.dst.toList b.looks&&wy b.dst.toList a.looks&&wy a.dst.toList b.dst.toList&&wy a.ups b.rd&&wy b.ups a.rd
def uni(xs ys:Y X):Y X:=xs.foldl (λacc x=>if acc.contains x then acc else x::acc) ys
def qo:Y Oper->Y (Y X)->Y (Y X)
 |[],tbl=>tbl
 |o::l,tbl=>qo l (tbl++[(o.after.toList.filter (Region.binds .any)).foldl (λacc e=>uni (e.on::tbl.getD e.on []) acc) []])
def zk(ds:Y Did)(as:Y X)(j:X)(d:Did):zac:=
 (List.range j).all λi=>as.contains i||match ds[i]? with
  |some a=>Did.apart a d
  |none=>zab
def vT:X->Y Oper->zac
 |_,[]=>M
 |j,o::l=>(o.after.toList.all λe=>!Region.binds .any e||zah (e.on<j))&&vT (j+1) l
def oq(ops:Array Oper)(ds:Y Did):zac:=
 vT 0 ops.toList&&(let tbl:=qo ops.toList []
 (List.range ds.length).all λj=>match ds[j]? with
  |some d=>zk ds (tbl.getD j []) j d
  |none=>zab)
def dS(E:Env R)(ops:Array Oper):Y Oper->St->Y Did->(Y Did->St->W R)->W R
 |[],st,acc,K=>K acc.reverse st
 |o::rest,st,acc,K=>match o.guard with
  |none=>bf E st o λx=>dS E ops rest (st.app o.dst x) (did ops st o x::acc) K
  |some (j,want)=>match (ops[j]?).bind (·.dst) with
   |none=>O
   |some d=>match st.s[d]? with
    |some (.v (.c (.bool b)))=>
     if b=want then bf E (st.put (J d) (.v (.c (.bool want)))) o λx=>dS E ops rest ((st.put (J d) (.v (.c (.bool want)))).app o.dst x) (did ops (st.put (J d) (.v (.c (.bool want)))) o x::acc) K
     else dS E ops rest ((st.put (J d) (.v (.c (.bool !want)))).put o.dst (.tup [])) (sJ ops o::acc) K
    |some (.tup [])=>dS E ops rest (st.put o.dst (.tup [])) (sJ ops o::acc) K
    |_=>O
def uU(E:Env R)(ops:Array Oper)(draw:zac)(st:St)(K:St->W R):W R:=
 if draw=M then dS E ops ops.toList st [] λl st=>if oq ops l=M then K st else O
 else gH E ops ops.toList st K
inductive Ex where
 |normal|exit (id:X)|goto (l:X)|ret
def first:Code->W X
 | .region id _ _=>J id
 | .seq .skip b=>first b
 | .seq (.label _) b=>first b
 | .seq a _=>first a
 | .block _ c | .loop c | .scope c=>first c
 |_=>O
def goJ(nl:X)(h:JH R)(ms:Y X)(st:St):W R:=
 if h.sh.pins nl=M then match h.sh.abs st with
 |some a=>h.j ms a.x
 |none=>O
 else O
def goL(nl:X)(h:LH R)(ms:Y X)(n:X)(st:St):W R:=
 if h.sh.pins nl=M then match h.sh.abs st with
 |some a=>h.l ms n a.x
 |none=>O
 else O
abbrev fQ(R:Type):=Ex->St->W R
def I4(E:Env R)(ms:Y X)(b:Code)(next:St->W R)(K:fQ R):fQ R
 | .normal,st=>match (first b).bind E.join with
  |some h=>goJ E.nl h ms st
  |none=>next st
 |ex,st=>K ex st
def vw(id:X)(K:fQ R):fQ R
 | .exit i,st=>if i=id then K .normal st else K (.exit i) st
 |ex,st=>K ex st
def Eg(nl:X)(h:LH R)(ms:Y X)(m:X)(K:fQ R):fQ R
 | .normal,st=>goL nl h ms m st
 |ex,st=>K ex st
def nK(K:fQ R):fQ R
 | .goto _,_=>O
 |ex,st=>K ex st
def qM(nl:X)(l:X)(h:LH R)(ms:Y X)(m:X)(K:fQ R):fQ R
 | .goto i,st=>if i=l then goL nl h ms m st else K (.goto i) st
 |ex,st=>K ex st
def iC:Code->W X
 | .label l=>J l
 |_=>O
def mX(E:Env R)(a:Code):W (X×LH R):=
 match iC a with
 |some l=>match E.lab l with
  |some h=>J (l,h)
  |none=>O
 |none=>O
def aL(E:Env R)(ms:Y X):Code->St->fQ R->W R
 | .skip,st,K=>K .normal st
 | .label _,st,K=>K .normal st
 | .region _ ops draw,st,K=>uU E ops draw st (K .normal)
 | .seq a b,st,K=>match mX E a with
  |some h=>goL E.nl h.2 ms E.n st
  |none=>aL E ms a st (I4 E ms b (λst=>aL E ms b st K) K)
 | .cond c a b,st,K=>match opd st c with
  |some (.c (.bool t))=>if t=M then(match (first a).bind E.join with|some h=>goJ E.nl h ms st|none=>aL E ms a st K) else(match (first b).bind E.join with|some h=>goJ E.nl h ms st|none=>aL E ms b st K)
  |_=>O
 | .block id c,st,K=>aL E ms c st (vw id K)
 | .loop c,st,_=>match (first c).bind E.loop with
  |some h=>goL E.nl h ms E.n st
  |none=>O
 | .exit id,st,K=>K (.exit id) st
 | .goto l,st,K=>K (.goto l) st
 | .ret,st,K=>K .ret st
 | .scope c,st,K=>aL E ms c st (nK K)
 |_,_,_=>O
def bZ:Code->Y X
 | .seq a b=>bZ a++bZ b
 | .label l=>[l]
 | .cond _ a b=>bZ a++bZ b
 | .block _ c | .loop c=>bZ c
 |_=>[]
def dZ:Code->X->W Code
 | .seq a b,l=>match iC a with
  |some i=>if i=l then J b else dZ b l
  |none=>if(findLabel a l).isNone then dZ b l else O
 |_,_=>O
def GZ(c:Code):zac:=
 match bZ c with
 |[]=>M
 |[l]=>(dZ c l).isSome
 |_=>zab
inductive Site (R:Type) where
 |join (h:JH R) (b:Code) (K:Y X->fQ R)
 |loop (h:LH R) (c:Code) (K:Y X->X->fQ R)
 |flag (b:zac)
def sites(E:Env R):Code->(Y X->fQ R)->Y (Site R)
 | .seq a b,K=>match mX E a with
  |some h=>.flag (bZ b).isEmpty::.loop h.2 b (λms m=>qM E.nl h.1 h.2 ms m (K ms))::sites E b (λms=>qM E.nl h.1 h.2 ms.tail ms.head! (K ms.tail))
  |none=>.flag ((iC a).isSome||(bZ a).isEmpty)::sites E a (λms=>I4 E ms b (λst=>aL E ms b st (K ms)) (K ms))
   ++ (match (first b).bind E.join with|some h=>[.join h b K]|none=>[])++sites E b K
 | .cond _ a b,K=>.flag ((bZ a).isEmpty&&(bZ b).isEmpty)::(match (first a).bind E.join with|some h=>[.join h a K]|none=>[])++(match (first b).bind E.join with|some h=>[.join h b K]|none=>[])++sites E a K++sites E b K
 | .block id c,K=>.flag (bZ c).isEmpty::sites E c (λms=>vw id (K ms))
 | .loop c,K=>.flag (bZ c).isEmpty::(match (first c).bind E.loop with
  |some h=>.loop h c (λms m=>Eg E.nl h ms m (K ms))::sites E c (λms=>Eg E.nl h ms.tail ms.head! (K ms.tail))
  |none=>[])
 | .scope c,K=>.flag (GZ c)::sites E c (λms=>nK (K ms))
 |_,_=>[]
def Site.ok(E:Env R):Site R->Prop
 | .join h b K=>∀ms x,h.j ms x=aL E ms b (h.sh.mk' nmJ E.N x) (K ms)
 | .loop h c K=>∀ms,(∀x,h.l ms 0 x=O)/\∀m x,h.l ms (m+1) x=aL E (m::ms) c (h.sh.mk' nmJ E.N x) (K ms m)
 | .flag b=>b=M
end Rv
namespace Rv
open Go
def aj{α β:Type}(R:α->β->Prop):Y α->Y β->Prop
 |[],[]=>True
 |a::r,b::s=>R a b/\aj R r s
 |_,_=>False
section
variable{α β:Type}{R R':α->β->Prop}
theorem aj.mono(h:∀a b,R a b->R' a b):∀{l:Y α}{m:Y β},aj R l m->aj R' l m
 |[],[],_=>trivial
 |_::_,_::_,H=>⟨h _ _ H.1,aj.mono h H.2⟩
theorem aj.length:∀{l:Y α}{m:Y β},aj R l m->l.length=m.length
 |[],[],_=>rfl
 |_::_,_::_,H=>by simp[aj.length H.2]
theorem aj.get:∀{l:Y α}{m:Y β}{i:X}{a:α},aj R l m->l[i]?=J a->∃b,m[i]?=J b/\R a b
 |a::_,b::_,0,_,H,e=>by simp at e;subst e;exact⟨b,rfl,H.1⟩
 |_::_,_::_,i+1,_,H,e=>by
  simp only[List.getElem?_cons_succ] at e⊢;exact aj.get H.2 e
 |[],[],_,_,_,e=>by simp at e
theorem aj.append:∀{l:Y α}{m:Y β}{l':Y α}{m':Y β},aj R l m->aj R l' m'->aj R (l++l') (m++m')
 |[],[],_,_,_,H=>H
 |_::_,_::_,_,_,H,H'=>⟨H.1,aj.append H.2 H'⟩
theorem aj.take:∀(n:X) {l:Y α} {m:Y β},aj R l m->aj R (l.take n) (m.take n)
 |0,_,_,_=>by simp[aj]
 |_+1,[],[],_=>by simp[aj]
 |n+1,_::_,_::_,H=>⟨H.1,aj.take n H.2⟩
theorem aj.drop:∀(n:X) {l:Y α} {m:Y β},aj R l m->aj R (l.drop n) (m.drop n)
 |0,_,_,H=>by simpa using H
 |_+1,[],[],_=>by simp[aj]
 |n+1,_::_,_::_,H=>by simpa using aj.drop n H.2
end
structure Ctx where
 w0:zaa
 own:X->Prop
 rd:X->Prop
 L:zaa->Prop
 nl:X:=0
 lent:X->W (X×X):=λ_=>O
abbrev Gam:=X->W (X×X)
def Box.live:Box->Prop
 | .cells _=>True
 | .row _ _ _=>True
 |_=>False
def Box.isRow:Box->Prop
 | .row _ _ _=>True
 |_=>False
def okb(C:Ctx)(γ:Gam)(h:Heap)(d:Dep)(g:X):Prop:=
 C.rd g/\∀k e c,h k=J e->e.box.live->γ k=J (g,c)->d=J (k,e.ver,e.dver)/\e.box.isRow
def fnV(f:FuncId)(gs:Y X):G:=.func (.func f) #[] (gs.map λg=>Value.pointer (J ⟨g,0,O⟩)).toArray
def kL(f:FuncId)(vs:Array G):G:=if f<fe then .func (.func f) #[] vs else .func (.func (f-fe)) vs #[]
theorem lC{f:FuncId}(h:f<fe)(vs:Array G):kL f vs=.func (.func f) #[] vs:=zae h
theorem FR(f:FuncId)(vs:Array G):kL (f+fe) vs=.func (.func f) vs #[]:=by
 unfold kL;rw[zaf (Nat.not_lt.2 (Nat.le_add_left _ _))];show Value.func (.func (Nat.sub (Nat.add f fe) fe)) vs #[]=_;rw[show Nat.sub (Nat.add f fe) fe=f from Nat.add_sub_cancel ..]
theorem IP{f:FuncId}(h:¬f<fe)(vs:Array G):kL f vs=.func (.func (f-fe)) vs #[]:=zaf h
def lg(w:zaa)(ok:X->Prop)(g:X)(c:tK):Prop:=ok g/\g<w.heap.size/\w.cell? ⟨g,0,O⟩=J c.val
def lY(w:zaa)(ok:X->Prop)(g:X):Cap->Prop
 | .c0 c=>lg w ok g c
 | .cf f=>ok g/\g<w.heap.size/\∃hs:Y X,w.cell? ⟨g,0,O⟩=J (fnV f.1 hs)/\aj (lg w ok) hs f.2
def Rd(w:zaa)(ok:X->Prop):(t:Ty)->t.D->Y G->Prop
 | .int k,n,cs=>cs=[.int k n]
 | .bool,b,cs=>cs=[.bool b]
 | .str,s,cs=>cs=[.string (mkS s)]
 | .sl t,xs,cs=>∃A c,cs=[.slice A xs.length c]/\xs.length<=c/\∀i x,xs[i]?=J x->∃g o ds,A=J ⟨g,o,O⟩/\ok g/\g<w.heap.size/\Rd w ok t x ds /\
   ∀j v,ds[j]?=J v->w.cell? ⟨g,o+i*t.size+j,O⟩=J v
 | .nil,_,cs=>cs=[]
 | .pair a b,x,cs=>∃c1 c2,cs=c1++c2/\Rd w ok a x.1 c1/\Rd w ok b x.2 c2
 | .fn,x,cs=>∃gs:Y X,cs=[fnV x.1 gs]/\aj (lY w ok) gs x.2
theorem Rd.length{w:zaa}{ok:X->Prop}:∀{t:Ty}{x:t.D}{cs:Y G},Rd w ok t x cs->cs.length=t.size
 | .int _,_,_,h=>by rw[h];rfl
 | .bool,_,_,h=>by rw[h];rfl
 | .str,_,_,h=>by rw[h];rfl
 | .sl _,_,_,⟨_,_,h,_⟩=>by rw[h];rfl
 | .nil,_,_,h=>by rw[h];rfl
 | .pair _ _,_,_,⟨_,_,h,h1,h2⟩=>by rw[h,NP,h1.length,h2.length];rfl
 | .fn,_,_,⟨_,h,_⟩=>by rw[h];rfl
theorem lg.mono{w w':zaa}{ok ok':X->Prop}(hs:w.heap.size<=w'.heap.size)(hb:∀g,ok g->g<w.heap.size->w'.heap[g]?=w.heap[g]?/\ok' g){g:X}{c:tK}(h:lg w ok g c):lg w' ok' g c:=by
 obtain⟨ho,hg,hc⟩:=h;obtain⟨h1,h2⟩:=hb g ho hg;exact⟨h2,Ot hg hs,(World.cell?_of_block h1).trans hc⟩
theorem lY.mono{w w':zaa}{ok ok':X->Prop}(hs:w.heap.size<=w'.heap.size)(hb:∀g,ok g->g<w.heap.size->w'.heap[g]?=w.heap[g]?/\ok' g){g:X}{c:Cap}(h:lY w ok g c):lY w' ok' g c:=by
 cases c with
 |c0 c=>exact lg.mono hs hb h
 |cf f=>
  obtain⟨ho,hg,l,hc,ha⟩:=h;obtain⟨h1,h2⟩:=hb g ho hg;exact⟨h2,Ot hg hs,l,(World.cell?_of_block h1).trans hc,ha.mono λ_ _ hh=>hh.mono hs hb⟩
theorem Rd.mono{w w':zaa}{ok ok':X->Prop}(hs:w.heap.size<=w'.heap.size)(hb:∀g,ok g->g<w.heap.size->w'.heap[g]?=w.heap[g]?/\ok' g) :
  ∀{t:Ty}{x:t.D}{cs:Y G},Rd w ok t x cs->Rd w' ok' t x cs
 | .int _,_,_,h=>h
 | .bool,_,_,h=>h
 | .str,_,_,h=>h
 | .sl _,_,_,⟨A,c,h,hc,hx⟩=>⟨A,c,h,hc,λi x e=>by
   obtain⟨g,o,ds,hA,hg,hgs,hd,hcell⟩:=hx i x e;obtain⟨h1,h2⟩:=hb g hg hgs;exact⟨g,o,ds,hA,h2,Ot hgs hs,hd.mono hs hb,λj v e=>(World.cell?_of_block h1).trans (hcell j v e)⟩⟩
 | .nil,_,_,h=>h
 | .pair _ _,_,_,⟨c1,c2,h,h1,h2⟩=>⟨c1,c2,h,h1.mono hs hb,h2.mono hs hb⟩
 | .fn,_,_,⟨gs,h,hx⟩=>⟨gs,h,hx.mono λ_ _ hh=>hh.mono hs hb⟩
theorem Rd.one{w:zaa}{ok:X->Prop}:∀{t:Ty}{x:t.D}{cs:Y G},Rd w ok t x cs->∀v∈cs,v.oneCell'=M
 | .int _,_,_,h=>by rw[h];simp[Value.oneCell']
 | .bool,_,_,h=>by rw[h];simp[Value.oneCell']
 | .str,_,_,h=>by rw[h];simp[Value.oneCell']
 | .sl _,_,_,⟨_,_,h,_⟩=>by rw[h];simp[Value.oneCell']
 | .nil,_,_,h=>by rw[h];simp
 | .pair _ _,_,_,⟨_,_,h,h1,h2⟩=>by
   rw[h];intro v hv;rcases NV.1 hv with hv|hv;·exact h1.one v hv
   ·exact h2.one v hv
 | .fn,_,_,⟨_,h,_⟩=>by rw[h];simp[Value.oneCell',fnV]
def eX:W (X×X)->X->G->Prop
 |none,n,v=>n=0/\v=.slice O 0 0
 |some (g,c),n,v=>v=.slice (J ⟨g,0,O⟩) n c
def Now(h:Heap)(k v:X)(p:En->Prop):Prop:=∃e,h k=J e/\v<=e.ver/\(v=e.ver->p e)
def dN(h:Heap):Dep->Prop->Prop
 |none,p=>p
 |some (k,v,dv),p=>Now h k v λe=>dv<=e.dver/\(dv=e.dver->p)
def Box.len:Box->W X
 | .row _ _ xs=>J xs.length
 | .pub _ xs=>J xs.length
 |_=>O
def Box.tsize:Box->X
 | .row _ t _=>t.size
 | .pub t _=>t.size
 |_=>0
def RdS(C:Ctx)(γ:Gam)(h:Heap)(w:zaa)(d:Dep)(t:Ty)(xs:Y t.D)(v:G):Prop:=
 ∃A c,v=.slice A xs.length c/\xs.length<=c/\∀i x,xs[i]?=J x->∃g o ds,A=J ⟨g,o,O⟩/\okb C γ h d g/\g<w.heap.size/\Rd w (okb C γ h O) t x ds /\
  ∀j v,ds[j]?=J v->w.cell? ⟨g,o+i*t.size+j,O⟩=J v
theorem RdS.iff{C:Ctx}{γ:Gam}{h:Heap}{w:zaa}{t:Ty}{xs:Y t.D}{v:G}:RdS C γ h w O t xs v↔Rd w (okb C γ h O) (.sl t) xs [v]:=by
 simp[RdS,Rd]
def uH(C:Ctx)(γ:Gam)(h:Heap)(w:zaa)(b g j:X)(f:FuncId):Prop:=
 okb C γ h O g/\g<w.heap.size/\w.cell? ⟨g,j,O⟩=J (.func (.func f) #[] #[.pointer (J ⟨b,0,O⟩)])
section
variable(C:Ctx)(γ:Gam)(h:Heap)(w:zaa)
def av:Cell->G->Prop
 | .int k n,v=>v=.int k n
 | .bool b,v=>v=.bool b
 | .str s,v=>v=.string (mkS s)
 | .sl d t xs,v=>v.oneCell'=M/\dN h d (RdS C γ h w d t xs v)
 | .nilS,v=>v=.slice O 0 0
 | .own k kv,v=>v.oneCell'=M/\Now h k kv λe=>∀n,e.box.len=J n->eX (γ k) n v
 | .ownP k kv m,v=>v.oneCell'=M/\Now h k kv λe=>∀n,e.box.len=J n->m<=n/\eX (γ k) m v
 | .ptr k kv off,v=>v.oneCell'=M/\Now h k kv λe=>∀l,e.box=.cells l->∃g c,γ k=J (g,c)/\v=.pointer (J ⟨g,off,O⟩)
 | .elt k kv i off,v=>v.oneCell'=M/\Now h k kv λe=>∀n,e.box.len=J n->i<n/\∃g c,γ k=J (g,c)/\v=.pointer (J ⟨g,i*e.box.tsize+off,O⟩)
 | .slp d t xs i off,v=>v.oneCell'=M/\dN h d (∃g p x ds,v=.pointer (J ⟨g,p+off,O⟩)/\xs[i]?=J x/\okb C γ h d g/\g<w.heap.size/\Rd w (okb C γ h O) t x ds /\
   ∀j u,ds[j]?=J u->w.cell? ⟨g,p+j,O⟩=J u)
 | .raw u,v=>v=u/\u.oneCell'=M
 | .err b,v=>v.oneCell'=M/\(b=M->v=.nilIface)/\(b=zab->∃t x,v=.iface t x)
 | .ifo t k o,v=>match o with
  |none=>v=.nilIface
  |some n=>v=.iface t (.int k n)
 | .glob g,v=>v.oneCell'=M/\∀w',C.L w'->w'.cell? ⟨g,0,O⟩=J v
 | .pel k kv base n i,v=>v.oneCell'=M/\Now h k kv λe=>∀l,e.box=.cells l->i<n/\∃g c,γ k=J (g,c)/\v=.pointer (J ⟨g,base+i,O⟩)
 | .fn x,v=>v.oneCell'=M/\Rd w (okb C γ h O) .fn x [v]
 | .clr k kv fs,v=>v.oneCell'=M/\Now h k kv λe=>∀l,e.box=.cells l->∃b c g,γ k=J (b,c)/\v=.slice (J ⟨g,0,O⟩) fs.length fs.length/\∀j f,fs[j]?=J f->uH C γ h w b g j f
 | .slc d t xs,v=>v.oneCell'=M/\dN h d (RdS C γ h w d t xs v/\∃A,v=.slice A xs.length xs.length)
 | .cle k kv f,v=>v.oneCell'=M/\Now h k kv λe=>∀l,e.box=.cells l->∃b c g j,γ k=J (b,c)/\v=.pointer (J ⟨g,j,O⟩)/\uH C γ h w b g j f
 | .dead,v=>v.oneCell'=M
def aI:V1->G->Prop
 | .c x,v=>av C γ h w x v
 | .agg cs,v=>∃vs:Y G,v=.agg vs.toArray/\aj (av C γ h w) cs vs
def aZ:V->G->Prop
 | .v x,v=>aI C γ h w x v
 | .tup xs,v=>∃vs:Y G,v=.tuple vs.toArray/\aj (aI C γ h w) xs vs
 | .clo f cs,v=>∃vs:Y G,v=kL f vs.toArray/\aj (av C γ h w) cs vs
 | .no,_=>True
def bi(ok:X->Prop)(t:Ty)(xs:Y t.D)(cur:Y G):Prop:=
 ∀i x,xs[i]?=J x->Rd w ok t x ((cur.drop (i*t.size)).take t.size)
def dI(k:X):Box->Prop
 | .cells l=>∃g vs T,γ k=J (g,0)/\w.heap[g]?=J (.cells vs T (0,0))/\aj (av C γ h w) l vs.toList
 | .row e t xs=>(γ k=O/\xs=[])\/∃g c cur,γ k=J (g,c)/\w.heap[g]?=J (.cells cur e (0,0))/\xs.length<=c/\c<=maxLen/\cur.size=c*t.size/\0<t.size /\
   bi w (okb C γ h O) t xs cur.toList
 | .pub t xs=>∃v,eX (γ k) xs.length v/\Rd w (okb C γ h O) (.sl t) xs [v]
 | .gone=>True
structure Inv:Prop where
 box:∀k e,h k=J e->dI C γ h w k e.box
 inj:∀k k' e e' g c c',h k=J e->e.box.live->h k'=J e'->e'.box.live->γ k=J (g,c)->γ k'=J (g,c')->k=k'
 own:∀k e g c,h k=J e->e.box.live->γ k=J (g,c)->C.own g
 frame:∀g,g<C.w0.heap.size->¬C.own g->w.heap[g]?=C.w0.heap[g]?
 size:C.w0.heap.size<=w.heap.size
 os:w.os=C.w0.os
 tape:w.tape=C.w0.tape
 output:w.output=C.w0.output
 new:∀g,C.w0.heap.size<=g->C.own g
 rd:∀g,C.own g->C.rd g
 laid:C.L w
 stable:∀a b:zaa,C.L a->(∀g,¬C.own g->b.heap[g]?=a.heap[g]?)->C.L b
 lent:∀i,i<C.nl->∃e,h (nmJ i).1=J e/\(e.ver=0->γ (nmJ i).1=C.lent i)
structure Rel (st:St) (tmps:Array G):Prop where
 size:tmps.size=st.s.length
 slot:∀i v,st.s[i]?=J v->aZ C γ st.h w v (tmps.getD i undef)
 inv:Inv C γ st.h w
end
def Alike(e e':En):Prop:=
 match e.box,e'.box with
 | .cells _,.cells _=>e'.dver=e.dver
 | .row a t xs,.row a' t' xs'=>a'=a/\(∃ht:t'=t,(ht ▸ xs':Y t.D).length=xs.length)/\e.dver<=e'.dver
 | .row _ t xs,.pub t' xs'=>(∃ht:t'=t,(ht ▸ xs':Y t.D)=xs)/\e'.dver=e.dver
 | .pub t xs,.pub t' xs'=>(∃ht:t'=t,(ht ▸ xs':Y t.D)=xs)/\e'.dver=e.dver
 | .gone,.gone=>e'.dver=e.dver
 |_,_=>False
theorem Alike.refl(e:En):Alike e e:=by
 unfold Alike;cases e.box with
 |cells l=>rfl
 |row a t xs=>exact⟨rfl,⟨rfl,rfl⟩,NL _⟩
 |pub t xs=>exact⟨⟨rfl,rfl⟩,rfl⟩
 |gone=>rfl
structure bP (C:Ctx) (γ:Gam) (h:Heap) (w:zaa) (C':Ctx) (γ':Gam) (h':Heap) (w':zaa):Prop where
 sz:w.heap.size<=w'.heap.size
 keep:∀k e,h k=J e->∃e',h' k=J e'/\(e.ver<e'.ver\/(e'.ver=e.ver/\γ' k=γ k/\Alike e e'))
 blk:∀g,g<w.heap.size->(∀k e c,h k=J e->e.box.live->γ k=J (g,c)->e.box.isRow/\∃e',h' k=J e'/\e'.ver=e.ver/\e'.dver=e.dver)->w'.heap[g]?=w.heap[g]?
 okn:∀k e' c g,h' k=J e'->e'.box.live->γ' k=J (g,c)->g<w.heap.size->∃k0 e0 c0,h k0=J e0/\e0.box.live/\γ k0=J (g,c0)/\(k0=k\/∃e1,h' k0=J e1/\e0.ver<e1.ver)
 rd:∀g,g<w.heap.size->C.rd g->C'.rd g
 L:∀w0,C'.L w0->C.L w0
section
variable{C C':Ctx}{γ γ':Gam}{h h':Heap}{w w':zaa}
def vZ(h h':Heap):Dep->Prop
 |none=>True
 |some (k,v,dv)=>∃e e',h k=J e/\h' k=J e'/\e.ver=v/\e'.ver=v/\e.dver=dv/\e'.dver=dv
theorem bP.okb(T:bP C γ h w C' γ' h' w'){d:Dep}{g:X}(hd:vZ h h' d)(ho:Rv.okb C γ h d g)(hg:g<w.heap.size):w'.heap[g]?=w.heap[g]?/\Rv.okb C' γ' h' d g:=by
 refine⟨T.blk g hg λk e c hk hl hγ=>?_,T.rd g hg ho.1,λk e' c hk hl hγ=>?_⟩;·obtain⟨rfl,hr⟩:=ho.2 k e c hk hl hγ;obtain⟨e0,e1,h0,h1,hv,hv',hdv,hdv'⟩:=hd;exact⟨hr,e1,h1,hv',hdv'⟩
 ·obtain⟨k0,e0,c0,hk0,hl0,hγ0,hcase⟩:=T.okn k e' c g hk hl hγ hg;obtain⟨rfl,hr⟩:=ho.2 k0 e0 c0 hk0 hl0 hγ0;obtain⟨e1,e2,h1,h2,hv,hv',hdv,hdv'⟩:=hd;rcases hcase with rfl|⟨e3,h3,hlt⟩
  ·rw[h2] at hk;simp only[ND] at hk;subst hk;rw[hk0] at h1;simp only[ND] at h1;subst h1;refine⟨by rw[hv',hdv'],?_⟩;obtain⟨e4,h4,hc⟩:=T.keep k0 _ hk0;rw[h2] at h4;simp only[ND] at h4;subst h4;rcases hc with hc|⟨_,_,ha⟩
   ·omega
   ·unfold Alike at ha;cases hb:e0.box with
    |row a t xs=>
     rw[hb] at ha;cases hb':e2.box with
     |row a' t' xs'=>trivial
     |pub t' xs'=>rw[hb'] at hl;exact hl
     |cells l=>rw[hb'] at ha;exact ha
     |gone=>rw[hb'] at ha;exact ha
    |_=>rw[hb] at hr;exact hr.elim
  ·rw[h2] at h3;simp only[ND] at h3;subst h3;omega
theorem dN.imp{d:Dep}{p q:Prop}(hd:dN h d p)(hk:∀k e,h k=J e->∃e',h' k=J e'/\(e.ver<e'.ver\/(e'.ver=e.ver/\e.dver<=e'.dver)))(hpq:vZ h h' d->p->q):dN h' d q:=by
 cases d with
 |none=>exact hpq trivial hd
 |some x=>
  obtain⟨k,v,dv⟩:=x;obtain⟨e,he,hv,hp⟩:=hd;obtain⟨e',he',hc⟩:=hk k e he;rcases hc with hc|⟨hc,hdc⟩;·exact⟨e',he',by omega,λe=>by omega⟩
  ·refine⟨e',he',by omega,λhve=>?_⟩;obtain⟨h1,h2⟩:=hp (by omega);exact⟨by omega,λhdv=>hpq ⟨e,e',he,he',by omega,by omega,by omega,by omega⟩ (h2 (by omega))⟩
theorem Alike.dver{e e':En}(ha:Alike e e'):e.dver<=e'.dver:=by
 unfold Alike at ha;split at ha<;>first|omega|exact ha.elim
theorem Alike.len{e e':En}(ha:Alike e e'):e'.box.len=e.box.len/\(∀n,e.box.len=J n->e'.box.tsize=e.box.tsize):=by
 unfold Alike at ha;split at ha;·rename_i h1 h2;rw[h1,h2];exact⟨rfl,λn hn=>by cases hn⟩
 ·rename_i h1 h2;obtain⟨rfl,⟨rfl,hl⟩,_⟩:=ha;rw[h1,h2];simp only at hl;simp[Box.len,Box.tsize,hl]
 ·rename_i h1 h2;obtain⟨⟨rfl,hl⟩,_⟩:=ha;simp only at hl;rw[h1,h2];simp[Box.len,Box.tsize,hl]
 ·rename_i h1 h2;obtain⟨⟨rfl,hl⟩,_⟩:=ha;simp only at hl;rw[h1,h2];simp[Box.len,Box.tsize,hl]
 ·rename_i h1 h2;rw[h1,h2];exact⟨rfl,λn hn=>by cases hn⟩
 ·exact ha.elim
theorem Alike.cells{e e':En}(ha:Alike e e'){l:Y Cell}(hl:e'.box=.cells l):∃l',e.box=.cells l':=by
 unfold Alike at ha;rw[hl] at ha;cases hb:e.box with
 |cells l'=>exact⟨l',rfl⟩
 |_=>rw[hb] at ha;exact ha.elim
theorem Now.imp{k v:X}{p q:En->Prop}(hn:Now h k v p)(T:bP C γ h w C' γ' h' w')(hpq:∀e e',h k=J e->h' k=J e'->γ' k=γ k->Alike e e'->p e->q e'):Now h' k v q:=by
 obtain⟨e,he,hv,hp⟩:=hn;obtain⟨e',he',hc⟩:=T.keep k e he;rcases hc with hc|⟨hc,hg,ha⟩;·exact⟨e',he',by omega,λe=>by omega⟩
 ·exact⟨e',he',by omega,λhve=>hpq e e' he he' hg ha (hp (by omega))⟩
theorem bP.kp(T:bP C γ h w C' γ' h' w'):∀k e,h k=J e->∃e',h' k=J e'/\(e.ver<e'.ver\/(e'.ver=e.ver/\e.dver<=e'.dver)):=λk e hk=>by
 obtain⟨e',he',hc⟩:=T.keep k e hk;exact⟨e',he',hc.imp id λ⟨h1,_,ha⟩=>⟨h1,ha.dver⟩⟩
theorem uH.step(T:bP C γ h w C' γ' h' w'){b g j:X}{f:FuncId}(hc:uH C γ h w b g j f):uH C' γ' h' w' b g j f:=by
 have h1:=T.okb (d:=O) trivial hc.1 hc.2.1;exact⟨h1.2,Ot hc.2.1 T.sz,(World.cell?_of_block h1.1).trans hc.2.2⟩
theorem av.step(T:bP C γ h w C' γ' h' w'):∀{c:Cell}{v:G},av C γ h w c v->av C' γ' h' w' c v:=by
 intro c v hr;have rdm:∀{d:Dep}{t:Ty}{x:t.D}{cs:Y G},vZ h h' d->Rd w (Rv.okb C γ h d) t x cs->Rd w' (Rv.okb C' γ' h' d) t x cs:=λhd hh=>hh.mono T.sz λg ho hg=>T.okb hd ho hg
 cases c with
 |int k n=>exact hr
 |bool b=>exact hr
 |str s=>exact hr
 |nilS=>exact hr
 |raw u=>exact hr
 |err b=>exact hr
 |ifo t k o=>exact hr
 |dead=>exact hr
 |fn x=>exact⟨hr.1,rdm (d:=O) trivial hr.2⟩
 |sl d t xs=>
  refine⟨hr.1,hr.2.imp T.kp λhd hh=>?_⟩;obtain⟨A,c,hv,hle,hx⟩:=hh;refine⟨A,c,hv,hle,λi x e=>?_⟩;obtain⟨g,o,ds,hA,ho,hg,hrd,hc⟩:=hx i x e;have h1:=T.okb hd ho hg;exact⟨g,o,ds,hA,h1.2,Ot hg T.sz,rdm (d:=O) trivial hrd,λj u e=>(World.cell?_of_block h1.1).trans (hc j u e)⟩
 |slc d t xs=>
  refine⟨hr.1,hr.2.imp T.kp λhd hh=>?_⟩;obtain⟨⟨A,c,hv,hle,hx⟩,hf⟩:=hh;refine⟨⟨A,c,hv,hle,λi x e=>?_⟩,hf⟩;obtain⟨g,o,ds,hA,ho,hg,hrd,hc⟩:=hx i x e;have h1:=T.okb hd ho hg;exact⟨g,o,ds,hA,h1.2,Ot hg T.sz,rdm (d:=O) trivial hrd,λj u e=>(World.cell?_of_block h1.1).trans (hc j u e)⟩
 |slp d t xs i off=>
  refine⟨hr.1,hr.2.imp T.kp λhd hh=>?_⟩;obtain⟨g,p,x,ds,hv,hx,ho,hg,hrd,hc⟩:=hh;have h1:=T.okb hd ho hg;exact⟨g,p,x,ds,hv,hx,h1.2,Ot hg T.sz,rdm (d:=O) trivial hrd,λj u e=>(World.cell?_of_block h1.1).trans (hc j u e)⟩
 |own k kv=>
  refine⟨hr.1,hr.2.imp T λe e' _ _ hg ha hp n hn=>?_⟩;rw[hg];exact hp n (by rw[<- ha.len.1];exact hn)
 |ownP k kv m=>
  refine⟨hr.1,hr.2.imp T λe e' _ _ hg ha hp n hn=>?_⟩;rw[hg];exact hp n (by rw[<- ha.len.1];exact hn)
 |ptr k kv off=>
  refine⟨hr.1,hr.2.imp T λe e' _ _ hg ha hp l hl=>?_⟩;obtain⟨l',hl'⟩:=ha.cells hl;rw[hg];exact hp l' hl'
 |glob g=>exact⟨hr.1,λw0 h0=>hr.2 w0 (T.L w0 h0)⟩
 |pel k kv base n i=>
  refine⟨hr.1,hr.2.imp T λe e' _ _ hg ha hp l hl=>?_⟩;obtain⟨l',hl'⟩:=ha.cells hl;rw[hg];exact hp l' hl'
 |elt k kv i off=>
  refine⟨hr.1,hr.2.imp T λe e' _ _ hg ha hp n hn=>?_⟩;have hn':e.box.len=J n:=by rw[<- ha.len.1];exact hn
  rw[hg,ha.len.2 n hn'];exact hp n hn'
 |clr k kv fs=>
  refine⟨hr.1,hr.2.imp T λe e' _ _ hg ha hp l hl=>?_⟩;obtain⟨l',hl'⟩:=ha.cells hl;obtain⟨b,c,g,h1,h2,h3⟩:=hp l' hl';exact⟨b,c,g,by rw[hg];exact h1,h2,λj f hj=>(h3 j f hj).step T⟩
 |cle k kv f=>
  refine⟨hr.1,hr.2.imp T λe e' _ _ hg ha hp l hl=>?_⟩;obtain⟨l',hl'⟩:=ha.cells hl;obtain⟨b,c,g,j,h1,h2,h3⟩:=hp l' hl';exact⟨b,c,g,j,by rw[hg];exact h1,h2,h3.step T⟩
theorem aI.step(T:bP C γ h w C' γ' h' w'){x:V1}{v:G}(hr:aI C γ h w x v):aI C' γ' h' w' x v:=by
 cases x with
 |c x=>exact av.step T hr
 |agg cs=>
  obtain⟨vs,hv,ha⟩:=hr;exact⟨vs,hv,ha.mono λ_ _ hh=>av.step T hh⟩
theorem aZ.step(T:bP C γ h w C' γ' h' w'){x:V}{v:G}(hr:aZ C γ h w x v):aZ C' γ' h' w' x v:=by
 cases x with
 |v x=>exact aI.step T hr
 |tup xs=>
  obtain⟨vs,hv,ha⟩:=hr;exact⟨vs,hv,ha.mono λ_ _ hh=>aI.step T hh⟩
 |clo f cs=>
  obtain⟨vs,hv,ha⟩:=hr;exact⟨vs,hv,ha.mono λ_ _ hh=>av.step T hh⟩
 |no=>trivial
theorem dI.step(T:bP C γ h w C' γ' h' w'){k:X}{b:Box}(hb:dI C γ h w k b)(hg:γ' k=γ k)(blk:b.live->∀g c,γ k=J (g,c)->w'.heap[g]?=w.heap[g]?):dI C' γ' h' w' k b:=by
 cases b with
 |cells l=>
  obtain⟨g,vs,U,hγ,hb,ha⟩:=hb;exact⟨g,vs,U,by rw[hg];exact hγ,(blk trivial g 0 hγ).trans hb,ha.mono λ_ _ hh=>av.step T hh⟩
 |row e t xs=>
  rcases hb with⟨h0,hx⟩|⟨g,c,cur,hγ,hb,hc,hcm,hcs,hsz,hr⟩;·exact .inl ⟨by rw[hg];exact h0,hx⟩
  ·exact .inr ⟨g,c,cur,by rw[hg];exact hγ,(blk trivial g c hγ).trans hb,hc,hcm,hcs,hsz,λi x hx=>(hr i x hx).mono T.sz λg ho hg=>T.okb (d:=O) trivial ho hg⟩
 |pub t xs=>
  obtain⟨v,h1,h2⟩:=hb;exact⟨v,by rw[hg];exact h1,h2.mono T.sz λg ho hg=>T.okb (d:=O) trivial ho hg⟩
 |gone=>trivial
theorem bP.lent{nl:X}{lent:X->W (X×X)}(T:bP C γ h w C' γ' h' w')(hl:∀i,i<nl->∃e,h (nmJ i).1=J e/\(e.ver=0->γ (nmJ i).1=lent i)) :
  ∀i,i<nl->∃e,h' (nmJ i).1=J e/\(e.ver=0->γ' (nmJ i).1=lent i):=λi hi=>by
 obtain⟨e,he,hv⟩:=hl i hi;obtain⟨e',he',hc⟩:=T.keep _ e he;refine⟨e',he',λh0=>?_⟩;rcases hc with hc|⟨hc,hg,_⟩;·omega
 ·rw[hg];exact hv (by omega)
theorem Rel.step{st:St}{tmps:Array G}(R:Rel C γ w st tmps)(T:bP C γ st.h w C' γ' h' w')(I':Inv C' γ' h' w'):Rel C' γ' w' ⟨st.s,h'⟩ tmps where
 size:=R.size
 slot:=λi v hv=>aZ.step T (R.slot i v hv)
 inv:=I'
theorem Inv.row(I:Inv C γ h w){k:X}{e:En}{a:Z}{t:Ty}{xs:Y t.D}(hk:h k=J e)(hb:e.box=.row a t xs){n:X}(hn:n<=xs.length){v:G}(hv:eX (γ k) n v) :
  RdS C γ h w (J (k,e.ver,e.dver)) t (xs.take n) v:=by
 have hbx:=I.box k e hk;rw[hb] at hbx;rcases hbx with⟨h0,hx⟩|⟨g,c,cur,hγ,hbl,hc,_,hcs,hsz,hr⟩;·rw[h0] at hv;obtain⟨rfl,rfl⟩:=hv;exact⟨O,0,by simp,by simp,λi x e=>by simp at e⟩
 ·rw[hγ] at hv;have hgs:g<w.heap.size:=(Array.getElem?_eq_some_iff.1 hbl).1;have hl:e.box.live:=by rw[hb];trivial
  refine⟨J ⟨g,0,O⟩,c,?_,?_,λi x hx=>?_⟩;·simp only[eX] at hv;rw[hv];simp;omega
  ·simp;omega
  ·have hi:xs[i]?=J x:=by
    rw[Oi] at hx;split at hx
    ·exact hx
    ·cases hx
   have hrd:=hr i x hi;refine⟨g,0,_,rfl,⟨I.rd g (I.own k e g c hk hl hγ),λk' e' c' hk' hl' hγ'=>?_⟩,hgs,hrd,λj u hj=>?_⟩;·have ee:=I.inj k k' e e' g c c' hk hl hk' hl' hγ hγ';subst ee;rw[hk] at hk';simp only[ND] at hk';subst hk';exact⟨rfl,by rw[hb];trivial⟩
   ·rw[cell_of_row w g _ cur a (0,0) hbl];rw[Oi] at hj;split at hj
    ·rw[Ov] at hj;simpa using hj
    ·cases hj
theorem aH{k v:X}{b:Box}(ha:h.at k v=J b):∃e,h k=J e/\e.ver=v/\e.box=b:=by
 unfold Heap.at at ha;split at ha
 ·rename_i e he;split at ha
  ·simp only[ND] at ha;exact⟨e,he,‹_›,ha⟩
  ·cases ha
 ·cases ha
theorem Now.get{k v:X}{p:En->Prop}(hn:Now h k v p){e:En}(he:h k=J e)(hv:e.ver=v):p e:=by
 obtain⟨e',he',_,hp⟩:=hn;rw[he] at he';simp only[ND] at he';subst he';exact hp hv.symm
theorem dN.get{d:Dep}{p:Prop}(hn:dN h d p)(hd:h.depOk d=M):p:=by
 cases d with
 |none=>exact hn
 |some x=>
  obtain⟨k,v,dv⟩:=x;simp only[Heap.depOk] at hd;split at hd;·rename_i e he;simp only[NH] at hd;exact(Now.get hn he hd.1).2 hd.2.symm
  ·cases hd
theorem jP(I:Inv C γ h w){c:Cell}{r:(t:Ty)×Y t.D}(hr:rowOf h c=J r){v:G}(hv:av C γ h w c v):RdS C γ h w (eB h c) r.1 r.2 v:=by
 have weak:∀{t:Ty}{xs:Y t.D}{d:Dep},RdS C γ h w O t xs v->RdS C γ h w d t xs v:=λ{t xs d} ⟨A,c,h1,h2,h3⟩=>
  ⟨A,c,h1,h2,λi x e=>by
   obtain⟨g,o,ds,hA,ho,hg,hrd,hc⟩:=h3 i x e;exact⟨g,o,ds,hA,⟨ho.1,λk' e' c' hk' hl' hγ'=>by have:=(ho.2 k' e' c' hk' hl' hγ').1;simp at this⟩,hg,hrd,hc⟩⟩
 cases c with
 |sl d t xs=>
  simp only[rowOf] at hr;split at hr;·simp only[ND] at hr;subst hr;exact hv.2.get ‹_›
  ·cases hr
 |own k kv=>
  simp only[rowOf] at hr;split at hr;·rename_i a t xs ha;simp only[ND] at hr;subst hr;obtain⟨e,he,hve,hb⟩:=aH ha;have:=I.row he hb (NL _) (hv.2.get he hve xs.length (by rw[hb];rfl));simp only[eB,he,OC];rw[List.take_length,hve] at this;exact this
  ·rename_i t xs ha;simp only[ND] at hr;subst hr;obtain⟨e,he,hve,hb⟩:=aH ha;have hbx:=I.box k e he;rw[hb] at hbx;obtain⟨u,h1,h2⟩:=hbx;have h3:=hv.2.get he hve xs.length (by rw[hb];rfl);have:u=v:=by
    cases hγ:γ k with
    |none=>rw[hγ] at h1 h3;rw[h1.2,h3.2]
    |some p=>rw[hγ] at h1 h3;rw[show u=_ from h1,show v=_ from h3]
   subst this;exact weak (RdS.iff.2 h2)
  ·cases hr
 |ownP k kv n=>
  simp only[rowOf] at hr;split at hr;·rename_i a t xs ha;simp only[ND] at hr;subst hr;obtain⟨e,he,hve,hb⟩:=aH ha;obtain⟨hn,ho⟩:=hv.2.get he hve xs.length (by rw[hb];rfl);have:=I.row he hb hn ho;simp only[eB,he,OC];rw[hve] at this;exact this
  ·rename_i t xs ha;simp only[ND] at hr;subst hr;obtain⟨e,he,hve,hb⟩:=aH ha;have hbx:=I.box k e he;rw[hb] at hbx;obtain⟨u,h1,A,c,hA,hle,hx⟩:=hbx;obtain⟨hn,ho⟩:=hv.2.get he hve xs.length (by rw[hb];rfl);simp only[List.cons.injEq,and_true] at hA;apply weak;cases hγ:γ k with
   |none=>
    rw[hγ] at ho;obtain⟨rfl,rfl⟩:=ho;exact RdS.iff.2 ⟨O,0,by simp,by simp,λi x e=>by simp at e⟩
   |some p=>
    obtain⟨g,cc⟩:=p;rw[hγ] at ho h1;rw[show u=_ from h1] at hA;simp only[Value.slice.injEq,true_and] at hA;obtain⟨rfl,rfl⟩:=hA;refine RdS.iff.2 ⟨J ⟨g,0,O⟩,cc,?_,by simp;omega,λi x e=>?_⟩
    ·rw[show v=_ from ho];simp;omega
    ·rw[Oi] at e;split at e
     ·exact hx i x e
     ·cases e
  ·cases hr
 |_=>simp[rowOf] at hr
end
end Rv
namespace Rv
open Go
def fA:TypeDesc->zac
 | .struct _ | .array _ _=>M
 |_=>zab
def Ty.isAgg:Ty->zac
 | .nil | .pair _ _=>M
 |_=>zab
def Cell.plain:Cell->W G
 | .int k n=>J (.int k n)
 | .bool b=>J (.bool b)
 | .str s=>J (.string (mkS s))
 | .nilS=>J (.slice O 0 0)
 | .raw .nilIface=>J .nilIface
 | .raw (.pointer O)=>J (.pointer O)
 | .raw .nilFunc=>J .nilFunc
 |_=>O
def yY(P:Program)(rec:Z->Ty->Prop):Y Field->X->Ty->Prop
 |[],_,.nil=>True
 |f::fs,off,.pair A B=>(f.name == "_")=zab/\f.offset=off/\rec f.type A/\(∃inf,P.info? f.type=J inf/\inf.size=A.size)/\(∃d,P.underlying f.type=J d/\fA d=A.isAgg)/\yY P rec fs (off+A.size) B
 |_,_,_=>False
def wh(P:Program):X->Z->Ty->Prop
 |0,_,_=>False
 |d+1,t,T=>match T with
  | .int k=>P.underlying t=J (.int k)
  | .bool=>P.underlying t=J .bool
  | .str=>P.underlying t=J .string
  | .sl _=>False
  | .fn=>False
  | .nil=>P.underlying t=J (.struct (P.fieldsOf t))/\P.stoodInHeld t=zab/\yY P (wh P d) (P.fieldsOf t).toList 0 .nil
  | .pair a b=>P.underlying t=J (.struct (P.fieldsOf t))/\P.stoodInHeld t=zab/\yY P (wh P d) (P.fieldsOf t).toList 0 (.pair a b)
structure aN (P:Program) (t:Z) (i:TI):Prop where
 info:∃inf,P.info? t=J inf/\inf.size=i.size/\inf.bytes=i.bytes/\∃z,inf.zero=J z/\z.cells.size=i.size/\aj (λc v=>c.plain=J v) i.zero z.cells.toList
 desc:∃d,P.underlying t=J d/\fA d=i.agg
 fields:i.fields=[]\/∃fs:Array Field,P.underlying t=J (.struct fs)/\aj (λ(f:X×X×zac) (fd:Field)=>fd.offset=f.1/\0<f.2.1/\(∃inf,P.info? fd.type=J inf/\inf.size=f.2.1) /\
  ∃d,P.underlying fd.type=J d/\fA d=f.2.2) i.fields fs.toList
 elem:∀e,i.elem=J e->P.underlying t=J (.slice e)
 int:∀k,i.int=J k->P.underlying t=J (.int k)
 str:i.str=M->P.underlying t=J .string
 ty:∀T,i.ty=J T->T.size=i.size/\T.isAgg=i.agg
 bool:i.ty=J .bool->P.underlying t=J .bool
 iface:i.iface=M->∃ms,P.underlying t=J (.interface ms)
 cmp:i.cmp=M->∃inf,P.info? t=J inf/\inf.comparable=M
 notIface:i.iface=zab->∀ms,P.underlying t≠J (.interface ms)
 eq:∀T,i.eq=J T->wh P 20 t T/\T.hasSl=zab/\T.isAgg=M/\P.eqGuardType P.depth t=zab
 arr:∀n,i.arr=J n->0<n/\∃e,P.underlying t=J (.array n e)/\(∀w,(Go.sizeOf e).run P w=.ok (i.size / n) w)/\(i.size=n->∀w,(Go.isAgg e).run P w=.ok zab w)
section
variable{P:Program}{t:Z}{i:TI}
theorem aN.sizeOf(h:aN P t i)(w:zaa):(Go.sizeOf t).run P w=.ok i.size w:=by
 obtain⟨inf,h1,h2,_⟩:=h.info;simp[Go.sizeOf,typeInfo,h1,h2]
theorem aN.isAgg(h:aN P t i)(w:zaa):(Go.isAgg t).run P w=.ok i.agg w:=by
 obtain⟨d,h1,h2⟩:=h.desc;rw[<- h2];simp only[Go.isAgg,NR,run_underlying h1,NG];cases d<;>rfl
end
def Ext(w w':zaa):Prop:=w.heap.size<=w'.heap.size/\∀g,g<w.heap.size->w'.heap[g]?=w.heap[g]?
theorem Ext.refl(w:zaa):Ext w w:=⟨NL _,λ_ _=>rfl⟩
theorem Ext.trans{a b c:zaa}(h:Ext a b)(k:Ext b c):Ext a c:=
 ⟨Og h.1 k.1,λg hg=>(k.2 g (Ot hg h.1)).trans (h.2 g hg)⟩
theorem Ext.cell{w w':zaa}(h:Ext w w'){a:Addr}{v:G}(hc:w.cell? a=J v):w'.cell? a=J v:=
 (World.cell?_of_block (h.2 a.block (World.block_lt_of_cell? w a hc))).trans hc
theorem gu(g o j:X):(⟨g,o,O⟩:Addr).add j=⟨g,o+j,O⟩:=by
 unfold Addr.add;split
 ·subst_vars;rfl
 ·rfl
section
variable{P:Program}{C:Ctx}{γ:Gam}{h:Heap}{w:zaa}
theorem av.one{c:Cell}{v:G}(hr:av C γ h w c v):v.oneCell'=M:=by
 cases c with
 |int k n=>rw[show v=_ from hr];rfl
 |bool b=>rw[show v=_ from hr];rfl
 |str s=>rw[show v=_ from hr];rfl
 |nilS=>rw[show v=_ from hr];rfl
 |raw u=>rw[hr.1];exact hr.2
 |err b=>exact hr.1
 |ifo t k o=>
  cases o with
  |none=>rw[show v=_ from hr];rfl
  |some n=>rw[show v=_ from hr];rfl
 |dead=>exact hr
 |_=>exact hr.1
theorem dN.mk{d:Dep}{p:Prop}(hd:h.depOk d=M)(hp:p):dN h d p:=by
 cases d with
 |none=>exact hp
 |some x=>
  obtain⟨k,v,dv⟩:=x;simp only[Heap.depOk] at hd;split at hd;·rename_i e he;simp only[NH] at hd;exact⟨e,he,by omega,λ_=>⟨by omega,λ_=>hp⟩⟩
  ·cases hd
theorem cells_one{v:G}(h:v.oneCell'=M):v.cells=#[v]:=by cases v<;>first|rfl|simp[Value.oneCell'] at h
theorem aI.cells{x:V1}{v:G}(hr:aI C γ h w x v):aj (av C γ h w) x.cells v.cells.toList:=by
 cases x with
 |c x=>
  rw[cells_one (av.one hr)];exact⟨hr,trivial⟩
 |agg cs=>
  obtain⟨vs,hv,ha⟩:=hr;rw[hv];exact ha
theorem Rd.cells:∀{t:Ty}{x:t.D}{ds:Y G},Rd w (okb C γ h O) t x ds->aj (av C γ h w) (t.cells O x) ds
 | .int _,_,_,e=>by rw[e];exact⟨rfl,trivial⟩
 | .bool,_,_,e=>by rw[e];exact⟨rfl,trivial⟩
 | .str,_,_,e=>by rw[e];exact⟨rfl,trivial⟩
 | .sl _,_,_,hr=>by
  obtain⟨A,c,e,rest⟩:=hr;subst e;exact⟨⟨rfl,RdS.iff.2 ⟨A,c,rfl,rest⟩⟩,trivial⟩
 | .nil,_,_,e=>by rw[e];exact trivial
 | .pair _ _,_,_,⟨_,_,e,h1,h2⟩=>by rw[e];exact h1.cells.append h2.cells
 | .fn,_,_,⟨gs,e,hx⟩=>by subst e;exact⟨⟨rfl,gs,rfl,hx⟩,trivial⟩
theorem BU{v:G}{x:V1}(he:cK v=J x):aI C γ h w x v:=by
 cases v with
 |int k n=>simp only[cK,ND] at he;subst he;rfl
 |bool b=>simp only[cK,ND] at he;subst he;rfl
 |string s=>simp only[cK,ND] at he;subst he;rfl
 |slice a n c=>
  cases a with
  |some a=>simp[cK] at he
  |none=>
   cases n with
   |succ n=>simp[cK] at he
   |zero=>cases c with
    |succ c=>simp[cK] at he
    |zero=>simp only[cK,ND] at he;subst he;rfl
 |nilIface=>simp only[cK,ND] at he;subst he;exact⟨rfl,rfl⟩
 |pointer a=>
  cases a with
  |some a=>simp[cK] at he
  |none=>simp only[cK,ND] at he;subst he;exact⟨rfl,rfl⟩
 |nilFunc=>simp only[cK,ND] at he;subst he;exact⟨rfl,rfl⟩
 |_=>simp[cK] at he
theorem Ag{v:G}{x:V1}(he:cK v=J x):x≠.c .dead:=by
 intro hd;subst hd;unfold cK at he;split at he<;>simp at he
theorem Rel.opd{st:St}{a:Act}(R:Rel C γ w st a.tmps){x:Operand}{v:V1}(he:opd st x=J v):aI C γ st.h w v (a.eval x)/\v≠.c .dead:=by
 cases x with
 |tmp t=>
  simp only[Rv.opd] at he;split at he;·simp at he
  ·rename_i x hs hx;simp only[ND] at he;subst he;exact⟨R.slot t _ hx,λe=>hs (e ▸ rfl)⟩
  ·simp at he
 |const v=>exact⟨BU he,Ag he⟩
 |func f=>
  simp only[Rv.opd,ND] at he;subst he;exact⟨⟨rfl,rfl⟩,by simp⟩
 |global g=>simp[Rv.opd] at he
theorem o8{t:Z}{i:TI}(hi:aN P t i){w':zaa}{g off:X}{ds:Y G}(hl:ds.length=i.size)(hc:∀j u,ds[j]?=J u->w'.cell? ⟨g,off+j,O⟩=J u){cs:Y Cell}
  (ha:aj (av C γ h w) cs ds) {x:V1} (hm:mkV i.agg cs=J x):∃val,(loadVar t ⟨g,off,O⟩).run P w'=.ok val w'/\aI C γ h w x val /\
   (∀w'',(∀j u,ds[j]?=J u->w''.cell? ⟨g,off+j,O⟩=J u)->(loadVar t ⟨g,off,O⟩).run P w''=.ok val w''):=by
 cases hag:i.agg with
 |true=>
  rw[hag] at hm;simp only[mkV,if_true,ND] at hm;subst hm;have key:∀w'',(∀j u,ds[j]?=J u->w''.cell? ⟨g,off+j,O⟩=J u)->(loadVar t ⟨g,off,O⟩).run P w''=.ok (.agg ds.toArray) w'':=by
   intro w'' hc;have hlc:(loadCells ⟨g,off,O⟩ ds.length).run P w''=.ok ds.toArray w'':=run_loadCells_list (P:=P) w'' ⟨g,off,O⟩ ds λj u e=>by rw[gu];exact hc j u e
   simp only[loadVar,NR,hi.isAgg,hag,NG,if_true,hi.sizeOf,<- hl,hlc,NZ]
  exact⟨.agg ds.toArray,key w' hc,⟨ds,rfl,ha⟩,key⟩
 |false=>
  rw[hag] at hm;simp only[mkV,Bool.false_eq_true,if_false] at hm;cases cs with
  |nil=>simp at hm
  |cons c r=>
   cases r with
   |cons _ _=>simp at hm
   |nil=>
    simp only[ND] at hm;subst hm;cases ds with
    |nil=>exact ha.elim
    |cons u r=>cases r with
     |cons _ _=>exact ha.2.elim
     |nil=>
      have key:∀w'',(∀j u',[u][j]?=J u'->w''.cell? ⟨g,off+j,O⟩=J u')->(loadVar t ⟨g,off,O⟩).run P w''=.ok u w'':=by
       intro w'' hc;have h0:w''.cell? ⟨g,off,O⟩=J u:=hc 0 u rfl;simp only[loadVar,NR,hi.isAgg,hag,NG,Bool.false_eq_true,if_false,run_load,h0]
      exact⟨u,key w' hc,ha.1,key⟩
theorem Ju{t:Z}{sz:X}{ag:zac}(hinf:∃inf,P.info? t=J inf/\inf.size=sz)(hag:∃d,P.underlying t=J d/\fA d=ag){off:X}{cs:Y Cell}{vs:Y G}(ha:aj (av C γ h w) cs vs)
  (hle:off+sz<=cs.length) {x:V1} (hm:mkV ag ((cs.drop off).take sz)=J x) (w':zaa):∃val,(part t vs.toArray off).run P w'=.ok val w'/\aI C γ h w x val/\∀w'',(part t vs.toArray off).run P w''=.ok val w'':=by
 obtain⟨inf,h1,h2⟩:=hinf;obtain⟨d,h3,h4⟩:=hag;have hsz:∀w',(Go.sizeOf t).run P w'=.ok sz w':=λw'=>by simp[Go.sizeOf,typeInfo,h1,h2]
 have hia:∀w',(Go.isAgg t).run P w'=.ok ag w':=λw'=>by
  rw[<- h4];simp only[Go.isAgg,NR,run_underlying h3,NG];cases d<;>rfl
 have hp:=(ha.drop off).take sz;cases ag with
 |true=>
  simp only[mkV,if_true,ND] at hm;subst hm;have key:∀w',(part t vs.toArray off).run P w'=.ok (.agg ((vs.drop off).take sz).toArray) w':=λw'=>by
   simp only[part,NR,hia,NG,if_true,hsz,NZ];congr 2;apply Array.ext';simp[List.extract_eq_take_drop]
  exact⟨_,key w',⟨_,rfl,hp⟩,key⟩
 |false=>
  simp only[mkV,Bool.false_eq_true,if_false] at hm;revert hm hp;generalize hcs:(cs.drop off).take sz=l;generalize hvs:(vs.drop off).take sz=m;intro hp hm;cases l with
  |nil=>simp at hm
  |cons c r=>
   cases r with
   |cons _ _=>simp at hm
   |nil=>
    simp only[ND] at hm;subst hm;cases m with
    |nil=>exact hp.elim
    |cons u r=>cases r with
     |cons _ _=>exact hp.2.elim
     |nil=>
      have hu:vs[off]?=J u:=by
       have:((vs.drop off).take sz)[0]?=J u:=by rw[hvs];rfl
       rw[Oi] at this;split at this;·simpa using this
       ·cases this
      have key:∀w',(part t vs.toArray off).run P w'=.ok u w':=λw'=>by
       simp only[part,NR,hia,NG,Bool.false_eq_true,if_false,List.getElem?_toArray,hu,NZ]
      exact⟨u,key w',hp.1,key⟩
end
end Rv
namespace Rv
open Go
section
variable{P:Program}{C:Ctx}{γ:Gam}{h:Heap}{w:zaa}{R:Type}{r:R}
theorem ae{α:Type}{x:W α}{K:α->W R}(h:au x K=J r):∃a,x=J a/\K a=J r:=by
 cases x with
 |none=>simp[au] at h
 |some a=>exact⟨a,rfl,h⟩
theorem aa{c:Prop}[Decidable c]{x:W R}(h:(if c then x else O)=J r):c/\x=J r:=by
 split at h;·exact⟨‹_›,h⟩
 ·cases h
theorem kX{c:Prop}[Decidable c]{x:W R}(h:(if c then O else x)=J r):¬c/\x=J r:=by
 split at h;·cases h
 ·exact⟨‹_›,h⟩
theorem pu(s:Str):(mkS s).size=s.length:=rfl
theorem eU(s:Str):(mkS s).toList=s:=ByteArray.toList_eq (mkS s)
theorem BS(s:Str)(l h:X):(mkS s).extract l h=mkS ((s.take h).drop l):=by
 apply ByteArray.ext;apply Array.ext';rw[Lib.extract_data,List.drop_take];rfl
def eH(P:Program)(s:Sem G)(C:Ctx)(γ:Gam)(h:Heap)(w:zaa)(x:V1):Prop:=∃val,aI C γ h w x val/\∀w',s.run P w'=.ok val w'
theorem DL{op:BinOp}{k:IntKind}{x y:Int}{K:V1->W R}(hs:op≠.shl)(hs':op≠.shr)(he:oD op k x y (λc=>K (.c c))=J r)(t:Z) :
  ∃c,K c=J r/\eH P (binOp op t (.int k x) (.int k y)) C γ h w c:=by
 cases op with
 |shl=>exact absurd rfl hs
 |shr=>exact absurd rfl hs'
 |quo=>simp only[oD] at he;obtain⟨hy,he⟩:=kX he;exact⟨_,he,_,rfl,λw'=>by simp[binOp,Op.intDiv,hy]⟩
 |rem=>simp only[oD] at he;obtain⟨hy,he⟩:=kX he;exact⟨_,he,_,rfl,λw'=>by simp[binOp,Op.intDiv,hy]⟩
 |eql=>exact⟨_,he,_,rfl,λw'=>by simp[binOp,Op.intCmp];rfl⟩
 |neq=>exact⟨_,he,_,rfl,λw'=>by simp[binOp,Op.intCmp];rfl⟩
 |_=>exact⟨_,he,_,rfl,λw'=>by simp[binOp,Op.intArith,Op.intBits,Op.intCmp,ai]⟩
theorem yg{op:BinOp}{k k':IntKind}{x y:Int}{K:V1->W R}(hs:op=.shl\/op=.shr)(he:shI op k x y (λc=>K (.c c))=J r)(t:Z) :
  ∃c,K c=J r/\eH P (binOp op t (.int k x) (.int k' y)) C γ h w c:=by
 rcases hs with rfl|rfl<;>simp only[shI] at he<;>obtain⟨hy,he⟩:=kX he<;>refine⟨_,he,_,rfl,λw'=>?_⟩<;>simp[binOp,Op.shift,hy]
theorem yV(x y:Str):(x == y)=zah (x=y):=by rw[Bool.eq_iff_iff];simp
theorem DU{op:BinOp}{x y:Str}{K:V1->W R}(he:oF op x y (λc=>K (.c c))=J r)(t:Z) :
  ∃c,K c=J r/\eH P (binOp op t (.string (mkS x)) (.string (mkS y))) C γ h w c:=by
 cases op with
 |add=>
  simp only[oF] at he;obtain⟨hle,he⟩:=aa he;refine⟨_,he,.string (mkS x++mkS y),?_,λw'=>?_⟩;·show Value.string _=Value.string _;congr 1
  ·have:(binOp .add t (.string (mkS x)) (.string (mkS y)))=Op.stringOp .add (mkS x) (mkS y):=by simp[binOp]
   rw[this];exact run_string_add_sum w' (mkS x) (mkS y) hle
 |eql=>exact⟨_,he,_,rfl,λw'=>by simp[binOp,Op.stringOp,eU,yV]⟩
 |neq=>exact⟨_,he,_,rfl,λw'=>by simp[binOp,Op.stringOp,eU,yV]⟩
 |lss=>exact⟨_,he,_,rfl,λw'=>by simp[binOp,Op.stringOp,eU]⟩
 |geq=>exact⟨_,he,_,rfl,λw'=>by simp[binOp,Op.stringOp,eU]⟩
 |leq=>exact⟨_,he,_,rfl,λw'=>by simp[binOp,Op.stringOp,eU,yV]⟩
 |gtr=>exact⟨_,he,_,rfl,λw'=>by simp[binOp,Op.stringOp,eU,yV]⟩
 |_=>simp[oF] at he
theorem yF{op:BinOp}{t:Z}{x y:Operand}{a b:G}(h1:a.oneCell'=M)(h2:a≠.nilIface)(w':zaa):(eqGuard op t x y a b).run P w'=.ok () w':=by
 cases a<;>first|(simp[Value.oneCell'] at h1;done)|(exact absurd rfl h2)|(cases op<;>rfl)
def Ty.vals:(t:Ty)->t.D->Y G
 | .int k,n=>[.int k n]
 | .bool,b=>[.bool b]
 | .str,s=>[.string (mkS s)]
 | .sl _,_=>[]
 | .nil,_=>[]
 | .pair a b,x=>a.vals x.1++b.vals x.2
 | .fn,_=>[]
def Ty.val(t:Ty)(x:t.D):G:=if t.isAgg=M then .agg (t.vals x).toArray else(t.vals x).headD undef
theorem lV:∀{t:Ty}{x:t.D},t.hasSl=zab->(t.vals x).length=t.size
 | .int _,_,_=>rfl
 | .bool,_,_=>rfl
 | .str,_,_=>rfl
 | .sl _,_,h=>by simp[Ty.hasSl] at h
 | .nil,_,_=>rfl
 | .pair a b,x,h=>by
  simp only[Ty.hasSl,Bool.or_eq_false_iff] at h;simp only[Ty.vals,NP,Ty.size,lV h.1,lV h.2]
theorem pE:∀{t:Ty}{l:Y Cell}{x:t.D}{rest:Y Cell}{vs:Y G},t.parse l=J (x,rest)->t.hasSl=zab->aj (av C γ h w) l vs->∃v2,vs=t.vals x++v2/\aj (av C γ h w) rest v2
 | .int k,l,x,rest,vs,he,_,ha=>by
  cases l with
  |nil=>cases he
  |cons c l=>
   cases c with
   |int j n=>
    simp only[Ty.parse] at he;obtain⟨hk,he⟩:=aa he;simp only[ND,NI] at he;obtain⟨rfl,rfl⟩:=he;subst hk;cases vs with
    |nil=>exact ha.elim
    |cons v vs=>exact⟨vs,by rw[show v=_ from ha.1];rfl,ha.2⟩
   |_=>cases he
 | .bool,l,x,rest,vs,he,_,ha=>by
  cases l with
  |nil=>cases he
  |cons c l=>
   cases c with
   |bool b=>
    simp only[Ty.parse,ND,NI] at he;obtain⟨rfl,rfl⟩:=he;cases vs with
    |nil=>exact ha.elim
    |cons v vs=>exact⟨vs,by rw[show v=_ from ha.1];rfl,ha.2⟩
   |_=>cases he
 | .str,l,x,rest,vs,he,_,ha=>by
  cases l with
  |nil=>cases he
  |cons c l=>
   cases c with
   |str b=>
    simp only[Ty.parse,ND,NI] at he;obtain⟨rfl,rfl⟩:=he;cases vs with
    |nil=>exact ha.elim
    |cons v vs=>exact⟨vs,by rw[show v=_ from ha.1];rfl,ha.2⟩
   |_=>cases he
 | .sl _,_,_,_,_,_,hs,_=>by simp[Ty.hasSl] at hs
 | .nil,l,x,rest,vs,he,_,ha=>by
  simp only[Ty.parse,ND,NI] at he;obtain⟨_,rfl⟩:=he;exact⟨vs,rfl,ha⟩
 | .pair a b,l,x,rest,vs,he,hs,ha=>by
  simp only[Ty.hasSl,Bool.or_eq_false_iff] at hs;simp only[Ty.parse] at he;split at he
  ·rename_i x1 r1 h1;split at he
   ·rename_i y1 r2 h2;simp only[ND,NI] at he;obtain⟨rfl,rfl⟩:=he;obtain⟨v2,rfl,h3⟩:=pE h1 hs.1 ha;obtain⟨v3,rfl,h4⟩:=pE h2 hs.2 h3;exact⟨v3,by simp[Ty.vals],h4⟩
   ·cases he
  ·cases he
theorem qZ{t:Ty}{l:Y Cell}{x:t.D}{vs:Y G}(he:t.ofCells l=J x)(hs:t.hasSl=zab)(ha:aj (av C γ h w) l vs):vs=t.vals x:=by
 unfold Ty.ofCells at he;split at he
 ·rename_i y h1;simp only[ND] at he;subst he;obtain⟨v2,rfl,h2⟩:=pE h1 hs ha;cases v2 with
  |nil=>simp
  |cons _ _=>exact h2.elim
 ·cases he
theorem Ak{t:Z}{A:Ty}(hsl:A.hasSl=zab)(h1:∃inf,P.info? t=J inf/\inf.size=A.size)(h2:∃d,P.underlying t=J d/\fA d=A.isAgg)(x:A.D)(p r:Y G)(w':zaa) :
  (part t (p++(A.vals x++r)).toArray p.length).run P w'=.ok (A.val x) w':=by
 obtain⟨inf,hi,hsz⟩:=h1;obtain⟨d,hd,hg⟩:=h2;have hagg:(Go.isAgg t).run P w'=.ok A.isAgg w':=by
  rw[<- hg];simp only[Go.isAgg,NR,run_underlying hd,NG];cases d<;>rfl
 have hsize:(Go.sizeOf t).run P w'=.ok A.size w':=by simp[Go.sizeOf,typeInfo,hi,hsz]
 unfold part;rw[NR,hagg,NG];cases hA:A.isAgg with
 |true=>
  simp only[if_true,NR,hsize,NG,NZ];congr 1;unfold Ty.val;rw[zae hA];congr 1;have hl:=lV (t:=A) (x:=x) hsl;rw[List.extract_toArray];congr 1;simp[List.extract,<- hl]
 |false=>
  simp only[Bool.false_eq_true,if_false];have hv:∃v,A.vals x=[v]:=by
   cases A with
   |int k=>exact⟨_,rfl⟩
   |bool=>exact⟨_,rfl⟩
   |str=>exact⟨_,rfl⟩
   |sl t=>simp[Ty.hasSl] at hsl
   |fn=>simp[Ty.hasSl] at hsl
   |nil=>cases hA
   |pair a b=>cases hA
  obtain⟨v,hv⟩:=hv;have:(p++(A.vals x++r)).toArray[p.length]?=J v:=by
   rw[hv];simp
  rw[this];unfold Ty.val;rw[zaf (by rw[hA];simp),hv];rfl
theorem oO{D:X}{rec:Z->Ty->Prop}(hrec:∀t A,rec t A->A.hasSl=zab->∀(x y:A.D) (w':zaa),(Op.equalIn D t (A.val x) (A.val y)).run P w'=.ok (A.eqv x y) w') :
  ∀(fs:Y Field) (off:X) (T:Ty),yY P rec fs off T->T.hasSl=zab->∀(x y:T.D) (p q:Y G),p.length=off->q.length=off->∀w':zaa,(Op.eqFields D (p++T.vals x).toArray (q++T.vals y).toArray fs).run P w'=.ok (T.eqv x y) w'
 |[],off,.nil,_,_,_,_,_,_,_,_,_=>by simp[Op.eqFields,Ty.eqv,NZ]
 |f::fs,off,.pair A B,h,hsl,x,y,p,q,hp,hq,w'=>by
  simp only[Ty.hasSl,Bool.or_eq_false_iff] at hsl;obtain⟨hn,ho,hr,hi,hd,hrest⟩:=h
  have hn':f.name ≠ "_" := λe=>by simp[e] at hn
  have ih:=oO hrec fs (off+A.size) B hrest hsl.2 x.2 y.2 (p++A.vals x.1) (q++A.vals y.1) (by rw[NP,hp,lV hsl.1]) (by rw[NP,hq,lV hsl.1]) w';simp only[Op.eqFields,zae hn'];have g1:=Ak hsl.1 hi hd x.1 p (B.vals x.2) w';have g2:=Ak hsl.1 hi hd y.1 q (B.vals y.2) w';rw[hp] at g1;rw[hq] at g2;rw[ho,NR];simp only[Ty.vals];rw[g1,NG,NR,g2,NG,NR,hrec _ _ hr hsl.1,NG];simp only[Ty.eqv];cases hb:A.eqv x.1 y.1 with
  |false=>simp[NZ]
  |true=>
   simp only[Bool.not_true,Bool.false_eq_true,if_false,Bool.true_and];rw[<- NW,<- NW];exact ih
 |[],_,.int _,h,_,_,_,_,_,_,_,_|[],_,.bool,h,_,_,_,_,_,_,_,_|[],_,.str,h,_,_,_,_,_,_,_,_|[],_,.sl _,h,_,_,_,_,_,_,_,_|[],_,.pair _ _,h,_,_,_,_,_,_,_,_=>h.elim
 |_::_,_,.int _,h,_,_,_,_,_,_,_,_|_::_,_,.bool,h,_,_,_,_,_,_,_,_|_::_,_,.str,h,_,_,_,_,_,_,_,_|_::_,_,.sl _,h,_,_,_,_,_,_,_,_|_::_,_,.nil,h,_,_,_,_,_,_,_,_=>h.elim
theorem uS:∀(d:X) (t:Z) (T:Ty),wh P d t T->T.hasSl=zab->∀D,d<=D->∀(x y:T.D) (w':zaa),(Op.equalIn D t (T.val x) (T.val y)).run P w'=.ok (T.eqv x y) w'
 |0,_,_,h,_,_,_,_,_,_=>h.elim
 |d+1,t,T,h,hsl,D,hD,x,y,w'=>by
  obtain⟨D,rfl⟩:∃D',D=D'+1:=⟨D-1,by omega⟩
  have hrec:∀t A,wh P d t A->A.hasSl=zab->∀(x y:A.D) (w':zaa),(Op.equalIn D t (A.val x) (A.val y)).run P w'=.ok (A.eqv x y) w':=λt A hA hs x y w'=>uS d t A hA hs D (by omega) x y w'
  cases T with
  |int k=>exact run_equalIn_int w' D t k k x y h
  |bool=>exact run_equalIn_bool' w' D t x y h
  |str=>
   have:=run_equalIn_string w' D t (mkS x) (mkS y) h;rw[eU,eU] at this;refine Eq.trans this ?_;congr 1;show(x == y)=zah (x=y);by_cases e:x=y<;>simp[e]
  |sl t=>exact h.elim
  |fn=>exact h.elim
  |nil=>
   obtain⟨h1,h2,h3⟩:=h;exact(run_equalIn_agg w' D t _ _ h1 h2).trans (oO hrec _ 0 .nil h3 hsl x y [] [] rfl rfl w')
  |pair a b=>
   obtain⟨h1,h2,h3⟩:=h;exact(run_equalIn_agg w' D t _ _ h1 h2).trans (oO hrec _ 0 (.pair a b) h3 hsl x y [] [] rfl rfl w')
theorem qL{te:Z->W TI}(hte:∀t i,te t=J i->aN P t i){t:Z}(hh:isBool te t=M):P.underlying t=J .bool:=by
 unfold isBool at hh;split at hh
 ·rename_i ti hti;split at hh
  ·rename_i hty;exact(hte t ti hti).bool hty
  ·cases hh
 ·cases hh
theorem KN{d:X}{t:Z}{ms}(h:P.underlying t=J (.interface ms))(w':zaa):(Op.equalIn (d+1) t .nilIface .nilIface).run P w'=.ok M w':=by
 simp[Op.equalIn,run_underlying h]
theorem IM{d:X}{t tt:Z}{ms}{v:G}(h:P.underlying t=J (.interface ms))(w':zaa):(Op.equalIn (d+1) t (.iface tt v) .nilIface).run P w'=.ok zab w':=by
 simp[Op.equalIn,run_underlying h]
theorem BH{d:X}{t tt:Z}{ms}{v:G}(h:P.underlying t=J (.interface ms))(w':zaa):(Op.equalIn (d+1) t .nilIface (.iface tt v)).run P w'=.ok zab w':=by
 simp[Op.equalIn,run_underlying h]
theorem IL{d:X}{t tt:Z}{ms}{k:IntKind}{a b:Int}{inf:TypeInfo}(h:P.underlying t=J (.interface ms))(hi:P.info? tt=J inf)(hc:inf.comparable=M)(hk:P.underlying tt=J (.int k))(w':zaa) :
  (Op.equalIn (d+1+1) t (.iface tt (.int k a)) (.iface tt (.int k b))).run P w'=.ok (a == b) w':=by
 rw[Op.equalIn];simp only[NR,run_underlying h,NG,ne_eq,not_true_eq_false,if_false];simp only[typeInfo,NR,run_program,NG,hi,NZ,hc,Bool.not_true,Bool.false_eq_true,if_false];exact run_equalIn_int w' d tt k k a b hk
theorem yI{te:Z->W TI}(hte:∀t i,te t=J i->aN P t i){t:Z}(hh:isIface te t=M):∃ms,P.underlying t=J (.interface ms):=by
 unfold isIface at hh;split at hh;·rename_i ti hti;exact(hte _ _ hti).iface hh
 ·cases hh
theorem yE{te:Z->W TI}(hte:∀t i,te t=J i->aN P t i){t:Z}{k:IntKind}(hh:nE te t=J k):P.underlying t=J (.int k)/\∃inf,P.info? t=J inf/\inf.comparable=M:=by
 unfold nE at hh;split at hh;·rename_i ti hti;obtain⟨hc,hi⟩:=aa hh;exact⟨(hte _ _ hti).int _ hi,(hte _ _ hti).cmp hc⟩
 ·cases hh
theorem F3{te:Z->W TI}(hte:∀t i,te t=J i->aN P t i){t tt:Z}{k:IntKind}{o:W Int}{m:Int}{x y:Operand}(hX:isIface te t=M)(hk:nE te tt=J k){va:G}(ha:match o with|none=>va=.nilIface|some n=>va=.iface tt (.int k n))(w':zaa) :
  (∀op,(eqGuard op t x y va (.iface tt (.int k m))).run P w'=.ok () w')/\(Op.equal t va (.iface tt (.int k m))).run P w'=.ok (zah (o=J m)) w':=by
 obtain⟨ms,hms⟩:=yI hte hX;obtain⟨hu,inf,hi,hc⟩:=yE hte hk;cases o with
 |none=>
  rw[show va=_ from ha];refine⟨λop=>by cases op<;>rfl,?_⟩;exact(BH (d:=9999) hms w').trans (by simp)
 |some n=>
  rw[show va=_ from ha];refine⟨λop=>by cases op<;>rfl,?_⟩;refine(IL (d:=9998) hms hi hc hu w').trans ?_;congr 1;by_cases e:n=m<;>simp[e]
theorem wI{tt:Z}{k:IntKind}{o:W Int}{va:G}(ha:match o with|none=>va=.nilIface|some n=>va=.iface tt (.int k n)):(o.isNone=M->va=.nilIface)/\(o.isNone=zab->∃t x,va=.iface t x):=by
 cases o with
 |none=>exact⟨λ_=>ha,λe=>by simp at e⟩
 |some n=>exact⟨λe=>by simp at e,λ_=>⟨_,_,ha⟩⟩
theorem jX{te:Z->W TI}(hte:∀t i,te t=J i->aN P t i){t:Z}{x y:Operand}(hh:mr te t y=M){b:zac}{va:G}(ha:(b=M->va=.nilIface)/\(b=zab->∃t x,va=.iface t x))(w':zaa) :
  (eqGuard .eql t x y va .nilIface).run P w'=.ok () w'/\(eqGuard .neq t x y va .nilIface).run P w'=.ok () w'/\(Op.equal t va .nilIface).run P w'=.ok b w':=by
 unfold mr at hh;simp only[NJ] at hh;obtain⟨hi,hy⟩:=hh;split at hi
 ·rename_i ti hti;obtain⟨ms,hms⟩:=(hte t ti hti).iface hi;cases y with
  |const v=>
   cases b with
   |true=>
    rw[ha.1 rfl];refine⟨?_,?_,KN (d:=9999) hms w'⟩;·simp[eqGuard]
    ·simp[eqGuard]
   |false=>
    obtain⟨tt,xx,rfl⟩:=ha.2 rfl;refine⟨?_,?_,IM (d:=9999) hms w'⟩;·simp[eqGuard]
    ·simp[eqGuard]
  |_=>cases hy
 ·cases hi
theorem DR{te:Z->W TI}(hte:∀t i,te t=J i->aN P t i){op:BinOp}{t:Z}{a b:V1}{K:V1->W R}{x y:Operand}(he:iM (isBool te t) (mr te t y) (isIface te t) (nE te) (D8 te t) op a b K=J r){va vb:G}(ha:aI C γ h w a va)(hb:aI C γ h w b vb) :
  ∃c,K c=J r/\eH P (do eqGuard op t x y va vb;binOp op t va vb) C γ h w c:=by
 have fin:∀{va:G},va.oneCell'=M->va≠.nilIface->(∃c,K c=J r/\eH P (binOp op t va vb) C γ h w c)->∃c,K c=J r/\eH P (do eqGuard op t x y va vb;binOp op t va vb) C γ h w c:=by
  rintro va h1 h2 ⟨c,hc,val,hv,hr⟩;exact⟨c,hc,val,hv,λw'=>by rw[NR,yF h1 h2,NG];exact hr w'⟩
 have agg:∀{xs ys:Y Cell}{T:Ty}{K':zac->W R}{va vb:G},D8 te t=J T->mh T xs ys K'=J r->aI C γ h w (.agg xs) va->aI C γ h w (.agg ys) vb ->
   ∃b,K' b=J r/\∃us vs:Array G,va=.agg us/\vb=.agg vs/\P.eqGuardType P.depth t=zab/\∀w',(Op.equalIn 10000 t (.agg us) (.agg vs)).run P w'=.ok b w':=by
  intro xs ys T K' va vb hT he ha hb;obtain⟨us,rfl,hu⟩:=ha;obtain⟨vs,rfl,hv⟩:=hb;unfold D8 at hT;split at hT
  ·rename_i ti hti;obtain⟨h1,h2,h3,h4⟩:=(hte t ti hti).eq T hT;unfold mh at he;split at he
   ·rename_i x y hx hy;have e1:=qZ hx h2 hu;have e2:=qZ hy h2 hv;refine⟨_,he,_,_,rfl,rfl,h4,λw'=>?_⟩;have:=uS 20 t T h1 h2 10000 (by omega) x y w';unfold Ty.val at this;rw[zae h3,zae h3] at this;rw[e1,e2];exact this
   ·cases he
  ·cases hT
 unfold iM at he;split at he;·rw[show va=_ from ha];rw[show vb=_ from hb];rw[show vb=_ from hb] at fin;exact fin rfl (by simp) (yg (.inl rfl) he t)
 ·rw[show va=_ from ha];rw[show vb=_ from hb];rw[show vb=_ from hb] at fin;exact fin rfl (by simp) (yg (.inr rfl) he t)
 ·rename_i h1 h2;obtain⟨hk,he2⟩:=aa he;subst hk;rw[show va=_ from ha];rw[show vb=_ from hb];rw[show vb=_ from hb] at fin;exact fin rfl (by simp) (DL h1 h2 he2 t)
 ·rw[show va=_ from ha];rw[show vb=_ from hb];rw[show vb=_ from hb] at fin;exact fin rfl (by simp) (DU he t)
 ·obtain⟨hB,he⟩:=aa he;rw[show va=_ from ha];rw[show vb=_ from hb];rw[show vb=_ from hb] at fin;exact fin rfl (by simp) ⟨_,he,_,rfl,λw'=>run_eql_bool w' t _ _ (qL hte hB)⟩
 ·obtain⟨hB,he⟩:=aa he;rw[show va=_ from ha];rw[show vb=_ from hb];rw[show vb=_ from hb] at fin;exact fin rfl (by simp) ⟨_,he,_,rfl,λw'=>run_neq_bool w' t _ _ (qL hte hB)⟩
 ·obtain⟨hI,he⟩:=aa he;have hvb:vb=.nilIface:=hb.1;subst hvb;exact⟨_,he,_,rfl,λw'=>by
   have h:=jX (P:=P) (x:=x) hte hI ha.2 w';rw[NR,h.1,NG];simp only[binOp,NR,h.2.2,NG,NZ]⟩
 ·obtain⟨hI,he⟩:=aa he;have hvb:vb=.nilIface:=hb.1;subst hvb;exact⟨_,he,_,rfl,λw'=>by
   have h:=jX (P:=P) (x:=x) hte hI ha.2 w';rw[NR,h.2.1,NG];simp only[binOp,NR,h.2.2,NG,NZ]⟩
 ·rename_i tt k o;obtain⟨hI,he⟩:=aa he;have hvb:vb=.nilIface:=hb.1;subst hvb;exact⟨_,he,_,rfl,λw'=>by
   have h:=jX (P:=P) (x:=x) hte hI (b:=o.isNone) (va:=va) (wI ha) w';rw[NR,h.1,NG];simp only[binOp,NR,h.2.2,NG,NZ]⟩
 ·rename_i tt k o;obtain⟨hI,he⟩:=aa he;have hvb:vb=.nilIface:=hb.1;subst hvb;exact⟨_,he,_,rfl,λw'=>by
   have h:=jX (P:=P) (x:=x) hte hI (b:=o.isNone) (va:=va) (wI ha) w';rw[NR,h.2.1,NG];simp only[binOp,NR,h.2.2,NG,NZ]⟩
 ·rename_i t1 k1 o t2 k2 m;obtain⟨⟨hX,e1,e2,hk⟩,he2⟩:=aa he;subst e1 e2;have hvb:vb=.iface t1 (.int k1 m):=hb;subst hvb;exact⟨_,he2,_,rfl,λw'=>by
   have h:=F3 (P:=P) (x:=x) (y:=y) (m:=m) hte hX hk (va:=va) ha w';rw[NR,h.1,NG];cases o with
   |none=>rw[show va=_ from ha] at h⊢;simp only[binOp,NR,h.2,NG,NZ]
   |some n=>rw[show va=_ from ha] at h⊢;simp only[binOp,NR,h.2,NG,NZ]⟩
 ·rename_i t1 k1 o t2 k2 m;obtain⟨⟨hX,e1,e2,hk⟩,he2⟩:=aa he;subst e1 e2;have hvb:vb=.iface t1 (.int k1 m):=hb;subst hvb;exact⟨_,he2,_,rfl,λw'=>by
   have h:=F3 (P:=P) (x:=x) (y:=y) (m:=m) hte hX hk (va:=va) ha w';rw[NR,h.1,NG];cases o with
   |none=>rw[show va=_ from ha] at h⊢;simp only[binOp,NR,h.2,NG,NZ]
   |some n=>rw[show va=_ from ha] at h⊢;simp only[binOp,NR,h.2,NG,NZ]⟩
 ·split at he
  ·rename_i hT;obtain⟨b,hk,us,vs,rfl,rfl,hg,hrun⟩:=agg hT he ha hb;exact⟨_,hk,_,rfl,λw'=>by rw[NR,run_eqGuard_agg w' _ _ _ _ _ _ hg,NG,run_eql_struct,hrun,NG]⟩
  ·cases he
 ·split at he
  ·rename_i hT;obtain⟨b,hk,us,vs,rfl,rfl,hg,hrun⟩:=agg hT he ha hb;exact⟨_,hk,_,rfl,λw'=>by rw[NR,run_eqGuard_agg w' _ _ _ _ _ _ hg,NG,run_neq_struct,hrun,NG]⟩
  ·cases he
 ·cases he
theorem Ht{op:UnOp}{a:V1}{K:V1->W R}(he:unK op a K=J r){va:G}(ha:aI C γ h w a va):∃c,K c=J r/\eH P (Op.unary op va) C γ h w c:=by
 unfold unK at he;split at he;·rw[show va=_ from ha];exact⟨_,he,_,rfl,λw'=>by simp[Op.unary]⟩
 ·rw[show va=_ from ha];exact⟨_,he,_,rfl,λw'=>by simp[Op.unary,Op.intArith]⟩
 ·rw[show va=_ from ha];exact⟨_,he,_,rfl,λw'=>by simp[Op.unary,Op.intBits,ai]⟩
 ·cases he
def iQ(C:Ctx)(γ:Gam)(h:Heap)(w:zaa):W V1->W G->Prop
 |none,O=>True
 |some x,J v=>aI C γ h w x v
 |_,_=>False
theorem dJ{isSlice:zac}{n cap:X}(hn:n<=cap){lo hi mx:W V1}{vl vh vm:W G}(hl:iQ C γ h w lo vl)(hh:iQ C γ h w hi vh)(hm:iQ C γ h w mx vm){K:X->X->W R}
  (he:fo n lo hi mx K=J r):∃l hh m,K l hh=J r/\l<=hh/\hh<=n/\hh<=m/\m<=cap/\(mx=O->m=cap)/\(lo=O->l=0)/\∀w',(Instr.sliceBounds isSlice n cap vl vh vm).run P w'=.ok (l,hh,m) w':=by
 unfold fo at he;cases mx with
 |none=>
  cases vm with
  |some _=>exact hm.elim
  |none=>
   cases hi with
   |none=>
    cases vh with
    |some _=>exact hh.elim
    |none=>
     cases lo with
     |none=>
      cases vl with
      |some _=>exact hl.elim
      |none=>exact⟨0,n,cap,he,Nat.zero_le _,NL _,hn,NL _,λ_=>rfl,λ_=>rfl,λw'=>by simp[Instr.sliceBounds]⟩
     |some x=>
      cases vl with
      |none=>exact hl.elim
      |some v=>
       cases x with
       |agg cs=>simp at he
       |c x=>cases x with
        |int k i=>
         obtain⟨hc,he⟩:=aa he;rw[show v=_ from hl];refine⟨i.toNat,n,cap,he,by omega,NL _,hn,NL _,λ_=>rfl,(λe=>by cases e),λw'=>?_⟩;simp[Instr.sliceBounds,run_sliceBound w' k i n _ hc.1 hc.2]
        |_=>simp at he
   |some x=>
    cases vh with
    |none=>exact hh.elim
    |some vh=>
     cases x with
     |agg cs=>simp at he
     |c x=>cases x with
      |int k j=>
       obtain⟨hc,he⟩:=aa he;rw[show vh=_ from hh];cases lo with
       |none=>
        cases vl with
        |some _=>exact hl.elim
        |none=>
         refine⟨0,j.toNat,cap,he,Nat.zero_le _,by omega,by omega,NL _,λ_=>rfl,λ_=>rfl,λw'=>?_⟩;simp[Instr.sliceBounds,run_sliceBound w' k j cap _ hc.1 (by omega)]
       |some x=>
        cases vl with
        |none=>exact hl.elim
        |some v=>
         cases x with
         |agg cs=>simp at he
         |c x=>cases x with
          |int k' i=>
           obtain⟨hc',he⟩:=aa he;rw[show v=_ from hl];refine⟨i.toNat,j.toNat,cap,he,by omega,by omega,by omega,NL _,λ_=>rfl,(λe=>by cases e),λw'=>?_⟩;simp[Instr.sliceBounds,run_sliceBound w' k j cap _ hc.1 (by omega),run_sliceBound w' k' i j.toNat _ hc'.1 (by omega)]
          |_=>simp at he
      |_=>simp at he
 |some x=>
  cases vm with
  |none=>exact hm.elim
  |some vm=>
   cases x with
   |agg cs=>simp at he
   |c x=>cases x with
    |int k m=>
     obtain⟨hcm,he⟩:=aa he;rw[show vm=_ from hm];cases hi with
     |none=>simp at he
     |some x=>
      cases vh with
      |none=>exact hh.elim
      |some vh=>
       cases x with
       |agg cs=>simp at he
       |c x=>cases x with
        |int kh j=>
         obtain⟨hc,he⟩:=aa he;rw[show vh=_ from hh];cases lo with
         |none=>
          cases vl with
          |some _=>exact hl.elim
          |none=>
           refine⟨0,j.toNat,m.toNat,he,Nat.zero_le _,by omega,by omega,by omega,(λe=>by cases e),λ_=>rfl,λw'=>?_⟩;simp[Instr.sliceBounds,run_sliceBound w' k m cap _ hcm.1 (by omega),run_sliceBound w' kh j m.toNat _ hc.1 (by omega)]
         |some x=>
          cases vl with
          |none=>exact hl.elim
          |some v=>
           cases x with
           |agg cs=>simp at he
           |c x=>cases x with
            |int k' i=>
             obtain⟨hc',he⟩:=aa he;rw[show v=_ from hl];refine⟨i.toNat,j.toNat,m.toNat,he,by omega,by omega,by omega,by omega,(λe=>by cases e),(λe=>by cases e),λw'=>?_⟩;simp[Instr.sliceBounds,run_sliceBound w' k m cap _ hcm.1 (by omega),run_sliceBound w' kh j m.toNat _ hc.1 (by omega),run_sliceBound w' k' i j.toNat _ hc'.1 (by omega)]
            |_=>simp at he
        |_=>simp at he
    |_=>simp at he
theorem dR{te:Z->W TI}(hte:∀t i,te t=J i->aN P t i){t:Z}{n:X}(he:dY te t=J n):∃e i,te e=J i/\i.size=n/\P.underlying t=J (.slice e):=by
 unfold dY at he;split at he
 ·rename_i e h1;split at he
  ·rename_i ti h2;simp only[ND] at he;cases h0:te t with
   |none=>simp[h0] at h1
   |some i0=>
    simp only[h0,NE] at h1;exact⟨e,ti,h2,he,(hte t i0 h0).elem e h1⟩
  ·cases he
 ·cases he
theorem mW{te:Z->W TI}(hte:∀t i,te t=J i->aN P t i){t:Z}(he:isStr te t=M):P.underlying t=J .string:=by
 unfold isStr at he;split at he;·rename_i ti h;exact(hte t ti h).str he
 ·cases he
theorem Cu{t e:Z}(h:P.underlying t=J (.slice e)):P.underlying t=J (.slice (P.elem t)):=by
 rw[h];simp[Program.elem,h]
theorem KM{t e:Z}(h:P.underlying t=J (.slice e)):P.elem t=e:=by simp[Program.elem,h]
end
end Rv
namespace Rv
open Go
section
variable{P:Program}{C:Ctx}{γ:Gam}{h:Heap}{w:zaa}{R:Type}{r:R}
def uI(P:Program)(s:Sem G)(C:Ctx)(γ:Gam)(h:Heap)(w:zaa)(x:V1):Prop:=∃val,aI C γ h w x val/\∀w',Ext w w'->s.run P w'=.ok val w'
theorem eH.ext{s:Sem G}{x:V1}(hf:eH P s C γ h w x):uI P s C γ h w x:=let ⟨v,h1,h2⟩:=hf;⟨v,h1,λw' _=>h2 w'⟩
theorem nH{α:Type}{l:Y α}{i:X}(d:α)(hi:i<l.length):l[i]?=J (l.getD i d):=by
 grind
theorem qV{t:Z}{ti:TI}(hi:aN P t ti){t':Ty}{x:t'.D}{ds:Y G}{g p off:X}(hrd:Rd w (okb C γ h O) t' x ds)(hcell:∀j u,ds[j]?=J u->w.cell? ⟨g,p+j,O⟩=J u)
  (hle:off+ti.size<=t'.size) {y:V1} (hm:mkV ti.agg (((t'.cells O x).drop off).take ti.size)=J y):uI P (Instr.loadAt t (.pointer (J ⟨g,p+off,O⟩))) C γ h w y:=by
 have ha:=hrd.cells;have hl:=hrd.length;have hds:((ds.drop off).take ti.size).length=ti.size:=by simp;omega
 have hc:∀j u,((ds.drop off).take ti.size)[j]?=J u->w.cell? ⟨g,(p+off)+j,O⟩=J u:=λj u e=>by
  grind
 obtain⟨val,h1,h2,h3⟩:=o8 hi hds hc ((ha.drop off).take ti.size) hm;exact⟨val,h2,λw' hw=>by
  simp only[Instr.loadAt,Instr.sureAddr,NR,NZ,NG];exact h3 w' λj u e=>hw.cell (hc j u e)⟩
theorem qK{k:IntKind}:∀{cs:Y Cell}{l:Y Int}{vs:Y G},iT k cs=J l->aj (av C γ h w) cs vs->vs=l.map (Value.int k)
 |[],l,vs,he,ha=>by
  simp only[iT,ND] at he;subst he;cases vs with
  |nil=>rfl
  |cons _ _=>exact ha.elim
 |c::cs,l,vs,he,ha=>by
  cases c with
  |int j n=>
   simp only[iT] at he;obtain⟨hj,he⟩:=aa he;split at he
   ·rename_i l' hl;simp only[ND] at he;subst he;cases vs with
    |nil=>exact ha.elim
    |cons v vs=>
     rw[NY,<- qK hl ha.2,show v=_ from ha.1,hj]
   ·cases he
  |_=>cases he
theorem rQ:∀{cs:Y Cell}{l:Y Str}{vs:Y G},strsOf cs=J l->aj (av C γ h w) cs vs->vs=l.map λs=>Value.string (mkS s)
 |[],l,vs,he,ha=>by
  simp only[strsOf,ND] at he;subst he;cases vs with
  |nil=>rfl
  |cons _ _=>exact ha.elim
 |c::cs,l,vs,he,ha=>by
  cases c with
  |str s=>
   simp only[strsOf] at he;split at he
   ·rename_i l' hl;simp only[ND] at he;subst he;cases vs with
    |nil=>exact ha.elim
    |cons v vs=>
     rw[NY,<- rQ hl ha.2,show v=_ from ha.1]
   ·cases he
  |_=>cases he
theorem p8:∀{cs:Y Cell}{l:Y zac}{vs:Y G},nC cs=J l->aj (av C γ h w) cs vs->vs=l.map λs=>Value.bool s
 |[],l,vs,he,ha=>by
  simp only[nC,ND] at he;subst he;cases vs with
  |nil=>rfl
  |cons _ _=>exact ha.elim
 |c::cs,l,vs,he,ha=>by
  cases c with
  |bool s=>
   simp only[nC] at he;split at he
   ·rename_i l' hl;simp only[ND] at he;subst he;cases vs with
    |nil=>exact ha.elim
    |cons v vs=>
     rw[NY,<- p8 hl ha.2,show v=_ from ha.1]
   ·cases he
  |_=>cases he
theorem sM{cs:Y Cell}{i:X}{c:Cell}{vs:Y G}(he:yN cs i=J c)(ha:aj (av C γ h w) cs vs)(hi:i<cs.length):∃v,vs[i]?=J v/\av C γ h w c v:=by
 have hl:=ha.length;unfold yN at he;split at he
 ·split at he
  ·rename_i l hl';simp only[ND] at he;subst he;have:=qK hl' ha;simp_all [av]
  ·cases he
 ·split at he
  ·rename_i l hl';simp only[ND] at he;subst he;have:=rQ hl' ha;simp_all [av]
  ·cases he
 ·split at he
  ·rename_i l hl';simp only[ND] at he;subst he;have:=p8 hl' ha;simp_all [av]
  ·cases he
 ·cases he
theorem qw{te:Z->W TI}(hte:∀t i,te t=J i->aN P t i){t:Z}{n:X}(he:nz te t=J n):∃e,P.underlying t=J (.array n e)/\(∀w,(Go.sizeOf e).run P w=.ok 1 w)/\∀w,(Go.isAgg e).run P w=.ok zab w:=by
 unfold nz at he;split at he
 ·rename_i ti hti;split at he
  ·rename_i m hm;split at he
   ·rename_i hs;simp only[ND] at he;subst he;obtain⟨h0,e,h1,h2,h3⟩:=(hte _ _ hti).arr m hm;simp_all
   ·cases he
  ·cases he
 ·cases he
theorem zB{te:Z->W TI}(hte:∀t i,te t=J i->aN P t i){t:Z}{n s:X}(he:uQ te t=J (n,s)):∃e,P.underlying t=J (.array n e)/\∀w,(Go.sizeOf e).run P w=.ok s w:=by
 unfold uQ at he;split at he
 ·rename_i ti hti;split at he
  ·rename_i m hm;simp only[ND,NI] at he;obtain⟨rfl,rfl⟩:=he;obtain⟨_,e,h1,h2,_⟩:=(hte _ _ hti).arr m hm
   grind
  ·cases he
 ·cases he
theorem sW{te:Z->W TI}(hte:∀t i,te t=J i->aN P t i){st:St}(I:Inv C γ st.h w){t:Z}{x:V1}{K:V1->W R}(he:dG te st t x K=J r){v:G}(hv:aI C γ st.h w x v) :
  ∃y,K y=J r/\uI P (Instr.loadAt t v) C γ st.h w y:=by
 unfold dG at he;split at he
 ·rename_i k kv off ti hti;have hi:=hte _ _ hti;split at he
  ·rename_i l hat
   obtain⟨e,hk,hve,hbox⟩:=aH hat
   obtain⟨g,c,hγ,rfl⟩:=hv.2.get hk hve l hbox;obtain⟨hle,he⟩:=aa he;obtain⟨y,hm,he⟩:=ae he;have hb0:=I.box k _ hk;rw[hbox] at hb0;obtain⟨g',vs,U,hγ',hb,ha⟩:=hb0;rw[hγ] at hγ';simp only[ND,NI] at hγ';obtain⟨rfl,rfl⟩:=hγ';have hlen:=ha.length;have hds:((vs.toList.drop off).take ti.size).length=ti.size:=by grind
   have hc:∀j u,((vs.toList.drop off).take ti.size)[j]?=J u->w.cell? ⟨g,off+j,O⟩=J u:=λj u e=>by
    grind [cell_of_row]
   obtain⟨val,h1,h2,h3⟩:=o8 hi hds hc ((ha.drop off).take ti.size) hm;exact⟨y,he,val,h2,λw' hw=>by
    simp only[Instr.loadAt,Instr.sureAddr,NR,NZ,NG];exact h3 w' λj u e=>hw.cell (hc j u e)⟩
  ·cases he
 ·rename_i k kv i off ti hti;have hi:=hte _ _ hti;split at he
  ·rename_i a t' xs hat
   obtain⟨e,hk,hve,hbox⟩:=aH hat
   obtain⟨hlt,g,c,hγ,rfl⟩:=hv.2.get hk hve xs.length (by rw[hbox];rfl);obtain⟨hle,he⟩:=aa he;obtain⟨y,hm,he⟩:=ae he;have hb0:=I.box k _ hk;rw[hbox] at hb0;rcases hb0 with⟨h0,_⟩|⟨g',c',cur,hγ',hb,hxc,hcm,hcs,hsz,hr⟩;·grind
   ·rw[hγ] at hγ';simp only[ND,NI] at hγ';obtain⟨rfl,rfl⟩:=hγ';rw[hbox];refine⟨y,he,qV hi (hr i _ (nH t'.dflt hlt)) (λj u e=>?_) hle hm⟩
    grind [cell_of_row,Box.tsize]
  ·rename_i t' xs hat
   obtain⟨e,hk,hve,hbox⟩:=aH hat
   obtain⟨hlt,g,c,hγ,rfl⟩:=hv.2.get hk hve xs.length (by rw[hbox];rfl);obtain⟨hle,he⟩:=aa he;obtain⟨y,hm,he⟩:=ae he;have hb0:=I.box k _ hk;rw[hbox] at hb0;obtain⟨u,h1,A,cc,hA,_,hx⟩:=hb0;rw[hγ] at h1;rw[show u=_ from h1] at hA;simp only[List.cons.injEq,Value.slice.injEq,and_true,true_and] at hA;obtain⟨rfl,rfl⟩:=hA;obtain⟨g',o,ds,hA',ho,hgs,hd,hcell⟩:=hx i _ (nH t'.dflt hlt);simp only[ND,Addr.mk.injEq,and_true] at hA';obtain⟨rfl,rfl⟩:=hA';rw[hbox];exact⟨y,he,qV hi hd (λj u e=>by grind [Box.tsize]) hle hm⟩
  ·cases he
 ·rename_i k kv base n i ti hti;have hi:=hte _ _ hti;split at he
  ·rename_i l hat
   obtain⟨e,hk,hve,hbox⟩:=aH hat
   obtain⟨hlt,g,c,hγ,rfl⟩:=hv.2.get hk hve l hbox;obtain⟨⟨hle,hs1,hag⟩,he⟩:=aa he;obtain⟨cl,hm,he⟩:=ae he;have hb0:=I.box k _ hk;rw[hbox] at hb0;obtain⟨g',vs,U,hγ',hb,ha⟩:=hb0;rw[hγ] at hγ';simp only[ND,NI] at hγ';obtain⟨rfl,rfl⟩:=hγ';obtain⟨u,hu,hr⟩:=sM hm ((ha.drop base).take n) (by simp;omega);have hu':vs.toList[base+i]?=J u:=by
    grind
   have hc:w.cell? ⟨g,base+i,O⟩=J u:=by
    grind [cell_of_row]
   have hcs:∀j u',[u][j]?=J u'->w.cell? ⟨g,base+i+j,O⟩=J u':=λj u' ej=>by
    grind
   obtain⟨val,h1,h2,h3⟩:=o8 hi (ds:=[u]) (by rw[hs1];rfl) hcs (cs:=[cl]) ⟨hr,trivial⟩ (x:=.c cl) (by rw[hag];rfl);exact⟨_,he,val,h2,λw' hw=>by
    simp only[Instr.loadAt,Instr.sureAddr,NR,NZ,NG];exact h3 w' λj u e=>hw.cell (hcs j u e)⟩
  ·cases he
 ·rename_i d t' xs i off ti hti;have hi:=hte _ _ hti;obtain⟨hd,he⟩:=aa he;obtain⟨g,p,x,ds,rfl,hx,ho,hg,hrd,hcell⟩:=hv.2.get hd;obtain⟨hle,he⟩:=aa he;obtain⟨y,hm,he⟩:=ae he;have hlt:i<xs.length:=(NS.1 hx).1;have hxx:x=xs.getD i t'.dflt:=by grind
  subst hxx;exact⟨y,he,qV hi hrd hcell hle hm⟩
 ·cases he
theorem uW{t:Z}{i:TI}(hi:aN P t i){f:X}{fd:X×X×zac}(he:i.fields[f]?=J fd):∃(fs:Array Field) (q:Field),P.underlying t=J (.struct fs)/\fs[f]?=J q/\q.offset=fd.1/\0<fd.2.1 /\
  (∃inf,P.info? q.type=J inf/\inf.size=fd.2.1)/\∃d,P.underlying q.type=J d/\fA d=fd.2.2:=by
 rcases hi.fields with h0|⟨fs,h1,h2⟩;·grind
 ·obtain⟨q,hq,h3,h4,h5,h6⟩:=h2.get he
  grind
theorem mU{t:Z}{i:TI}(hi:aN P t i){f:X}{fd:X×X×zac}(he:i.fields[f]?=J fd)(g o:X)(w':zaa):(Instr.fieldAt t (.pointer (J ⟨g,o,O⟩)) f).run P w'=.ok (.pointer (J ⟨g,o+fd.1,O⟩)) w':=by
 obtain⟨fs,q,h1,h2,h3,h4,⟨inf,h5,h6⟩,_⟩:=uW hi he;have hs:(Go.sizeOf q.type).run P w'=.ok fd.2.1 w':=by simp[Go.sizeOf,typeInfo,h5,h6]
 have hne:¬fd.2.1=0:=by omega
 simp_all [Instr.fieldAt,run_underlying,Instr.sureAddr,fieldPlace,gu]
theorem FU{t:Z}{i:TI}(hi:aN P t i){f:X}{fd:X×X×zac}(he:i.fields[f]?=J fd){cs:Y Cell}{v:G}(hv:aI C γ h w (.agg cs) v)(hle:fd.1+fd.2.1<=cs.length){x:V1}
  (hm:mkV fd.2.2 ((cs.drop fd.1).take fd.2.1)=J x):eH P (Instr.field t v f) C γ h w x:=by
 obtain⟨fs,q,h1,h2,h3,h4,h5,h6⟩:=uW hi he;obtain⟨vs,rfl,ha⟩:=hv;obtain⟨val,_,hr,hall⟩:=Ju h5 h6 ha hle hm w;exact⟨val,hr,λw'=>by simp_all [Instr.field,run_underlying,asAgg]⟩
theorem jU{t e:Z}{n:X}(hu:P.underlying t=J (.slice e))(hs:∀w',(Go.sizeOf e).run P w'=.ok n w')(g o len cap:X)(k:IntKind)(i:Int)(h0:0<=i)(h1:i<len)(w':zaa) :
  (Instr.indexAt t (.slice (J ⟨g,o,O⟩) len cap) (.int k i)).run P w'=.ok (.pointer (J ⟨g,o+i.toNat*n,O⟩)) w':=by
 simp[Instr.indexAt,asIntOf,run_underlying hu,h0,h1,hs,gu]
theorem dQ{k v n:X}{t:Ty}(hr:rowLen h k v=J (t,n)):∃e,h k=J e/\e.ver=v/\e.box.len=J n/\e.box.tsize=t.size:=by
 unfold rowLen at hr;split at hr
 ·rename_i a t' xs hat
  obtain⟨e,hk,hve,hbox⟩:=aH hat
  simp only[ND,NI] at hr;obtain⟨rfl,rfl⟩:=hr;exact⟨e,hk,hve,by rw[hbox];rfl,by rw[hbox];rfl⟩
 ·rename_i t' xs hat
  obtain⟨e,hk,hve,hbox⟩:=aH hat
  simp only[ND,NI] at hr;obtain⟨rfl,rfl⟩:=hr;exact⟨e,hk,hve,by rw[hbox];rfl,by rw[hbox];rfl⟩
 ·cases hr
theorem aT{k v:X}{e:En}(hk:h k=J e)(hv:e.ver=v){p:En->Prop}(hp:p e):Now h k v p:=⟨e,hk,by omega,λ_=>hp⟩
theorem BN{te:Z->W TI}(hte:∀t i,te t=J i->aN P t i){st:St}(I:Inv C γ st.h w){t:Z}{x:V1}{K:V->W R}(he:jq te st t x K=J r){v:G}(hv:aI C γ st.h w x v) :
  ∃y val,K y=J r/\aZ C γ st.h w y val/\∀w',Ext w w'->(Instr.loadAt t v).run P w'=.ok val w':=by
 unfold jq at he;split at he
 ·rename_i k kv f;split at he
  ·rename_i ti l hti hat
   obtain⟨⟨h1,h2,h3⟩,he⟩:=aa he;obtain⟨en,hk,hve,hbox⟩:=aH hat
   obtain⟨b,c,g,j,hγ,hvv,hcl⟩:=hv.2.get hk hve l hbox;have hm:mkV ti.agg [.raw (.func (.func f) #[] #[.pointer (J ⟨b,0,O⟩)])]=J (.c (.raw (.func (.func f) #[] #[.pointer (J ⟨b,0,O⟩)]))):=by rw[h2];rfl
   obtain⟨val,g1,g2,g3⟩:=o8 (C:=C) (γ:=γ) (h:=st.h) (w:=w) (hte _ _ hti) (ds:=[.func (.func f) #[] #[.pointer (J ⟨b,0,O⟩)]]) (g:=g) (off:=j) (by simp[h1]) (λm u e=>by
    cases m with
    |zero=>simp only[Oh,ND] at e;subst e;exact hcl.2.2
    |succ m=>simp at e) (show aj (av C γ st.h w) [.raw _] _ from⟨⟨rfl,rfl⟩,trivial⟩) hm
   refine⟨_,val,he,⟨[.pointer (J ⟨b,0,O⟩)],g2.1.trans (lC h3 _).symm,⟨rfl,aT hk hve λl' hl'=>⟨b,c,hγ,rfl⟩⟩,trivial⟩,λw' hw=>?_⟩;rw[hvv];simp only[Instr.loadAt,Instr.sureAddr,NR,NZ,NG];refine g3 w' λm u e=>hw.cell ?_
   cases m with
   |zero=>simp only[Oh,ND] at e;subst e;exact hcl.2.2
   |succ m=>simp at e
  ·cases he
 ·obtain⟨y,h1,val,h2,h3⟩:=sW hte I he hv;exact⟨.v y,val,h1,h2,h3⟩
theorem uh{te:Z->W TI}(hte:∀t i,te t=J i->aN P t i){st:St}{t:Z}{x i:V1}{K:V1->W R}(he:aQ st (dY te t) (nz te t) (uQ te t) x i K=J r){v vi:G}(hv:aI C γ st.h w x v)(hvi:aI C γ st.h w i vi) :
  ∃y,K y=J r/\eH P (Instr.indexAt t v vi) C γ st.h w y:=by
 unfold aQ at he;split at he
 ·rename_i d t' xs k i;obtain⟨hd,he⟩:=aa he;obtain⟨hes,he⟩:=aa he;obtain⟨hc,he⟩:=aa he;obtain⟨e,ti,h1,h2,h3⟩:=dR hte hes;rw[show vi=_ from hvi];obtain⟨A,c,hA,hle,hx⟩:=hv.2.get hd;have hlt:i.toNat<xs.length:=by omega
  obtain⟨g,o,ds,rfl,ho,hg,hrd,hcell⟩:=hx _ _ (nH t'.dflt hlt);rw[hA];refine⟨_,he,.pointer (J ⟨g,o+i.toNat*t'.size,O⟩),⟨rfl,dN.mk hd ⟨g,o+i.toNat*t'.size,_,ds,rfl,nH t'.dflt hlt,ho,hg,hrd,hcell⟩⟩,λw'=>?_⟩;exact jU h3 (λw'=>by rw[<- h2];exact(hte _ _ h1).sizeOf w') g o _ c k i hc.1 (by omega) w'
 ·rename_i kk kv k i;split at he
  ·rename_i t' n hrl;obtain⟨en,hk,hve,hlen,hts⟩:=dQ hrl;obtain⟨hes,he⟩:=aa he;obtain⟨hc,he⟩:=aa he;obtain⟨e,ti,h1,h2,h3⟩:=dR hte hes;rw[show vi=_ from hvi];have hown:=hv.2.get hk hve n hlen;cases hγ:γ kk with
   |none=>rw[hγ] at hown;have:=hown.1;omega
   |some p=>
    obtain⟨g,c⟩:=p;rw[hγ] at hown;rw[show v=_ from hown];refine⟨_,he,.pointer (J ⟨g,0+i.toNat*t'.size,O⟩),⟨rfl,aT hk hve λn' hn'=>?_⟩,λw'=>?_⟩;·grind
    ·exact jU h3 (λw'=>by rw[<- h2];exact(hte _ _ h1).sizeOf w') g 0 _ c k i hc.1 (by omega) w'
  ·cases he
 ·rename_i kk kv m k i;split at he
  ·rename_i t' n hrl;obtain⟨en,hk,hve,hlen,hts⟩:=dQ hrl;obtain⟨hes,he⟩:=aa he;obtain⟨hc,he⟩:=aa he;obtain⟨e,ti,h1,h2,h3⟩:=dR hte hes;rw[show vi=_ from hvi];obtain⟨hmn,hown⟩:=hv.2.get hk hve n hlen;cases hγ:γ kk with
   |none=>rw[hγ] at hown;have:=hown.1;omega
   |some p=>
    obtain⟨g,c⟩:=p;rw[hγ] at hown;rw[show v=_ from hown];refine⟨_,he,.pointer (J ⟨g,0+i.toNat*t'.size,O⟩),⟨rfl,aT hk hve λn' hn'=>?_⟩,λw'=>?_⟩;·grind
    ·exact jU h3 (λw'=>by rw[<- h2];exact(hte _ _ h1).sizeOf w') g 0 _ c k i hc.1 (by omega) w'
  ·cases he
 ·rename_i kk kv fs k i;obtain⟨hes,he⟩:=aa he;split at he
  ·rename_i l hat
   obtain⟨m,f,hm,hi,he',_⟩:=rq he;obtain⟨e,ti,h1,h2,h3⟩:=dR hte hes;rw[Nat.zero_add] at hi;subst hi;obtain⟨en,hk,hve,hbox⟩:=aH hat
   obtain⟨b,c,g,hγ,hvv,hcl⟩:=hv.2.get hk hve l hbox;rw[show vi=_ from hvi,hvv];have hlt:m<fs.length:=(NS.1 hm).1;refine⟨_,he',.pointer (J ⟨g,0+m*1,O⟩),⟨rfl,aT hk hve λl' hl'=>⟨b,c,g,m,hγ,by simp,hcl m f hm⟩⟩,λw'=>?_⟩;exact jU h3 (λw'=>by rw[<- h2];exact(hte _ _ h1).sizeOf w') g 0 _ _ k m (by omega) (by omega) w'
  ·cases he
 ·rename_i kk kv off k i;split at he
  ·rename_i n l har hat
   obtain⟨hc,he⟩:=aa he;obtain⟨e,hu,hsz,_⟩:=qw hte har;obtain⟨en,hk,hve,hbox⟩:=aH hat
   obtain⟨g,c,hγ,hvv⟩:=hv.2.get hk hve l hbox;rw[show vi=_ from hvi];refine⟨_,he,.pointer (J ⟨g,off+i.toNat,O⟩),⟨rfl,aT hk hve λl' hl'=>⟨by omega,g,c,hγ,rfl⟩⟩,λw'=>?_⟩;rw[hvv];simp[Instr.indexAt,asIntOf,run_underlying hu,Instr.sureAddr,hc.1,hc.2,hsz,gu]
  ·rename_i l har hat
   split at he
   ·rename_i n s hel;obtain⟨m,_,hm,hi,he',_⟩:=pJ he;obtain⟨e,hu,hsz⟩:=zB hte hel;obtain⟨en,hk,hve,hbox⟩:=aH hat
    obtain⟨g,c,hγ,hvv⟩:=hv.2.get hk hve l hbox;rw[show vi=_ from hvi];subst hi;refine⟨_,he',.pointer (J ⟨g,off+m*s,O⟩),⟨rfl,aT hk hve λl' hl'=>⟨g,c,hγ,rfl⟩⟩,λw'=>?_⟩;rw[hvv];have h0:(0:Int)<=(m:Int):=by omega
    have h1:(m:Int)<(n:Int):=by omega
    have h2:¬n<=m:=by omega
    simp[Instr.indexAt,asIntOf,run_underlying hu,Instr.sureAddr,h0,h1,h2,hsz,gu]
   ·cases he
  ·cases he
 ·cases he
theorem zN{te:Z->W TI}(hte:∀t i,te t=J i->aN P t i){t:Z}{x i:V1}{K:V1->W R}(he:ky (isStr te t) (nz te t) x i K=J r){v vi:G}(hv:aI C γ h w x v)(hvi:aI C γ h w i vi) :
  ∃y,K y=J r/\eH P (Instr.index t v vi) C γ h w y:=by
 unfold ky at he;split at he
 ·rename_i s k i;obtain⟨hs,he⟩:=aa he;obtain⟨hc,he⟩:=aa he;rw[show v=_ from hv,show vi=_ from hvi];refine⟨_,he,_,rfl,λw'=>?_⟩;rw[run_index_string (P:=P) w' t (mkS s) k i (mW hte hs),dif_pos (by simpa[pu] using hc)];have:((mkS s)[i.toNat]'(by simp[pu];omega))=s.getD i.toNat 0:=by
   have hlt:i.toNat<s.length:=by omega
   simp[List.getD,hlt];rfl
  rw[this];rfl
 ·rename_i cs k i;split at he
  ·rename_i n har;obtain⟨hl,he⟩:=aa he;obtain⟨hc,he⟩:=aa he;obtain⟨c,hm,he⟩:=ae he;obtain⟨e,hu,hsz,hag⟩:=qw hte har;obtain⟨us,rfl,ha⟩:=hv;obtain⟨u,hu',hr⟩:=sM hm ha (by omega);rw[show vi=_ from hvi];refine⟨_,he,u,hr,λw'=>?_⟩;simp_all [Instr.index,asIntOf,run_underlying,part]
  ·cases he
 ·cases he
theorem Em{te:Z->W TI}(hte:∀t i,te t=J i->aN P t i){st:St}{t ty:Z}{x:V1}{K:X->W R}(he:fD st (isStr te t) (dY te t) x K=J r){v:G}(hv:aI C γ st.h w x v) :
  ∃n,K n=J r/\∀w',(Builtin.len_ #[t] ty #[v]).run P w'=.ok (.int .i64 n) w':=by
 have sl:∀(a:W Addr) (n c:X),(dY te t).isSome=M->∀w',(Builtin.len_ #[t] ty #[.slice a n c]).run P w'=.ok (.int .i64 n) w':=by
  intro a n c hs w';obtain⟨m,hm⟩:=Option.isSome_iff_exists.1 hs;obtain⟨e,ti,h1,h2,h3⟩:=dR hte hm;simp[Builtin.len_,run_underlying h3,goInt]
 unfold fD at he;split at he;·rename_i s;obtain⟨hs,he⟩:=aa he;rw[show v=_ from hv];exact⟨_,he,λw'=>by simp[Builtin.len_,run_underlying (mW hte hs),goInt,pu]⟩
 ·obtain⟨hd,he⟩:=aa he;obtain⟨hs,he⟩:=aa he;obtain⟨A,c,hA,_⟩:=hv.2.get hd
  grind
 ·obtain⟨hs,he⟩:=aa he;rw[show v=_ from hv]
  grind
 ·obtain⟨hd,he⟩:=aa he;obtain⟨hs,he⟩:=aa he;obtain⟨_,A,hA⟩:=hv.2.get hd
  grind
 ·split at he
  ·rename_i l hat
   obtain⟨hs,he⟩:=aa he;obtain⟨en,hk,hve,hbox⟩:=aH hat
   obtain⟨b,c,g,hγ,hvv,hcl⟩:=hv.2.get hk hve l hbox
   grind
  ·cases he
 ·rename_i k kv;split at he
  ·rename_i t' n hrl;obtain⟨en,hk,hve,hlen,hts⟩:=dQ hrl;obtain⟨hs,he⟩:=aa he;have hown:=hv.2.get hk hve n hlen;cases hγ:γ k with
   |none=>rw[hγ] at hown;rw[hown.2];rw[hown.1] at he;grind
   |some p=>rw[hγ] at hown;rw[show v=_ from hown];grind
  ·cases he
 ·rename_i k kv n;split at he
  ·rename_i x hrl;obtain⟨t',m⟩:=x;obtain⟨en,hk,hve,hlen,hts⟩:=dQ hrl;obtain⟨hs,he⟩:=aa he;have hown:=(hv.2.get hk hve m hlen).2;cases hγ:γ k with
   |none=>rw[hγ] at hown;rw[hown.2];rw[hown.1] at he;grind
   |some p=>rw[hγ] at hown;rw[show v=_ from hown];grind
  ·cases he
 ·cases he
theorem RdS.sub{d:Dep}{t:Ty}{xs:Y t.D}{A:W Addr}{n c:X}(hr:RdS C γ h w d t xs (.slice A n c)){l hh m:X}(hl:l<=hh)(hn:hh<=xs.length)(hm:hh<=m) :
  RdS C γ h w d t ((xs.take hh).drop l) (sliced A l hh m t.size):=by
 obtain⟨A',c',hA,hle,hx⟩:=hr;simp only[Value.slice.injEq] at hA;obtain⟨rfl,rfl,rfl⟩:=hA;have hlen:((xs.take hh).drop l).length=hh-l:=by simp;omega
 refine⟨if m=l then A else A.map (·.add (l*t.size)),m-l,by rw[hlen];rfl,by grind,λi x hi=>?_⟩;rw[Ov,Oi] at hi;split at hi
 ·obtain⟨g,o,ds,rfl,ho,hg,hd,hc⟩:=hx _ _ hi;refine⟨g,o+l*t.size,ds,?_,ho,hg,hd,λj v e=>?_⟩
  ·rw[zaf (by omega)];simp[gu]
  grind
 ·cases hi
theorem iA{te:Z->W TI}(hte:∀t i,te t=J i->aN P t i){t:Z}{es:X}(hes:dY te t=J es){lo hi mx:W G}{A:W Addr}{n c l hh m:X}(hb:∀w',(Instr.sliceBounds M n c lo hi mx).run P w'=.ok (l,hh,m) w')(w':zaa) :
  (Instr.sliceAt t (.slice A n c) lo hi mx).run P w'=.ok (sliced A l hh m es) w':=by
 obtain⟨e,ti,h1,h2,h3⟩:=dR hte hes;rw[run_sliceAt_slice w' t _ lo hi mx (Cu h3),run_slice_any w' t A n c (Cu h3),hb w'];simp only[NG,KM h3,(hte _ _ h1).sizeOf w',h2]
theorem vE{k:X}{A:W Addr}{n c m hh es:X}(ho:eX (γ k) n (.slice A n c))(hle:hh<=n)(hm:m=c):eX (γ k) hh (sliced A 0 hh m es):=by
 subst hm;cases hγ:γ k with
 |none=>
  rw[hγ] at ho;obtain⟨h0,hv⟩:=ho;simp only[Value.slice.injEq] at hv;obtain⟨rfl,_,rfl⟩:=hv;have:hh=0:=by omega
  subst this;exact⟨rfl,by simp[sliced]⟩
 |some p=>
  simp_all [eX,sliced,gu]
theorem q9{k n:X}{v:G}(ho:eX (γ k) n v):∃A c,v=.slice A n c:=by
 cases hγ:γ k with
 |none=>rw[hγ] at ho;obtain⟨rfl,rfl⟩:=ho;grind
 |some p=>obtain⟨g,c⟩:=p;rw[hγ] at ho;exact⟨_,c,ho⟩
theorem tT{c:Cell}{rr:(t:Ty)×Y t.D}(hr:rowOf h c=J rr):h.depOk (eB h c)=M:=by
 cases c with
 |sl d t xs=>
  simp only[rowOf] at hr;split at hr;·assumption
  ·cases hr
 |own k v=>
  grind [rowOf,aH,eB,Heap.depOk]
 |ownP k v n=>
  grind [rowOf,aH,eB,Heap.depOk]
 |_=>simp[rowOf] at hr
theorem GN{k v n:X}{t:Ty}{rr:(t:Ty)×Y t.D}(hl:rowLen h k v=J (t,n))(hr:rowOf h (.own k v)=J rr):rr.1=t/\rr.2.length=n:=by
 grind [rowLen,rowOf]
theorem EM{k v n m:X}{t:Ty}{rr:(t:Ty)×Y t.D}(hl:rowLen h k v=J (t,n))(hr:rowOf h (.ownP k v m)=J rr)(hle:m<=n):rr.1=t/\rr.2.length=m:=by
 unfold rowLen at hl;simp only[rowOf] at hr
 grind
theorem rM{te:Z->W TI}(hte:∀t i,te t=J i->aN P t i){st:St}(I:Inv C γ st.h w){t:Z}{x:V1}{lo hi mx:W V1}{K:V1->W R}(he:aU st (isStr te t) (dY te t) x lo hi mx K=J r){v:G}{vl vh vm:W G}
  (hv:aI C γ st.h w x v) (hl:iQ C γ st.h w lo vl) (hh:iQ C γ st.h w hi vh) (hm:iQ C γ st.h w mx vm) :
  ∃y,K y=J r/\eH P (Instr.sliceAt t v vl vh vm) C γ st.h w y:=by
 unfold aU at he;split at he
 ·rename_i s;split at he
  ·cases vm with
   |some _=>exact hm.elim
   |none=>
    obtain⟨hs,he⟩:=aa he;rw[show v=_ from hv];have hu:=mW hte hs;obtain⟨l,e,m,he,hle,hn,_,_,_,_,hb⟩:=dJ (P:=P) (isSlice:=zab) (NL s.length) hl hh (mx:=O) (vm:=O) trivial he;refine⟨_,he,_,rfl,λw'=>?_⟩;have hb:=hb w';rw[run_sliceAt_string w' t _ vl vh O hu];simp only[Instr.slice,NR,run_underlying hu,NG,pu,hb,Option.isSome_none,Bool.false_eq_true,if_false,NZ,BS]
  ·cases he
 ·obtain⟨hes,he⟩:=aa he;obtain⟨es,hes⟩:=Option.isSome_iff_exists.1 hes;rw[show v=_ from hv];obtain⟨l,e,m,he,h1,h2,h3,h4,_,_,hb⟩:=dJ (P:=P) (isSlice:=M) (NL 0) hl hh hm he;have e1:e=0:=by omega
  have e2:l=0:=by omega
  have e3:m=0:=by omega
  subst e1;subst e2;subst e3;exact⟨_,he,_,rfl,λw'=>iA hte hes hb w'⟩
 ·rename_i k kv;split at he
  ·rename_i t' n hrl;obtain⟨en,hk,hve,hlen,hts⟩:=dQ hrl;obtain⟨hes,he⟩:=aa he;have hown:=hv.2.get hk hve n hlen;obtain⟨A,c,rfl⟩:=q9 hown;have hat:∃rr,rowOf st.h (.own k kv)=J rr:=by
    unfold rowLen at hrl;simp only[rowOf];split at hrl;·simp_all
    ·simp_all
    ·cases hrl
   obtain⟨rr,hrr⟩:=hat
   have hrow:=jP I hrr hv;obtain⟨hrt,hrlen⟩:=GN hrl hrr;obtain⟨A',c',hA',hle,hx'⟩:=hrow;have hrow:RdS C γ st.h w (eB st.h (.own k kv)) rr.1 rr.2 (.slice A n c):=⟨A',c',hA',hle,hx'⟩
   simp only[Value.slice.injEq] at hA';obtain⟨rfl,_,rfl⟩:=hA';rw[hrlen] at hle;split at he
   ·cases vl with
    |some _=>exact hl.elim
    |none=>cases vm with
     |some _=>exact hm.elim
     |none=>
      obtain⟨l,e,m,he,h1,h2,h3,h4,h5,h6,hb⟩:=dJ (P:=P) (isSlice:=M) hle (lo:=O) (vl:=O) trivial hh (mx:=O) (vm:=O) trivial he;have h6:=h6 rfl;subst h6;refine⟨_,he,sliced A 0 e m t'.size,⟨rfl,aT hk hve λn' hn'=>?_⟩,λw'=>iA hte hes hb w'⟩;rw[hlen] at hn';simp only[ND] at hn';subst hn';exact⟨h2,vE hown h2 (h5 rfl)⟩
   ·obtain⟨rr',hrr',he⟩:=ae he;rw[hrr] at hrr';simp only[ND] at hrr';subst hrr';obtain⟨l,e,m,he,h1,h2,h3,h4,h5,h6,hb⟩:=dJ (P:=P) (isSlice:=M) hle hl hh hm he;have hsub:=hrow.sub (l:=l) (hh:=e) (m:=m) h1 (by omega) h3;refine⟨_,he,sliced A l e m t'.size,⟨rfl,dN.mk (tT hrr) ?_⟩,λw'=>iA hte hes hb w'⟩
    grind
  ·cases he
 ·rename_i k kv q;split at he
  ·rename_i t' n hrl;obtain⟨en,hk,hve,hlen,hts⟩:=dQ hrl;obtain⟨hes,he⟩:=aa he;obtain⟨hqn,hown⟩:=hv.2.get hk hve n hlen;obtain⟨A,c,rfl⟩:=q9 hown;have hat:∃rr,rowOf st.h (.ownP k kv q)=J rr:=by
    unfold rowLen at hrl;simp only[rowOf];split at hrl;·simp_all
    ·simp_all
    ·cases hrl
   obtain⟨rr,hrr⟩:=hat
   have hrow:=jP I hrr hv;obtain⟨hrt,hrlen⟩:=EM hrl hrr hqn;obtain⟨A',c',hA',hle,hx'⟩:=hrow;have hrow:RdS C γ st.h w (eB st.h (.ownP k kv q)) rr.1 rr.2 (.slice A q c):=⟨A',c',hA',hle,hx'⟩
   simp only[Value.slice.injEq] at hA';obtain⟨rfl,_,rfl⟩:=hA';rw[hrlen] at hle;split at he
   ·cases vl with
    |some _=>exact hl.elim
    |none=>cases vm with
     |some _=>exact hm.elim
     |none=>
      obtain⟨l,e,m,he,h1,h2,h3,h4,h5,h6,hb⟩:=dJ (P:=P) (isSlice:=M) hle (lo:=O) (vl:=O) trivial hh (mx:=O) (vm:=O) trivial he;have h6:=h6 rfl;subst h6;refine⟨_,he,sliced A 0 e m t'.size,⟨rfl,aT hk hve λn' hn'=>?_⟩,λw'=>iA hte hes hb w'⟩;rw[hlen] at hn';simp only[ND] at hn';subst hn';exact⟨by omega,vE hown h2 (h5 rfl)⟩
   ·obtain⟨rr',hrr',he⟩:=ae he;rw[hrr] at hrr';simp only[ND] at hrr';subst hrr';obtain⟨l,e,m,he,h1,h2,h3,h4,h5,h6,hb⟩:=dJ (P:=P) (isSlice:=M) hle hl hh hm he;have hsub:=hrow.sub (l:=l) (hh:=e) (m:=m) h1 (by omega) h3;refine⟨_,he,sliced A l e m t'.size,⟨rfl,dN.mk (tT hrr) ?_⟩,λw'=>iA hte hes hb w'⟩
    grind
  ·cases he
 ·rename_i d t' xs;obtain⟨hd,he⟩:=aa he;obtain⟨hes,he⟩:=aa he;have hv':=hv.2.get hd;obtain⟨A,c,hA,hle,hx⟩:=hv';have hv':RdS C γ st.h w d t' xs v:=⟨A,c,hA,hle,hx⟩
  subst hA;obtain⟨l,e,m,he,h1,h2,h3,h4,_,_,hb⟩:=dJ (P:=P) (isSlice:=M) hle hl hh hm he;exact⟨_,he,sliced A l e m t'.size,⟨rfl,dN.mk hd (hv'.sub h1 h2 h3)⟩,λw'=>iA hte hes hb w'⟩
 ·cases he
theorem Bd{te:Z->W TI}(hte:∀t i,te t=J i->aN P t i){st:St}(I:Inv C γ st.h w){t:Z}{x:V1}{lo hi mx:W V1}{K:V1->W R}(he:gD st (isStr te t) (dY te t) x lo hi mx K=J r){v:G}{vl vh vm:W G}
  (hv:aI C γ st.h w x v) (hl:iQ C γ st.h w lo vl) (hh:iQ C γ st.h w hi vh) (hm:iQ C γ st.h w mx vm) :
  ∃y,K y=J r/\eH P (Instr.sliceAt t v vl vh vm) C γ st.h w y:=by
 unfold gD at he;split at he
 ·rename_i c ka a kb b;split at he
  ·rename_i rr hrr;obtain⟨⟨hes,rfl,rfl⟩,he'⟩:=aa he;cases vl with
   |some _=>exact hl.elim
   |none=>cases vh with
    |none=>exact hh.elim
    |some vh=>cases vm with
     |none=>exact hm.elim
     |some vm=>
      have h1:vh=.int ka (rr.2.length:Int):=hh;have h2:vm=.int kb (rr.2.length:Int):=hm;subst h1;subst h2;have hrow:=jP I hrr hv;obtain⟨A,cc,hA,hle,hx⟩:=hrow;have hrow:RdS C γ st.h w (eB st.h c) rr.1 rr.2 v:=⟨A,cc,hA,hle,hx⟩
      subst hA;have hb:∀w',(Instr.sliceBounds M rr.2.length cc O (J (.int ka (rr.2.length:Int))) (J (.int kb (rr.2.length:Int)))).run P w'=.ok (0,rr.2.length,rr.2.length) w':=λw'=>by
       simp_all [Instr.sliceBounds,run_sliceBound]
      have hs:=hrow.sub (l:=0) (hh:=rr.2.length) (m:=rr.2.length) (by omega) (by omega) (by omega);rw[List.take_length,Om] at hs;refine⟨_,he',sliced A 0 rr.2.length rr.2.length rr.1.size,⟨rfl,dN.mk (tT hrr) ⟨hs,_,rfl⟩⟩,λw'=>iA hte hes hb w'⟩
  ·exact rM hte I he hv hl hh hm
 ·exact rM hte I he hv hl hh hm
end
end Rv
namespace Rv
open Go
section
variable{P:Program}{C:Ctx}{γ:Gam}{h:Heap}{w:zaa}{R:Type}{r:R}
theorem wW:∀(l:Y G) (i off:X) (cs:Array G),off+i+l.length<=cs.size ->
  ((l.zipIdx i).foldl (λ(cs:Array G) (p:G×X)=>cs.setIfInBounds (off+p.2) p.1) cs).toList=cs.toList.take (off+i)++l++cs.toList.drop (off+i+l.length)
 |[],i,off,cs,_=>by simp
 |v::l,i,off,cs,hle=>by
  simp only[N7] at hle;simp only[List.zipIdx_cons,Oq];rw[wW l (i+1) off _ (by simp;omega)];have hi:off+i<cs.toList.length:=by simp;omega
  simp only[Array.toList_setIfInBounds,N7];rw[show off+(i+1)=off+i+1 by omega,List.take_succ_eq_append_getElem (by simpa using hi),List.drop_set,zae (by omega),show off+i+1+l.length=off+i+(l.length+1) by omega];simp[List.take_set_of_le]
theorem oP{place:X->W (X×X)}{R':Cell->G->Prop}:∀{ps:Y (X×V1)}{qs:Y (X×G)}{cs cs':Y Cell}{vs:Array G},
  fJ place cs ps=J cs'->aj R' cs vs.toList->aj (λ(p:X×V1) (q:X×G)=>p.1=q.1/\aj R' p.2.cells q.2.cells.toList) ps qs ->
  ∃vs':Array G,Instr.fill place vs qs=J vs'/\aj R' cs' vs'.toList/\vs'.size=vs.size
 |[],[],cs,cs',vs,he,ha,_=>by
  simp only[fJ,ND] at he;subst he;exact⟨vs,rfl,ha,rfl⟩
 |(i,x)::ps,(j,v)::qs,cs,cs',vs,he,ha,hp=>by
  obtain⟨⟨hij,hc⟩,hp⟩:=hp;simp only at hij;subst hij;simp only[fJ] at he;split at he;·cases he
  ·rename_i off size hpl;obtain⟨⟨h1,h2⟩,he⟩:=aa he;have hl:=ha.length;have hlc:=hc.length;have hsz:v.cells.size=size:=by simp at hlc;omega
   have hle:off+v.cells.size<=vs.size:=by simp at hl;omega
   have hset:(v.cells.zipIdx.foldl (λ(cs:Array G) (p:G×X)=>cs.setIfInBounds (off+p.2) p.1) vs).toList=vs.toList.take off++v.cells.toList++vs.toList.drop (off+size):=by
    rw[<- Array.foldl_toList,Array.toList_zipIdx];have:=wW v.cells.toList 0 off vs (by simpa using hle);simpa[hsz] using this
   have ha':aj R' (cs.take off++x.cells++cs.drop (off+size)) (v.cells.zipIdx.foldl (λ(cs:Array G) (p:G×X)=>cs.setIfInBounds (off+p.2) p.1) vs).toList:=by
    rw[hset];exact((ha.take off).append hc).append (ha.drop (off+size))
   obtain⟨vs',h3,h4,h5⟩:=oP he ha' hp;refine⟨vs',?_,h4,?_⟩;·simp only[Instr.fill,hpl];rw[zaf (by simp;omega)];exact h3
   ·rw[h5,<- Array.length_toList,hset];simp;omega
 |[],_::_,_,_,_,_,_,hp=>hp.elim
 |_::_,[],_,_,_,_,_,hp=>hp.elim
theorem ru{c:Cell}{v:G}(hp:c.plain=J v):av C γ h w c v:=by
 unfold Cell.plain at hp;split at hp<;>first|(cases hp;done)|(simp only[ND] at hp;subst hp;first|rfl|exact⟨rfl,rfl⟩)
theorem lX{t:Z}{i:TI}(hi:aN P t i):∃z,(∀w',(zeroValue t).run P w'=.ok z w')/\z.cells.size=i.size/\aj (av C γ h w) i.zero z.cells.toList:=by
 obtain⟨inf,h1,h2,h3,z,h4,h5,h6⟩:=hi.info;exact⟨z,λw'=>by simp[zeroValue,typeInfo,h1,h4],h5,h6.mono λ_ _ hp=>ru hp⟩
theorem sZ:∀(l:Y Field) (m:Y (X×X×zac)),aj (λ(f:X×X×zac) (fd:Field)=>fd.offset=f.1/\0<f.2.1/\(∃inf,P.info? fd.type=J inf/\inf.size=f.2.1) /\
  ∃d,P.underlying fd.type=J d/\fA d=f.2.2) m l->∀w',(l.mapM (λ(f:Field)=>do pure (f.offset,<- Go.sizeOf f.type):Field->Sem (X×X))).run P w'=.ok (m.map λf=>(f.1,f.2.1)) w'
 |[],[],_,w'=>by simp
 |f::l,x::m,⟨⟨h1,h2,⟨inf,h3,h4⟩,_⟩,hr⟩,w'=>by
  have ih:=sZ l m hr w';have hs:(Go.sizeOf f.type).run P w'=.ok x.2.1 w':=by simp[Go.sizeOf,typeInfo,h3,h4]
  simp only[List.mapM_cons,NR,hs,NG,NZ,ih,h1,NY]
 |[],_::_,hh,_=>hh.elim
 |_::_,[],hh,_=>hh.elim
theorem ja{st:St}{a:Act}(R':Rel C γ w st a.tmps):∀{l:Y (X×Operand)}{ps:Y (X×V1)},partsOf st l=J ps ->
  aj (λ(p:X×V1) (q:X×G)=>p.1=q.1/\aj (av C γ st.h w) p.2.cells q.2.cells.toList) ps (l.map λ(p:X×Operand)=>(p.1,a.eval p.2))
 |[],ps,he=>by simp only[partsOf,ND] at he;subst he;trivial
 |(i,x)::l,ps,he=>by
  simp only[partsOf] at he;split at he
  ·rename_i v hv;split at he
   ·rename_i l' hl;simp only[ND] at he;subst he;have:=R'.opd hv;exact⟨⟨rfl,this.1.cells⟩,ja R' hl⟩
   ·cases he
  ·cases he
theorem BF{st:St}{a:Act}(R':Rel C γ w st a.tmps){t:Z}{i:TI}(hi:aN P t i)(hne:i.fields≠[]){parts:Array (X×Operand)}{ps:Y (X×V1)}(hp:partsOf st parts.toList=J ps){cs:Y Cell}
  (hf:fJ (λj=>i.fields[j]?.map λf=>(f.1,f.2.1)) i.zero ps=J cs):eH P (Instr.build t (parts.map λ(p:X×Operand)=>(p.1,a.eval p.2))) C γ st.h w (.agg cs):=by
 obtain⟨z,hz,hzs,hza⟩:=lX (C:=C) (γ:=γ) (h:=st.h) (w:=w) hi;rcases hi.fields with h0|⟨fs,h1,h2⟩;·exact absurd h0 hne
 ·obtain⟨vs',h3,h4,h5⟩:=oP hf hza (ja R' hp);refine⟨.agg vs',⟨vs'.toList,by simp,h4⟩,λw'=>?_⟩;have hm:=sZ fs.toList i.fields h2 w';have hpl:(fs.mapM (λ(f:Field)=>do pure (f.offset,<- Go.sizeOf f.type):Field->Sem (X×X))).run P w'=.ok (i.fields.map λ(f:X×X×zac)=>(f.1,f.2.1)).toArray w':=by
   rw[Array.mapM_eq_mapM_toList,Sem.run_map,hm];rfl
  have h3':Instr.fill (λj=>(i.fields.map λ(f:X×X×zac)=>(f.1,f.2.1)).toArray[j]?) z.cells (parts.map λ(p:X×Operand)=>(p.1,a.eval p.2)).toList=J vs':=by
   rw[Array.toList_map];have:(λ(j:X)=>(i.fields.map λ(f:X×X×zac)=>(f.1,f.2.1)).toArray[j]?)=(λ(j:X)=>i.fields[j]?.map λ(f:X×X×zac)=>(f.1,f.2.1)):=by funext j;simp
   rw[this];exact h3
  simp only[Instr.build,NR,hz,NG,run_underlying h1,hpl,h3',NZ]
theorem zn{st:St}{a:Act}(R':Rel C γ w st a.tmps){t:Z}{i:TI}(hi:aN P t i){n:X}(har:i.arr=J n){parts:Array (X×Operand)}{ps:Y (X×V1)}(hp:partsOf st parts.toList=J ps){cs:Y Cell}
  (hf:fJ (λj=>J (j*(i.size / n),i.size / n)) i.zero ps=J cs):eH P (Instr.build t (parts.map λ(p:X×Operand)=>(p.1,a.eval p.2))) C γ st.h w (.agg cs):=by
 obtain⟨z,hz,hzs,hza⟩:=lX (C:=C) (γ:=γ) (h:=st.h) (w:=w) hi;obtain⟨_,e,hu,hsz,_⟩:=hi.arr n har;obtain⟨vs',h3,h4,h5⟩:=oP hf hza (ja R' hp);refine⟨.agg vs',⟨vs'.toList,by simp,h4⟩,λw'=>?_⟩;have h3':Instr.fill (λj=>J (j*(i.size / n),i.size / n)) z.cells (parts.map λ(p:X×Operand)=>(p.1,a.eval p.2)).toList=J vs':=by
  rw[Array.toList_map];exact h3
 simp only[Instr.build,NR,hz,NG,run_underlying hu,hsz,h3',NZ]
theorem Ew{h:Heap}{v:V}(hn:kz h v=M){u:G}(hv:aZ C γ h w v u)(hI:Inv C γ h w):(∃q,u=.pointer (J q))\/∃f b c,u=.func (.func f) b c:=by
 unfold kz at hn;split at hn
 ·rename_i k kv off;split at hn
  ·rename_i l hat
   obtain⟨e,hk,hve,hbox⟩:=aH hat
   have hv:av C γ h w (.ptr k kv off) u:=hv;obtain⟨g,c,_,rfl⟩:=hv.2.get hk hve l hbox;exact .inl ⟨_,rfl⟩
  ·cases hn
 ·rename_i k kv i off;have hv:av C γ h w (.elt k kv i off) u:=hv;cases hr:rowLen h k kv with
  |none=>rw[hr] at hn;cases hn
  |some x=>
   obtain⟨t',n⟩:=x;obtain⟨en,hk,hve,hlen,hts⟩:=dQ hr;obtain⟨_,g,c,_,rfl⟩:=hv.2.get hk hve n hlen;exact .inl ⟨_,rfl⟩
 ·rename_i d t' xs i off;have hv:av C γ h w (.slp d t' xs i off) u:=hv;obtain⟨g,p,x,ds,rfl,_⟩:=hv.2.get hn;exact .inl ⟨_,rfl⟩
 ·rename_i f cs;obtain⟨vs,rfl,_⟩:=hv;refine .inr ?_;unfold kL;split
  ·exact⟨_,_,_,rfl⟩
  ·exact⟨_,_,_,rfl⟩
 ·cases hn
theorem lL{st:St}{a:Act}(R':Rel C γ w st a.tmps){x:W Operand}{v:W V1}(he:jw st x=J v):iQ C γ st.h w v (x.map a.eval):=by
 cases x with
 |none=>simp only[jw,ND] at he;subst he;trivial
 |some x=>
  simp only[jw] at he;split at he;·rename_i v' hv;simp only[ND] at he;subst he;exact(R'.opd hv).1
  ·cases he
theorem jv{st:St}{a:Act}(R':Rel C γ w st a.tmps):∀{l:Y Operand}{vs:Y V1},gM st l=J vs->aj (λx v=>aI C γ st.h w x v/\x≠.c .dead) vs (l.map a.eval)
 |[],vs,he=>by simp only[gM,ND] at he;subst he;trivial
 |x::l,vs,he=>by
  simp only[gM] at he;split at he
  ·rename_i v hv;split at he
   ·rename_i l' hl;simp only[ND] at he;subst he;exact⟨R'.opd hv,jv R' hl⟩
   ·cases he
  ·cases he
theorem qd{k:IntKind}:∀{vs:Y V1}{l:Y G}{acc n:Int},iB mn k acc vs=J n->aj (λx v=>aI C γ h w x v/\x≠.c .dead) vs l->∀w',(l.foldlM Builtin.min2 (.int k acc)).run P w'=.ok (.int k n) w'
 |[],[],acc,n,he,_,w'=>by simp only[iB,ND] at he;subst he;rfl
 | .c (.int k' m)::vs,v::l,acc,n,he,⟨⟨hv,_⟩,ha⟩,w'=>by
  simp only[iB] at he;obtain⟨hk,he2⟩:=aa he;subst hk;rw[show v=_ from hv];simp only[List.foldlM_cons,NR,Builtin.min2,NZ,NG];exact qd he2 ha w'
theorem qc{k:IntKind}:∀{vs:Y V1}{l:Y G}{acc n:Int},iB mx k acc vs=J n->aj (λx v=>aI C γ h w x v/\x≠.c .dead) vs l->∀w',(l.foldlM Builtin.max2 (.int k acc)).run P w'=.ok (.int k n) w'
 |[],[],acc,n,he,_,w'=>by simp only[iB,ND] at he;subst he;rfl
 | .c (.int k' m)::vs,v::l,acc,n,he,⟨⟨hv,_⟩,ha⟩,w'=>by
  simp only[iB] at he;obtain⟨hk,he2⟩:=aa he;subst hk;rw[show v=_ from hv];simp only[List.foldlM_cons,NR,Builtin.max2,NZ,NG];exact qc he2 ha w'
theorem jF:∀{vs:Y V1}{cs:Y Cell}{us:Y G},jE vs=J cs->aj (λx v=>aI C γ h w x v/\x≠.c .dead) vs us->aj (av C γ h w) cs us
 |[],cs,[],he,_=>by
  simp only[jE,ND] at he;subst he;trivial
 | .c x::vs,cs,u::us,he,ha=>by
  simp only[jE] at he;split at he;·rename_i l hl;simp only[ND] at he;subst he;exact⟨ha.1.1,jF hl ha.2⟩
  ·cases he
 | .agg _::_,_,_,he,_=>by cases he
 |[],_,_::_,_,ha=>ha.elim
 | .c _::_,_,[],_,ha=>ha.elim
theorem iG{st:St}{a:Act}(R':Rel C γ w st a.tmps){x:Operand}{v:V}(hv:opdV st x=J v):aZ C γ st.h w v (a.eval x):=by
 cases x with
 |tmp t=>
  simp only[opdV] at hv;split at hv;·rename_i vs hs;simp only[ND] at hv;subst hv;exact R'.slot t _ hs
  ·rename_i f cs hs;simp only[ND] at hv;subst hv;exact R'.slot t _ hs
  ·cases hv
  ·rename_i y _ hs;simp only[ND] at hv;subst hv;exact R'.slot t _ hs
  ·cases hv
 |const c=>
  simp only[opdV] at hv;split at hv;·rename_i y hy;simp only[ND] at hv;subst hv;exact(R'.opd hy).1
  ·cases hv
 |func f=>
  simp only[opdV] at hv;split at hv;·rename_i y hy;simp only[ND] at hv;subst hv;exact(R'.opd hy).1
  ·cases hv
 |global g=>
  simp only[opdV] at hv;split at hv;·rename_i y hy;simp only[ND] at hv;subst hv;exact(R'.opd hy).1
  ·cases hv
theorem Jg{st:St}{a:Act}(R':Rel C γ w st a.tmps){x:Operand}{v:V}(hv:(match x with | .tmp s=>st.s[s]? | x=>(opd st x).map .v)=J v):aZ C γ st.h w v (a.eval x):=by
 cases x with
 |tmp t=>exact R'.slot t _ hv
 |const c=>
  simp only[Option.map_eq_some_iff] at hv;obtain⟨y,hy,rfl⟩:=hv;exact(R'.opd hy).1
 |func f=>
  simp only[Option.map_eq_some_iff] at hv;obtain⟨y,hy,rfl⟩:=hv;exact(R'.opd hy).1
 |global g=>
  simp only[Option.map_eq_some_iff] at hv;obtain⟨y,hy,rfl⟩:=hv;exact(R'.opd hy).1
theorem Lb{t:Z}{i:TI}(hi:aN P t i)(h:i.iface=zab)(v:G)(w':zaa):(Instr.makeInterface t v).run P w'=.ok (.iface t v) w':=by
 obtain⟨d,hd,_⟩:=hi.desc;have hn:=hi.notIface h;simp only[Instr.makeInterface,NR,run_underlying hd,NG];cases d<;>first|rfl|exact absurd hd (hn _)
theorem HV{te:Z->W TI}(hte:∀t i,te t=J i->aN P t i){st:St}{a:Act}(R':Rel C γ w st a.tmps){o:Oper}{K:V->W R}(he:vop te st o.op K=J r) :
  ∃y val,K y=J r/\aZ C γ st.h w y val/\∀w',Ext w w'->(execOp a.eval o).run P w'=.ok (.value val) w':=by
 have fin:∀{s:Sem G},(∃y,one K y=J r/\uI P s C γ st.h w y)->execOp a.eval o=(do pure (.value (<- s)))->∃y val,K y=J r/\aZ C γ st.h w y val/\∀w',Ext w w'->(execOp a.eval o).run P w'=.ok (.value val) w':=by
  rintro s ⟨y,hk,val,hr,hrun⟩ hs;exact⟨.v y,val,hk,hr,λw' hw=>by rw[hs,NR,hrun w' hw,NG,NZ]⟩
 have finF:∀{s:Sem G},(∃y,one K y=J r/\eH P s C γ st.h w y)->execOp a.eval o=(do pure (.value (<- s)))->∃y val,K y=J r/\aZ C γ st.h w y val/\∀w',Ext w w'->(execOp a.eval o).run P w'=.ok (.value val) w':=by
  rintro s ⟨y,hk,hf⟩ hs;exact fin ⟨y,hk,hf.ext⟩ hs
 unfold vop at he;split at he;·rename_i x ho;obtain⟨v,hv,he⟩:=ae he;exact⟨v,_,he,iG R' hv,λw' _=>by simp[execOp,ho]⟩
 ·rename_i x ho;obtain⟨v,hv,he⟩:=ae he;exact⟨v,_,he,iG R' hv,λw' _=>by simp[execOp,ho]⟩
 ·rename_i c x y ho;split at he
  ·rename_i b hb;have hbv:a.eval c=.bool b:=(R'.opd hb).1;split at he
   ·rename_i ht;subst ht;obtain⟨v,hv,he⟩:=ae he;exact⟨.v v,_,he,(R'.opd hv).1,λw' _=>by simp[execOp,ho,hbv,asBool]⟩
   ·rename_i ht;have ht:b=zab:=by simpa using ht
    subst ht;obtain⟨v,hv,he⟩:=ae he;exact⟨.v v,_,he,(R'.opd hv).1,λw' _=>by simp[execOp,ho,hbv,asBool]⟩
  ·cases he
 ·rename_i t parts ho;split at he
  ·rename_i ti ps hti hps;split at he
   ·rename_i n har;obtain⟨cs,hf,he⟩:=ae he;exact finF ⟨_,he,zn R' (hte _ _ hti) har hps hf⟩ (by simp[execOp,ho])
   split at he;·cases he
   ·rename_i hne;obtain⟨cs,hf,he⟩:=ae he;exact finF ⟨_,he,BF R' (hte _ _ hti) (by simpa using hne) hps hf⟩ (by simp[execOp,ho])
  ·cases he
 ·rename_i t x ho;obtain⟨v,hv,he⟩:=ae he;obtain⟨y,val,h1,h2,h3⟩:=BN (P:=P) hte R'.inv he (R'.opd hv).1;exact⟨y,val,h1,h2,λw' hw=>by simp[execOp,ho,h3 w' hw]⟩
 ·rename_i t x f ho;have fg:∀{fd:X×X×zac},(te t).bind (·.fields[f]?)=J fd->∃i,aN P t i/\i.fields[f]?=J fd:=by
   intro fd hh;cases ht:te t with
   |none=>rw[ht] at hh;simp at hh
   |some i=>rw[ht] at hh;exact⟨i,hte _ _ ht,hh⟩
  split at he
  ·rename_i k kv off fd hx hfd;split at he
   ·rename_i l hat
    obtain⟨i,hi,hfd⟩:=fg hfd;obtain⟨e,hk,hve,hbox⟩:=aH hat
    obtain⟨g,c,h2,h3⟩:=(R'.opd hx).1.2.get hk hve l hbox;refine finF (s:=Instr.fieldAt t (a.eval x) f) ⟨_,he,.pointer (J ⟨g,off+fd.1,O⟩),⟨rfl,aT hk hve λl' hl'=>⟨g,c,h2,rfl⟩⟩,λw'=>?_⟩ (by simp[execOp,ho]);rw[h3];exact mU hi hfd g off w'
   ·cases he
  ·rename_i k kv i' off fd hx hfd;split at he
   ·rename_i x' hrl;obtain⟨t',n⟩:=x';obtain⟨i,hi,hfd⟩:=fg hfd;obtain⟨en,hk,hve,hlen,hts⟩:=dQ hrl;obtain⟨h2,g,c,h3,h4⟩:=(R'.opd hx).1.2.get hk hve n hlen;refine finF (s:=Instr.fieldAt t (a.eval x) f) ⟨_,he,.pointer (J ⟨g,i'*en.box.tsize+(off+fd.1),O⟩),⟨rfl,aT hk hve λn' hn'=>?_⟩,λw'=>?_⟩ (by simp[execOp,ho])
    ·rw[hlen] at hn';simp only[ND] at hn';subst hn';exact⟨h2,g,c,h3,rfl⟩
    ·rw[h4,<- OE];exact mU hi hfd g _ w'
   ·cases he
  ·rename_i d t' xs i' off fd hx hfd;obtain⟨hd,he⟩:=aa he;obtain⟨i,hi,hfd⟩:=fg hfd;obtain⟨g,p,x',ds,h1,h2⟩:=(R'.opd hx).1.2.get hd;refine finF (s:=Instr.fieldAt t (a.eval x) f) ⟨_,he,.pointer (J ⟨g,p+(off+fd.1),O⟩),⟨rfl,dN.mk hd ⟨g,p,x',ds,rfl,h2⟩⟩,λw'=>?_⟩ (by simp[execOp,ho]);rw[h1,<- OE];exact mU hi hfd g _ w'
  ·cases he
 ·rename_i t x f ho;split at he
  ·rename_i cs fd hx hfd;obtain⟨hle,he⟩:=aa he;obtain⟨y,hm,he⟩:=ae he;cases ht:te t with
   |none=>rw[ht] at hfd;simp at hfd
   |some i=>
    rw[ht] at hfd;exact finF ⟨y,he,FU (hte _ _ ht) hfd (R'.opd hx).1 hle hm⟩ (by simp[execOp,ho])
  ·cases he
 ·rename_i t x i ho;obtain⟨v,hv,he⟩:=ae he;obtain⟨vi,hvi,he⟩:=ae he;exact finF (uh hte he (R'.opd hv).1 (R'.opd hvi).1) (by simp[execOp,ho])
 ·rename_i t x i ho;obtain⟨v,hv,he⟩:=ae he;obtain⟨vi,hvi,he⟩:=ae he;exact finF (zN hte he (R'.opd hv).1 (R'.opd hvi).1) (by simp[execOp,ho])
 ·rename_i t x lo hi mx ho;obtain⟨v,hv,he⟩:=ae he;obtain⟨vl,hvl,he⟩:=ae he;obtain⟨vh,hvh,he⟩:=ae he;obtain⟨vm,hvm,he⟩:=ae he;exact finF (Bd hte R'.inv he (R'.opd hv).1 (lL R' hvl) (lL R' hvh) (lL R' hvm)) (by simp[execOp,ho])
 ·rename_i op t x y yt ho;obtain⟨v,hv,he⟩:=ae he;obtain⟨v',hv',he⟩:=ae he;exact finF (DR (x:=x) (y:=y) hte he (R'.opd hv).1 (R'.opd hv').1) (by simp[execOp,ho])
 ·rename_i op t x ho;obtain⟨v,hv,he⟩:=ae he;exact finF (Ht he (R'.opd hv).1) (by simp[execOp,ho])
 ·rename_i src dst x ho;split at he
  ·rename_i k n ti hx hti;split at he
   ·rename_i k' hk;have hi:=hte _ _ hti;have hv:a.eval x=.int k n:=(R'.opd hx).1;split at he
    ·rename_i hs;obtain⟨d,hd,hs⟩:∃d,P.underlying src=J d/\True:=by
      cases hts:te src with
      |none=>rw[hts] at hs;simp at hs
      |some i=>obtain⟨d,h1,_⟩:=(hte _ _ hts).desc;exact⟨d,h1,trivial⟩
     refine finF (s:=convert src dst (a.eval x)) ⟨_,he,.int k' (k'.wrap n),rfl,λw'=>?_⟩ (by simp[execOp,ho]);rw[hv];simp only[convert,NR,run_underlying hd,run_underlying (hi.int _ hk),NG,Conv.intToInt,NZ]
    ·cases he
   ·cases he
  ·cases he
 ·rename_i t x ho;split at he
  ·rename_i ti hti;split at he
   ·cases he
   ·rename_i hni;have hni':ti.iface=zab:=by simpa using hni
    have hx:execOp a.eval o=(do pure (.value (<- Instr.makeInterface t (a.eval x)))):=by simp[execOp,ho]
    have fi:∀{y:V1},K (.v y)=J r->aI C γ st.h w y (.iface t (a.eval x))->∃y val,K y=J r/\aZ C γ st.h w y val/\∀w',Ext w w'->(execOp a.eval o).run P w'=.ok (.value val) w':=λ{y} hk hr=>
     ⟨.v y,_,hk,hr,λw' _=>by rw[hx,NR,Lb (hte _ _ hti) hni',NG,NZ]⟩
    split at he;·rename_i k n hs;exact fi he (show _=_ by rw[show a.eval x=.int k n from Jg R' hs])
    ·exact fi he ⟨rfl,λh=>(by cases h),λ_=>⟨_,_,rfl⟩⟩
    ·cases he
  ·cases he
 ·rename_i f first captured ho
  obtain⟨hlt,he⟩:=aa he;split at he
  ·rename_i hf;obtain⟨vs,hvs,he2⟩:=ae he;obtain⟨cs,hcs,he3⟩:=ae he2;have hf':first=#[]:=by simpa using hf
   subst hf';refine⟨.clo f cs,.func (.func f) #[] (captured.map a.eval),he3,⟨captured.toList.map a.eval,by rw[lC hlt,<- Array.toList_map],jF hcs (jv R' hvs)⟩,λw' _=>by simp[execOp,ho,Instr.makeFunc]⟩
  ·obtain⟨hf,he⟩:=aa he;obtain⟨vs,hvs,he2⟩:=ae he;obtain⟨cs,hcs,he3⟩:=ae he2;have hf':captured=#[]:=by simpa using hf
   subst hf';refine⟨.clo (f+fe) cs,.func (.func f) (first.map a.eval) #[],he3,⟨first.toList.map a.eval,by rw[FR,<- Array.toList_map],jF hcs (jv R' hvs)⟩,λw' _=>by simp[execOp,ho,Instr.makeFunc]⟩
 ·rename_i x ho;obtain⟨v,hv,he⟩:=ae he;obtain⟨hn,he⟩:=aa he;have hr:=iG R' hv;refine⟨v,a.eval x,he,hr,λw' _=>?_⟩;rcases Ew hn hr R'.inv with⟨q,hq⟩|⟨f,b,c,hq⟩
  ·simp[execOp,ho,hq]
  ·simp[execOp,ho,hq]
 ·rename_i x i ho;split at he
  ·rename_i t;split at he
   ·rename_i vs hvs;obtain⟨v,hv,he⟩:=ae he;obtain⟨us,hu,ha⟩:=R'.slot t _ hvs;obtain⟨u,hui,hr⟩:=ha.get hv;refine finF (s:=Instr.extract (a.eval (.tmp t)) i) ⟨v,he,u,hr,λw'=>?_⟩ (by simp[execOp,ho]);show(Instr.extract (a.tmps.getD t undef) i).run P w'=_;rw[hu];simp[Instr.extract,hui]
   ·cases he
  ·cases he
 ·rename_i args argTypes ho;split at he
  ·rename_i x t hx ht;obtain⟨v,hv,he⟩:=ae he;obtain⟨n,he,hrun⟩:=Em (P:=P) (ty:=o.type) hte he (R'.opd hv).1;have e1:args=#[x]:=Array.ext' hx;have e2:argTypes=#[t]:=Array.ext' ht;exact finF (s:=Builtin.len_ argTypes o.type (args.map a.eval)) ⟨_,he,_,rfl,λw'=>by rw[e1,e2];simpa using hrun w'⟩ (by simp[execOp,ho,resolve,invoke,builtin])
  ·cases he
 ·rename_i args argTypes ho;split at he
  ·rename_i k n vs hvs;obtain⟨m,hm,he⟩:=ae he;have ha:=jv R' hvs;rw[<- Array.toList_map] at ha;cases hl:(args.map a.eval).toList with
   |nil=>rw[hl] at ha;exact ha.elim
   |cons v l=>
    rw[hl] at ha;refine finF (s:=Builtin.min_ argTypes o.type (args.map a.eval)) ⟨_,he,_,rfl,λw'=>?_⟩ (by simp[execOp,ho,resolve,invoke,builtin]);have hv:v=.int k n:=ha.1.1;simp only[Builtin.min_,hl,hv];exact qd hm ha.2 w'
  ·cases he
 ·rename_i args argTypes ho;split at he
  ·rename_i k n vs hvs;obtain⟨m,hm,he⟩:=ae he;have ha:=jv R' hvs;rw[<- Array.toList_map] at ha;cases hl:(args.map a.eval).toList with
   |nil=>rw[hl] at ha;exact ha.elim
   |cons v l=>
    rw[hl] at ha;refine finF (s:=Builtin.max_ argTypes o.type (args.map a.eval)) ⟨_,he,_,rfl,λw'=>?_⟩ (by simp[execOp,ho,resolve,invoke,builtin]);have hv:v=.int k n:=ha.1.1;simp only[Builtin.max_,hl,hv];exact qc hm ha.2 w'
  ·cases he
 ·cases he
end
end Rv
namespace Rv
open Go
section
variable{P:Program}{C:Ctx}{γ:Gam}{h:Heap}{w:zaa}{R:Type}{r:R}
theorem Rel.put{st:St}{a:Act}(R':Rel C γ w st a.tmps)(dst:W X){y:V}{val:G}(hr:aZ C γ st.h w y val):Rel C γ w (st.put dst y) (a.put dst val).tmps:=by
 cases dst with
 |none=>exact R'
 |some d=>
  refine⟨by simp[St.put,Act.put,R'.size],λi v hv=>?_,R'.inv⟩;simp only[St.put,List.getElem?_set] at hv;by_cases e:d=i
  ·subst e;rw[zae rfl] at hv;by_cases hl:d<st.s.length
   ·rw[zae hl] at hv;simp only[ND] at hv;subst hv;have hsz:d<a.tmps.size:=by rw[R'.size];exact hl
    simpa[St.put,Act.put,Array.getD,hsz] using hr
   ·rw[zaf hl] at hv;cases hv
  ·rw[zaf e] at hv;have:=R'.slot i v hv;simpa[St.put,Act.put,Array.getD_eq_getD_getElem?,Array.getElem?_setIfInBounds,e] using this
structure Step (C:Ctx) (w w':zaa):Prop where
 size:w.heap.size<=w'.heap.size
 old:∀g,g<w.heap.size->¬C.own g->w'.heap[g]?=w.heap[g]?
 os:w'.os=w.os
 tape:w'.tape=w.tape
 output:w'.output=w.output
theorem Step.of_ext{w w':zaa}(hE:Ext w w')(h1:w'.os=w.os)(h2:w'.tape=w.tape)(h3:w'.output=w.output):Step C w w':=⟨hE.1,λg hg _=>hE.2 g hg,h1,h2,h3⟩
theorem Inv.step{γ':Gam}{h':Heap}{w':zaa}(I:Inv C γ h w)(S:Step C w w')(T:bP C γ h w C γ' h' w')(hbox:∀k e,h' k=J e->dI C γ' h' w' k e.box)
  (hinj:∀k k' e e' g c c',h' k=J e->e.box.live->h' k'=J e'->e'.box.live->γ' k=J (g,c)->γ' k'=J (g,c')->k=k')
  (hown:∀k e g c,h' k=J e->e.box.live->γ' k=J (g,c)->C.own g):Inv C γ' h' w' where
 box:=hbox
 inj:=hinj
 own:=hown
 frame:=λg hg hno=>(S.old g (Ot hg I.size) hno).trans (I.frame g hg hno)
 size:=Og I.size S.size
 os:=S.os.trans I.os
 tape:=S.tape.trans I.tape
 output:=S.output.trans I.output
 new:=I.new
 rd:=I.rd
 laid:=I.stable w w' I.laid λg hno=>by
  by_cases hg:g<w.heap.size;·exact S.old g hg hno
  ·exact absurd (I.new g (Og I.size (by omega))) hno
 stable:=I.stable
 lent:=T.lent I.lent
def iy(γ:Gam)(K:X)(v:W (X×X)):Gam:=λj=>if j=K then v else γ j
theorem bz(γ:Gam)(K:X)(v:W (X×X)):iy γ K v K=v:=by simp[iy]
theorem cZ(γ:Gam){K k:X}(v:W (X×X))(h:k≠K):iy γ K v k=γ k:=by simp[iy,h]
theorem bH(h:Heap)(K:X)(e:En):h.set K e K=J e:=by simp[Heap.set]
theorem aW(h:Heap){K k:X}(e:En)(hne:k≠K):h.set K e k=h k:=by simp[Heap.set,hne]
theorem ig(I:Inv C γ h w){k g c:X}{e:En}(hk:h k=J e)(hl:e.box.live)(hγ:γ k=J (g,c)):g<w.heap.size:=by
 have:=I.box k e hk;cases hb:e.box with
 |cells l=>
  rw[hb] at this;obtain⟨g',vs,U,h1,h2,_⟩:=this;rw[hγ] at h1;simp only[ND,NI] at h1;rw[h1.1];exact(Array.getElem?_eq_some_iff.1 h2).1
 |row a t xs=>
  rw[hb] at this;rcases this with⟨h0,_⟩|⟨g',c',cur,h1,h2,_⟩;·rw[hγ] at h0;cases h0
  ·rw[hγ] at h1;simp only[ND,NI] at h1;rw[h1.1];exact(Array.getElem?_eq_some_iff.1 h2).1
 |pub t xs=>rw[hb] at hl;exact hl.elim
 |gone=>rw[hb] at hl;exact hl.elim
theorem jO{K:X}{e:En}(hk:h K=J e):e.ver<h.next K:=by simp[Heap.next,hk]
theorem ni(_I:Inv C γ h w){w':zaa}(hE:Ext w w')(K:X)(b:Box)(v:W (X×X))(hv:∀g c,v=J (g,c)->w.heap.size<=g) :
  bP C γ h w C (iy γ K v) (h.set K ⟨h.next K,0,b⟩) w' where
 sz:=hE.1
 blk:=λg hg _=>hE.2 g hg
 keep:=λk e hk=>by
  by_cases hkK:k=K;·subst hkK;exact⟨_,bH _ _ _,.inl (jO hk)⟩
  ·exact⟨e,by rw[aW _ _ hkK];exact hk,.inr ⟨rfl,cZ _ _ hkK,Alike.refl e⟩⟩
 okn:=λk e' c g hk hl hγ hg=>by
  by_cases hkK:k=K;·subst hkK;rw[bz] at hγ;exact absurd (hv g c hγ) (by omega)
  ·rw[cZ _ _ hkK] at hγ;rw[aW _ _ hkK] at hk;exact⟨k,e',c,hk,hl,hγ,.inl rfl⟩
 rd:=λ_ _ h=>h
 L:=λ_ h=>h
theorem Inv.fresh(I:Inv C γ h w){w':zaa}(hE:Ext w w')(S:Step C w w')(K:X)(b:Box)(v:W (X×X))(hv:∀g c,v=J (g,c)->w.heap.size<=g)
  (hB:dI C (iy γ K v) (h.set K ⟨h.next K,0,b⟩) w' K b):Inv C (iy γ K v) (h.set K ⟨h.next K,0,b⟩) w':=by
 have T:=ni I hE K b v hv;refine I.step S T (λk e hk=>?_) (λk k' e e' g c c' hk hl hk' hl' h1 h2=>?_) (λk e g c hk hl h1=>?_)
 ·by_cases hkK:k=K
  ·subst hkK;rw[bH] at hk;simp only[ND] at hk;subst hk;exact hB
  ·rw[aW _ _ hkK] at hk;exact dI.step T (I.box k e hk) (cZ _ _ hkK) λhl g c hγ=>hE.2 g (ig I hk hl hγ)
 ·by_cases hkK:k=K<;>by_cases hkK':k'=K
  ·rw[hkK,hkK']
  ·subst hkK;rw[bz] at h1;rw[cZ _ _ hkK'] at h2;rw[aW _ _ hkK'] at hk';have:=ig I hk' hl' h2;have:=hv g c h1;omega
  ·subst hkK';rw[bz] at h2;rw[cZ _ _ hkK] at h1;rw[aW _ _ hkK] at hk;have:=ig I hk hl h1;have:=hv g c' h2;omega
  ·rw[cZ _ _ hkK] at h1;rw[cZ _ _ hkK'] at h2;rw[aW _ _ hkK] at hk;rw[aW _ _ hkK'] at hk';exact I.inj k k' e e' g c c' hk hl hk' hl' h1 h2
 ·by_cases hkK:k=K
  ·subst hkK;rw[bz] at h1;exact I.new g (Og I.size (hv g c h1))
  ·rw[cZ _ _ hkK] at h1;rw[aW _ _ hkK] at hk;exact I.own k e g c hk hl h1
def eY(P:Program)(C:Ctx)(w:zaa)(st:St)(a:Act)(o:Oper)(x:Dl):Prop:=
 ∀(next:Act->zaa->Prop) (Q:Exit->Act->zaa->Prop),(∀γ' w' val,Rel C γ' w' (st.app o.dst x) (a.put o.dst val).tmps->next (a.put o.dst val) w')->o.wp P a w next Q
theorem Rel.app{st:St}{a:Act}(R':Rel C γ w st a.tmps){γ':Gam}{w':zaa}{dst:W X}{x:Dl}(T:bP C γ st.h w C γ' (x.up.foldl (λh p=>h.set p.1 p.2) st.h) w')
  (I':Inv C γ' (x.up.foldl (λh p=>h.set p.1 p.2) st.h) w') {val:G} (hv:aZ C γ' (x.up.foldl (λh p=>h.set p.1 p.2) st.h) w' x.v val):Rel C γ' w' (st.app dst x) (a.put dst val).tmps:=by
 have R1:Rel C γ' w' ⟨st.s,x.up.foldl (λh p=>h.set p.1 p.2) st.h⟩ a.tmps:=R'.step T I';exact R1.put dst hv
theorem dM{o:Oper}{a:Act}{val:G}{w':zaa}(hr:(execOp a.eval o).run P w=.ok (.value val) w'){next:Act->zaa->Prop}{Q:Exit->Act->zaa->Prop}(hn:next (a.put o.dst val) w'):o.wp P a w next Q:=by
 unfold Oper.wp;rw[hr];exact hn
theorem Bw{o:Oper}{a:Act}{w':zaa}(hr:(execOp a.eval o).run P w=.ok .skip w'){next:Act->zaa->Prop}{Q:Exit->Act->zaa->Prop}(hn:next (a.put o.dst undef) w'):o.wp P a w next Q:=by
 unfold Oper.wp;rw[hr];exact hn
theorem mi(w:zaa)(o:Obj):Ext w (w.alloc o):=⟨by simp,λg hg=>Go.RowKit.Below.heap_alloc w o g hg⟩
theorem pV(w:zaa)(o:Obj):Step C w (w.alloc o):=Step.of_ext (mi w o) rfl rfl rfl
theorem dE{a b g c:X}(h:J (a,b)=J (g,c)):a=g/\b=c:=by simpa using h
theorem Fu{st:St}{a:Act}(R':Rel C γ w st a.tmps){o:Oper}{T:Z}{l:Y Cell}{vs:Array G}{rd:Y X}(ha:aj (av C γ st.h w) l vs.toList)
  (hrun:(execOp a.eval o).run P w=.ok (.value (.pointer (J ⟨w.heap.size,0,O⟩))) (w.alloc (.cells vs T))) :
  eY P C w st a o ⟨.v (.c (.ptr (dk o.dst) (st.h.next (dk o.dst)) 0)),rd,[(dk o.dst,⟨st.h.next (dk o.dst),0,.cells l⟩)]⟩:=by
 intro next Q hn
 have hE:=mi w (.cells vs T);have hv:∀g c,J (w.heap.size,0)=J (g,c)->w.heap.size<=g:=λg c e=>by have:=dE e;omega
 have T':=ni R'.inv hE (dk o.dst) (.cells l) (J (w.heap.size,0)) hv;refine dM hrun (hn (iy γ (dk o.dst) (J (w.heap.size,0))) _ _ (R'.app T' (R'.inv.fresh hE (pV w _) (dk o.dst) (.cells l) (J (w.heap.size,0)) hv ?_) ?_));·exact⟨w.heap.size,vs,T,bz _ _ _,heap_alloc_new w _,ha.mono λ_ _ hh=>av.step T' hh⟩
 ·exact⟨rfl,aT (bH _ _ _) rfl λl _=>⟨w.heap.size,0,bz _ _ _,rfl⟩⟩
theorem Rd.parse:∀{t:Ty}{l:Y Cell}{x:t.D}{rest:Y Cell}{vs:Y G},t.parse l=J (x,rest)->aj (av C γ h w) l vs->∃v1 v2,vs=v1++v2/\Rd w (okb C γ h O) t x v1/\aj (av C γ h w) rest v2
 | .int k,l,x,rest,vs,he,ha=>by
  cases l with
  |nil=>simp[Ty.parse] at he
  |cons c r=>
   cases c with
   |int j n=>
    simp only[Ty.parse] at he;split at he
    ·rename_i hjk;subst hjk;simp only[ND,NI] at he;obtain⟨rfl,rfl⟩:=he;cases vs with
     |nil=>exact ha.elim
     |cons v vs=>exact⟨[v],vs,rfl,by rw[show v=_ from ha.1];rfl,ha.2⟩
    ·cases he
   |_=>simp[Ty.parse] at he
 | .bool,l,x,rest,vs,he,ha=>by
  cases l with
  |nil=>simp[Ty.parse] at he
  |cons c r=>
   cases c with
   |bool b=>
    simp only[Ty.parse,ND,NI] at he;obtain⟨rfl,rfl⟩:=he;cases vs with
    |nil=>exact ha.elim
    |cons v vs=>exact⟨[v],vs,rfl,by rw[show v=_ from ha.1];rfl,ha.2⟩
   |_=>simp[Ty.parse] at he
 | .str,l,x,rest,vs,he,ha=>by
  cases l with
  |nil=>simp[Ty.parse] at he
  |cons c r=>
   cases c with
   |str b=>
    simp only[Ty.parse,ND,NI] at he;obtain⟨rfl,rfl⟩:=he;cases vs with
    |nil=>exact ha.elim
    |cons v vs=>exact⟨[v],vs,rfl,by rw[show v=_ from ha.1];rfl,ha.2⟩
   |_=>simp[Ty.parse] at he
 | .sl t,l,x,rest,vs,he,ha=>by
  cases l with
  |nil=>simp[Ty.parse] at he
  |cons c r=>
   cases c with
   |nilS=>
    simp only[Ty.parse,ND,NI] at he;obtain⟨rfl,rfl⟩:=he;cases vs with
    |nil=>exact ha.elim
    |cons v vs=>exact⟨[v],vs,rfl,⟨O,0,by rw[show v=_ from ha.1];rfl,by simp,λi x e=>by simp at e⟩,ha.2⟩
   |sl d t' xs=>
    cases d with
    |some d=>simp[Ty.parse] at he
    |none=>
     simp only[Ty.parse] at he;split at he
     ·rename_i ht;subst ht;simp only[ND,NI] at he;obtain⟨rfl,rfl⟩:=he;cases vs with
      |nil=>exact ha.elim
      |cons v vs=>exact⟨[v],vs,rfl,RdS.iff.1 ha.1.2,ha.2⟩
     ·cases he
   |_=>simp[Ty.parse] at he
 | .nil,l,x,rest,vs,he,ha=>by
  simp only[Ty.parse,ND,NI] at he;obtain⟨_,rfl⟩:=he;exact⟨[],vs,rfl,rfl,ha⟩
 | .fn,l,x,rest,vs,he,ha=>by
  cases l with
  |nil=>simp[Ty.parse] at he
  |cons c r=>
   cases c with
   |fn b=>
    simp only[Ty.parse,ND,NI] at he;obtain⟨rfl,rfl⟩:=he;cases vs with
    |nil=>exact ha.elim
    |cons v vs=>exact⟨[v],vs,rfl,ha.1.2,ha.2⟩
   |_=>simp[Ty.parse] at he
 | .pair a b,l,x,rest,vs,he,ha=>by
  simp only[Ty.parse] at he;split at he
  ·rename_i x1 r1 h1;split at he
   ·rename_i x2 r2 h2;simp only[ND,NI] at he;obtain⟨rfl,rfl⟩:=he;obtain⟨v1,v2,rfl,hr1,ha1⟩:=Rd.parse h1 ha;obtain⟨v3,v4,rfl,hr2,ha2⟩:=Rd.parse h2 ha1;exact⟨v1++v3,v4,by simp,⟨v1,v3,rfl,hr1,hr2⟩,ha2⟩
   ·cases he
  ·cases he
theorem Rd.ofCells{t:Ty}{l:Y Cell}{x:t.D}{vs:Y G}(he:t.ofCells l=J x)(ha:aj (av C γ h w) l vs):Rd w (okb C γ h O) t x vs:=by
 unfold Ty.ofCells at he;split at he
 ·rename_i y hp;simp only[ND] at he;subst he;obtain⟨v1,v2,rfl,hr,ha⟩:=Rd.parse hp ha;cases v2 with
  |nil=>simpa using hr
  |cons _ _=>exact ha.elim
 ·cases he
theorem H8{st:St}{a:Act}(R':Rel C γ w st a.tmps){o:Oper}{t:Z}{ti:TI}(hi:aN P t ti)(ho:o.op=.alloc t){rd:Y X} :
  eY P C w st a o ⟨.v (.c (.ptr (dk o.dst) (st.h.next (dk o.dst)) 0)),rd,[(dk o.dst,⟨st.h.next (dk o.dst),0,.cells ti.zero⟩)]⟩:=by
 obtain⟨z,hz,hzs,hza⟩:=lX (C:=C) (γ:=γ) (h:=st.h) (w:=w) hi;refine Fu R' hza (T:=t) ?_;simp[execOp,ho,Instr.alloc,hz,newVar,newRow]
theorem Ih{st:St}{a:Act}(R':Rel C γ w st a.tmps){o:Oper}{t:Z}{x:Operand}{v:V1}(hx:opd st x=J v)(ho:o.op=.box t x){rd:Y X} :
  eY P C w st a o ⟨.v (.c (.ptr (dk o.dst) (st.h.next (dk o.dst)) 0)),rd,[(dk o.dst,⟨st.h.next (dk o.dst),0,.cells v.cells⟩)]⟩:=by
 obtain⟨h1,h2⟩:=R'.opd hx;refine Fu R' h1.cells (T:=t) ?_;simp[execOp,ho,Instr.box,newVar,newRow]
theorem bi.set{ok:X->Prop}{t:Ty}{xs:Y t.D}{cur:Y G}(hr:bi w ok t xs cur)(hl:cur.length=xs.length*t.size){i:X}(hi:i<xs.length){x:t.D}{ds:Y G}(hd:Rd w ok t x ds) :
  bi w ok t (xs.set i x) (cur.take (i*t.size)++ds++cur.drop (i*t.size+t.size)):=by
 have hlen:=hd.length;have hle:i*t.size+t.size<=cur.length:=by
  rw[hl]
  calc i*t.size+t.size=(i+1)*t.size:=by rw[Nat.add_mul,Nat.one_mul]
   _<=xs.length*t.size:=Nat.mul_le_mul_right _ hi
 intro j y hj;rw[List.getElem?_set] at hj;by_cases e:i=j
 ·subst e;rw[zae rfl,zae hi] at hj;simp only[ND] at hj;subst hj;have:((cur.take (i*t.size)++ds++cur.drop (i*t.size+t.size)).drop (i*t.size)).take t.size=ds:=by
   rw[NW,List.drop_append_of_le_length (by simp;omega),List.drop_of_length_le (by simp;omega),Oc,List.take_append_of_le_length (by omega),List.take_of_length_le (by omega)]
  rw[this];exact hd
 ·rw[zaf e] at hj;have:=hr j y hj;have hjl:j<xs.length:=(NS.1 hj).1;have hjle:j*t.size+t.size<=cur.length:=by
   rw[hl]
   calc j*t.size+t.size=(j+1)*t.size:=by rw[Nat.add_mul,Nat.one_mul]
    _<=xs.length*t.size:=Nat.mul_le_mul_right _ hjl
  have heq:((cur.take (i*t.size)++ds++cur.drop (i*t.size+t.size)).drop (j*t.size)).take t.size=(cur.drop (j*t.size)).take t.size:=by
   apply List.ext_getElem?;intro m;rw[Oi,Oi];split
   ·rename_i hm;rw[Ov,Ov];rcases Nat.lt_or_gt_of_ne e with hlt|hgt
    ·have h1:i*t.size+t.size<=j*t.size:=by
      calc i*t.size+t.size=(i+1)*t.size:=by rw[Nat.add_mul,Nat.one_mul]
       _<=j*t.size:=Nat.mul_le_mul_right _ hlt
     rw[NW,List.getElem?_append_right (by simp;omega),List.getElem?_append_right (by simp;omega),Ov];congr 1;simp;omega
    ·have h1:j*t.size+t.size<=i*t.size:=by
      calc j*t.size+t.size=(j+1)*t.size:=by rw[Nat.add_mul,Nat.one_mul]
       _<=i*t.size:=Nat.mul_le_mul_right _ hgt
     rw[NW,Ou (by simp;omega),Oi,zae (by omega)]
   ·rfl
  rw[heq];exact this
theorem qi{t:Ty}{ok:X->Prop}(hok:∀{l:Y Cell}{x:t.D}{vs:Y G},t.ofCells l=J x->aj (av C γ h w) l vs->Rd w ok t x vs) :
  ∀{ps:Y (X×V1)}{qs:Y (X×G)}{acc xs:Y t.D}{vs:Array G},kZ t acc ps=J xs->bi w ok t acc vs.toList->vs.size=acc.length*t.size ->
  aj (λ(p:X×V1) (q:X×G)=>p.1=q.1/\aj (av C γ h w) p.2.cells q.2.cells.toList) ps qs ->
  ∃vs':Array G,Instr.fill (λi=>J (i*t.size,t.size)) vs qs=J vs'/\bi w ok t xs vs'.toList/\vs'.size=vs.size/\xs.length=acc.length
 |[],[],acc,xs,vs,he,hr,hl,_=>by
  simp only[kZ,ND] at he;subst he;exact⟨vs,rfl,hr,rfl,rfl⟩
 |(i,x)::ps,(j,v)::qs,acc,xs,vs,he,hr,hl,hp=>by
  obtain⟨⟨hij,hc⟩,hp⟩:=hp;simp only at hij;subst hij;simp only[kZ] at he;split at he
  ·rename_i y hy;obtain⟨hi,he⟩:=aa he;have hd:=hok hy hc;have hlen:=hd.length;have hle:i*t.size+t.size<=vs.size:=by
    rw[hl]
    calc i*t.size+t.size=(i+1)*t.size:=by rw[Nat.add_mul,Nat.one_mul]
     _<=acc.length*t.size:=Nat.mul_le_mul_right _ hi
   have hsz:v.cells.size=t.size:=by simpa using hlen
   have hset:(v.cells.zipIdx.foldl (λ(cs:Array G) (p:G×X)=>cs.setIfInBounds (i*t.size+p.2) p.1) vs).toList=vs.toList.take (i*t.size)++v.cells.toList++vs.toList.drop (i*t.size+t.size):=by
    rw[<- Array.foldl_toList,Array.toList_zipIdx];have:=wW v.cells.toList 0 (i*t.size) vs (by simp;omega);simpa[hsz] using this
   have hr':=hr.set (by simpa using hl) hi hd;rw[<- hset] at hr';have hsize:(v.cells.zipIdx.foldl (λ(cs:Array G) (p:G×X)=>cs.setIfInBounds (i*t.size+p.2) p.1) vs).size=vs.size:=by
    rw[<- Array.length_toList,hset];simp;omega
   obtain⟨vs',h3,h4,h5,h6⟩:=qi hok he hr' (by rw[hsize,hl];simp) hp;refine⟨vs',?_,h4,by rw[h5,hsize],by rw[h6];simp⟩;simp only[Instr.fill];rw[zaf (by simp;omega)];exact h3
  ·cases he
 |[],_::_,_,_,_,_,_,_,hp=>hp.elim
 |_::_,[],_,_,_,_,_,_,hp=>hp.elim
end
end Rv
