/- Texts put together. -/
import Derived.Test.YtfhnodllolpjgaaGreatDoorH4
import Derived.Below
import Derived.Lib.LaidTab
import Derived.ProofKit
import Derived.ChangeArms
import Derived.Carry
import Derived.HandedShaped
import Derived.Handed
import Derived.LaidMore
import Derived.OpenShut
import Derived.SizedLaws
import Derived.LaidHandle
import Derived.LaidLaws
import Derived.Shelf.Vars
import Derived.ChangeOld
import Derived.Stop.Joined
import Derived.WideShapes
import Derived.StringKeys
import Derived.Shelf.Strings.Builder2
import Derived.Shelf.Strings.Trim
import Derived.Shelf.Small.Strs
import Derived.Shelf.Small.Wraps
import Derived.Shelf.Strings.BuilderK
import Derived.Shelf.Strconv.Itoa1
import Derived.Shelf.LaysM
import Derived.Shelf.Strconv.Itoa2
import Derived.Shelf.Strconv.Itoa3
import Derived.Shelf.LaysC
import Derived.Shelf.Strconv.ToError
import Derived.Shelf.Strconv.ToErrorRange
import Derived.Shelf.Strings.Search3
import Derived.Shelf.Strings.Prefix
import Derived.Shelf.Strings.Split
import Derived.Shelf.Strings.SplitShaped
import Derived.Shelf.Slices.Reverse
import Derived.Test.YtfhnodllolpjgaaGreatDoorProg
import Derived.Lib.ItoaMem
import Derived.Lib.AppendIntMem
import Derived.Lib.Walk
import Derived.WalkKit
import Derived.BigCall
import Derived.BigGuard
import Derived.Test.YtfhnodllolpjgaaGreatDoorH1
set_option linter.all false
namespace Rv
open Go Go.RowKit
def CD.isPlain:CD->Bool
 | .int _ | .bool | .str | .err | .ifo _ _=>true
 |_=>false
def CD.isVal:CD->Bool
 | .int _ | .bool | .str | .ifo _ _=>true
 |_=>false
def CD.val:(c:CD)->c.T->Value
 | .int k,n=>.int k n
 | .bool,b=>.bool b
 | .str,s=>.string (mkS s)
 | .ifo t k,o=>match o with
  |none=>.nilIface
  |some n=>.iface t (.int k n)
 |_,_=>undef
def wB:(l:List CD)->TL l->List Value
 |[],_=>[]
 |c::r,x=>c.val x.1::wB r x.2
def aM:Nat->List CD->List (Nat×SD)
 |_,[]=>[]
 |i,c::r=>(i,.c c)::aM (i+1) r
def ax(l:List CD):Shape:=⟨aM 0 l,[]⟩
def CD.res:(c:CD)->c.T->Value->Prop
 | .int k,n,v=>v=.int k n
 | .bool,b,v=>v=.bool b
 | .str,s,v=>v=.string (mkS s)
 | .err,b,v=>v.oneCell'=true/\(b=true->v=.nilIface)/\(b=false->∃t x,v=.iface t x)
 | .ifo t k,o,v=>match o with
  |none=>v=.nilIface
  |some n=>v=.iface t (.int k n)
 |_,_,_=>False
def Ev:(l:List CD)->TL l->List Value->Prop
 |[],_,[]=>True
 |c::r,x,v::vs=>c.res x.1 v/\Ev r x.2 vs
 |_,_,_=>False
section
variable{P:Program}{C:Ctx}{γ:Gam}{h:Heap}{w:World}
theorem jf:∀(l:List CD) (i:Nat),((aM i l).flatMap fun p=>p.2.cds)=l
 |[],_=>rfl
 |c::r,i=>by simp only[aM,Oc];rw[jf r (i+1)];rfl
theorem fK:∀(l:List CD) (i:Nat),(aM i l).map (·.1)=List.range' i l.length
 |[],_=>rfl
 |c::r,i=>by simp only[aM,NY,N9,List.range'_succ];rw[fK r (i+1)]
theorem fM(l:List CD)(i:Nat):(aM i l).length=l.length:=by
 have:=congrArg List.length (fK l i);simpa using this
theorem dV(l:List CD):(ax l).all=l:=by
 unfold Shape.all ax;simp[jf]
theorem jg{vals:Array Value}:∀(l:List CD) (i:Nat),bq vals (aM i l)=(List.range' i l.length).map fun j=>vals.getD j undef
 |[],_=>rfl
 |c::r,i=>by simp only[aM,bq,N9,List.range'_succ,NY];rw[jg r (i+1)]
theorem kP(vals:Array Value):(List.range' 0 vals.size).map (fun j=>vals.getD j undef)=vals.toList:=by
 apply List.ext_getElem;·simp
 ·intro i h1 h2;have:i<vals.size:=by simpa using h2
  simp[Array.getD,this]
theorem Dh{nm:Nm}:∀{l:List CD}{x:TL l}{m:Nat}{vs:List Value},l.all CD.isVal=true->ai (au C γ h w) (mkL nm l x m).1 vs->vs=wB l x
 |[],_,_,vs,_,ha=>by
  cases vs with
  |nil=>rfl
  |cons _ _=>exact ha.elim
 |c::r,x,m,vs,hl,ha=>by
  simp only[OH,NJ] at hl;cases vs with
  |nil=>exact ha.elim
  |cons v vs=>
   simp only[mkL] at ha;obtain⟨h1,h2⟩:=ha;have:=Dh hl.2 h2;subst this;simp only[wB];congr 1;cases c with
   |int k=>exact h1
   |bool=>exact h1
   |str=>exact h1
   |ifo t k=>
    obtain⟨o,x'⟩:=x;cases o with
    |none=>exact h1
    |some n=>exact h1
   |_=>cases hl.1
theorem vW{nm:Nm}:∀{l:List CD}{x:TL l}{m:Nat},l.all CD.isPlain=true->(mkL nm l x m).2.1=[]
 |[],_,_,_=>rfl
 |c::r,x,m,hl=>by
  simp only[OH,NJ] at hl;simp only[mkL];rw[vW hl.2];cases c<;>first|rfl|cases hl.1
theorem CS{nm:Nm}:∀{l:List CD}{x:TL l}{m:Nat}{vs:List Value},Ev l x vs->ai (au C γ h w) (mkL nm l x m).1 vs
 |[],_,_,[],_=>trivial
 |[],_,_,_::_,hr=>hr.elim
 |_::_,_,_,[],hr=>hr.elim
 |c::r,x,m,v::vs,hr=>by
  simp only[mkL];refine⟨?_,CS hr.2⟩;have:=hr.1;cases c with
  |int k=>exact this
  |bool=>exact this
  |str=>exact this
  |err=>exact this
  |ifo t k=>
   obtain⟨o,x'⟩:=x;cases o with
   |none=>exact this
   |some n=>exact this
  |_=>exact this.elim
theorem zN(I:Inv C γ h C.w0)(hn:C.nl=0){w':World}(hb:Below C.w0.heap.size C.w0 w'):Inv C (fun _=>none) (Heap.ofList []) w' where
 box:=fun k e hk=>by cases hk
 inj:=fun k k' e e' g c c' hk=>by cases hk
 own:=fun k e g c hk=>by cases hk
 frame:=fun g hg _=>hb.block g hg
 size:=hb.size
 os:=hb.os
 tape:=hb.tape
 output:=hb.output
 new:=I.new
 rd:=I.rd
 laid:=I.stable C.w0 w' I.laid fun g hno=>hb.block g (by
  by_cases hlt:g<C.w0.heap.size;·exact hlt
  ·exact absurd (I.new g (by omega)) hno)
 stable:=I.stable
 lent:=fun i hi=>by omega
theorem gu{L:World->Prop}{f:FuncId}{sp:Spec}{la lr:List CD}(ea:sp.a=ax la)(er:sp.r=ax lr)(ha:la.all CD.isVal=true)(hr:lr.all CD.isPlain=true)
  (H:∀(x:TL la) (y:TL lr),sp.f (cast (by rw[ea];show TL la=TL (ax la).all;rw[dV]) x)=some (cast (by rw[er];show TL lr=TL (ax lr).all;rw[dV]) y)->∀w,L w ->
   Calls P f (wB la x).toArray w fun e w'=>Below w.heap.size w w'/\∃rs:Array Value,e=.returned (if h:rs.size=1 then rs[0] else .tuple rs)/\Ev lr y rs.toList):Sat P L f sp:=by
 obtain⟨a,r,g⟩:=sp;simp only at ea er H;subst ea er;intro x y hy C γ vals hCL hCn R;have hCn:C.nl=0:=hCn;have eqT:∀l:List CD,(ax l).T=TL l:=fun l=>by show TL (ax l).all=TL l;rw[dV]
 have hw:=H (cast (eqT la) x) (cast (eqT lr) y) (by simp only[cast_cast,cast_eq];exact hy) C.w0 (by rw[<- hCL];exact R.inv.laid);have hsz:vals.size=la.length:=by
  rw[R.size];show(az _ _ _).1.length=_;rw[cO];simp[ax,fM]
 have castmk:∀(l:List CD) (nm:Nm) (x:(ax l).T) (m:Nat),mkL nm (ax l).all x m=mkL nm l (cast (eqT l) x) m:=by
  intro l nm x m;have gen:∀(l':List CD) (e:l'=l) (x:TL l') (h:TL l'=TL l),mkL nm l' x m=mkL nm l (cast h x) m:=by
   intro l' e x h;subst e;rfl
  exact gen _ (dV l) x _
 have hvals:vals=(wB la (cast (eqT la) x)).toArray:=by
  have hnd:((ax la).slots.map (·.1)).Nodup:=by
   show((aM 0 la).map (·.1)).Nodup;rw[fK];exact List.nodup_range'
  have hlt:∀i,i∈(ax la).slots.map (·.1)->i<(List.replicate (ax la).slots.length V.dead).length:=fun i hi=>by
   have hi:i∈(aM 0 la).map (·.1):=hi;rw[fK] at hi;simp only[List.mem_range'_1] at hi;simp[ax,fM];omega
  have hlen:(mkL nmJ (ax la).all x (ax la).boxes.length).1.length=((ax la).slots.flatMap fun p=>p.2.cds).length:=by
   rw[(dW _ _ _ _).2.2,dV];show _=((aM 0 la).flatMap _).length;rw[jf]
  have hb:=(qo (C:=C) (γ:=γ) (h:=((ax la).mk' nmJ (ax la).slots.length x).h) (w:=C.w0) (vals:=vals) hnd hlt hlen R.slot).1;rw[castmk] at hb;have hv:=Dh ha hb;have hf:bq vals (ax la).slots=vals.toList:=by
   show bq vals (aM 0 la)=_;rw[jg,<- hsz,kP]
  rw[hf] at hv;rw[<- hv]
 rw[hvals];refine hw.mono fun e w' ⟨hb,rs,he,hres⟩=>⟨fun _=>none,rs,he,?_⟩
 have hrows:(mkL nmJ (ax lr).all y (ax lr).boxes.length).2.1=[]:=by rw[castmk];exact vW hr
 have hh:((ax lr).mk' nmJ (ax lr).slots.length y).h=Heap.ofList []:=by
  have:((ax lr).mk' nmJ (ax lr).slots.length y).h=Heap.ofList ([]++(mkL nmJ (ax lr).all y (ax lr).boxes.length).2.1):=rfl;rw[this,hrows];rfl
 have hlr:∀{l:List CD}{x:TL l}{vs:List Value},Ev l x vs->vs.length=l.length:=by
  intro l
  induction l with
  |nil=>intro x vs hr;cases vs with
   |nil=>rfl
   |cons _ _=>exact hr.elim
  |cons c l ih=>intro x vs hr;cases vs with
   |nil=>exact hr.elim
   |cons v vs=>simp[ih hr.2]
 have hrs:rs.size=lr.length:=by have:=hlr hres;simpa using this
 have hcells:=CS (C:=C) (γ:=fun _=>none) (h:=Heap.ofList []) (w:=w') (nm:=nmJ) (m:=(ax lr).boxes.length) hres;rw[<- castmk] at hcells;have hfv:bq rs (ax lr).slots=rs.toList:=by
  show bq rs (aM 0 lr)=_;rw[jg,<- hrs,kP]
 have hok:dY rs (ax lr).slots:=by
  intro i sd hm;have hm:(i,sd)∈aM 0 lr:=hm;have:∀(l:List CD) (j:Nat),(i,sd)∈aM j l->∃c,sd=.c c:=by
   intro l
   induction l with
   |nil=>intro j hj;simp[aM] at hj
   |cons c l ih=>
    intro j hj;simp only[aM,NS,NG] at hj;rcases hj with hj|hj;·exact⟨c,hj.2⟩
    ·exact ih _ hj
  obtain⟨c,rfl⟩:=this lr 0 hm;trivial
 obtain⟨h1,h2,_⟩:=bY (C:=C) (γ:=fun _=>none) (h:=Heap.ofList []) (w:=w') (vals:=rs) (sl:=(ax lr).slots) (l:=List.replicate (ax lr).slots.length V.dead) (rest:=[]) hok (fun i v hi=>by
   rw[List.getElem?_replicate] at hi;split at hi;·simp only[NC] at hi;subst hi;trivial
   ·cases hi) (by rw[hfv,OI];exact hcells)
 refine⟨?_,?_,?_⟩;·show rs.size=(az _ _ _).1.length;rw[h1,Ox,hrs];simp[ax,fM]
 ·rw[hh];exact h2
 ·rw[hh];exact zN R.inv hCn hb
theorem keepCell{w a b:World}{q:Addr}{u v:Value}(h:w.cell? q=some u)(ha:a.cell? q=some v)(hb:∀g,g<w.heap.size->b.heap[g]?=a.heap[g]?):b.cell? q=some v:=
 (World.cell?_of_block (hb _ (World.block_lt_of_cell? w q h))).trans ha
theorem JO{w a b:World}{q:Addr}(h:∃te pe,w.cell? q=some (.iface te pe))(ha:∃te pe,a.cell? q=some (.iface te pe))(hb:∀g,g<w.heap.size->b.heap[g]?=a.heap[g]?):∃te pe,b.cell? q=some (.iface te pe):=by
 obtain⟨_,_,h⟩:=h;obtain⟨te,pe,ha⟩:=ha;exact⟨te,pe,keepCell h ha hb⟩
theorem M5{w a b:World}{q:Addr}{k:IntKind}(h:∃m,w.cell? q=some (.int k m))(ha:∃m,a.cell? q=some (.int k m))(hb:∀g,g<w.heap.size->b.heap[g]?=a.heap[g]?):∃m,b.cell? q=some (.int k m):=by
 obtain⟨_,h⟩:=h;obtain⟨m,ha⟩:=ha;exact⟨m,keepCell h ha hb⟩
theorem KH{w a b:World}{n:String}{c d:Array Value}(h:w.var? P n=some c)(ha:a.var? P n=some d)(hb:∀g,g<w.heap.size->b.heap[g]?=a.heap[g]?):b.var? P n=some d:=by
 unfold World.var? at h ha⊢;cases hg:P.globalNamed n with
 |none=>simp[hg] at h
 |some g=>
  simp only[hg,ND] at h ha⊢;have hlt:g<w.heap.size:=by
   rcases Nat.lt_or_ge g w.heap.size with h'|h';·exact h'
   ·simp[Array.getElem?_eq_none h'] at h
  rw[hb g hlt];exact ha
theorem wW{w a b:World}{n:String}{k:IntKind}{zs:List Int}(h:Lib.TabIs P w n k zs)(ha:Lib.TabIs P a n k zs)(hb:∀g,g<w.heap.size->b.heap[g]?=a.heap[g]?):Lib.TabIs P b n k zs:=KH h ha hb
end
end Rv
namespace Rv
open Go Go.RowKit
def fsB(P:Program)(rec:TypeId->Ty->Bool):List Field->Nat->Ty->Bool
 |[],_,.nil=>true
 |f::fs,off,.pair A B=>decide (f.offset=off)&&rec f.type A&&decide (P.cellsOf f.type=A.size)&&fsB P rec fs (off+A.size) B
 |_,_,_=>false
def Du(P:Program)(rec:TypeId->Ty->Bool)(e:TypeId):Nat->Ty->Bool
 |0,.nil=>true
 |n+1,.pair A B=>rec e A&&decide (P.cellsOf e=A.size)&&Du P rec e n B
 |_,_=>false
def tyB(P:Program):Nat->TypeId->Ty->Bool
 |0,_,_=>false
 |d+1,t,T=>match T,P.underlying t with
  | .int k,some (.int k')=>decide (k'=k)
  | .bool,some .bool=>true
  | .str,some .string=>true
  | .sl T',some (.slice e)=>tyB P d e T'&&decide (P.cellsOf e=T'.size)&&decide (0<T'.size)
  | .nil,some (.struct fs)=>fsB P (tyB P d) fs.toList 0 .nil&&decide (P.cellsOf t=0)
  | .pair A B,some (.struct fs)=>fsB P (tyB P d) fs.toList 0 (.pair A B)&&decide (P.cellsOf t=(Ty.pair A B).size)
  | .pair A B,some (.array n e)=>Du P (tyB P d) e n (.pair A B)&&decide (P.cellsOf t=(Ty.pair A B).size)
  |_,_=>false
def Ty.wf:(T:Ty)->T.D->Prop
 | .int k,n=>(Lit.int k n).wf=true
 | .bool,_=>True
 | .str,s=>s.length<=maxLen
 | .sl T,xs=>xs.length<=maxLen/\∀x∈xs,T.wf x
 | .nil,_=>True
 | .fn,_=>True
 | .pair A B,x=>A.wf x.1/\B.wf x.2
theorem x8{α:Type}{p:Nat->α->Prop}:∀{n:Nat},(∀i,i<n->∃y,p i y)->∃l:List α,l.length=n/\∀i y,l[i]?=some y->p i y
 |0,_=>⟨[],rfl,fun i y h=>by simp at h⟩
 |n+1,h=>by
  obtain⟨l,h1,h2⟩:=x8 (n:=n) fun i hi=>h i (by omega)
  obtain⟨y,hy⟩:=h n (by omega);refine⟨l++[y],by simp[h1],fun i z hz=>?_⟩;rw[List.getElem?_append] at hz;split at hz;·exact h2 i z hz
  ·have:i=n:=by
    have:=(NQ.1 hz).1;simp at this;omega
   subst this;simp[h1] at hz;subst hz;exact hy
section
variable{H:Type}{enc:TypeId×Value->H}{P:Program}{w:World}{base:Nat}{sp:Nat->Bool}{held:Bool}
theorem xz{a:Addr}{n:Nat}{l:List Value}(h:w.cells? base a n=some l):l.length=n/\∀j v,l[j]?=some v->w.cell? (a.add j)=some v:=by
 unfold World.cells? at h;split at h
 ·have hl:=mapM_some_length h;refine⟨by simpa using hl,fun j v hv=>?_⟩;have hj:j<n:=by have:=(NQ.1 hv).1;simp at hl;omega
  have:=mapM_some_get h j j (by simp[hj]);rw[this,hv]
 ·cases h
theorem cell_spot{a:Addr}{v:Value}(h:w.cell? a=some v):a.spot=none/\a.block<w.heap.size:=by
 refine⟨?_,World.block_lt_of_cell? w a h⟩;unfold World.cell? at h;split at h
 ·split at h
  ·cases h
  ·rename_i hs;simpa using hs
 ·cases h
theorem sW{ok:Nat->Prop}(hok:∀g,g<w.heap.size->ok g):∀(d:Nat) {t:TypeId} {T:Ty} {fuel:Nat} {cs:List Value} {x:DataW H×List MemPlace},tyB P d t T=true->DataW.trod enc P w base sp held fuel t cs=some x->∃y:T.D,Rd w ok T y cs/\T.wf y
 |0,_,_,_,_,_,h,_=>by cases h
 |d+1,t,T,fuel,cs,x,h,ht=>by
  have fields:∀(fs:List Field) (off:Nat) (S:Ty) (xs:List (DataW H×List MemPlace)) (n:Nat),fsB P (tyB P d) fs off S=true->xs.length=fs.length->off+S.size<=cs.length ->
    (∀(i:Nat) (f:Field),fs[i]?=some f->DataW.trod enc P w base sp held n f.type ((cs.drop f.offset).take (P.cellsOf f.type))=xs[i]?)->∃y:S.D,Rd w ok S y ((cs.drop off).take S.size)/\S.wf y:=by
   intro fs
   induction fs with
   |nil=>
    intro off S xs n hf _ _ _;cases S with
    |nil=>exact⟨(),by simp[Rd,Ty.size],trivial⟩
    |_=>cases hf
   |cons f fs ih=>
    intro off S xs n hf hl hc hx;cases S with
    |pair A B=>
     simp only[fsB,NJ,NN] at hf;obtain⟨⟨⟨h1,h2⟩,h3⟩,h4⟩:=hf;cases xs with
     |nil=>simp at hl
     |cons x0 xs=>
      simp only[Ty.size] at hc;have h0:=hx 0 f rfl;simp only[Ob] at h0;rw[h1,h3] at h0;obtain⟨y1,r1,w1⟩:=sW hok d h2 h0;obtain⟨y2,r2,w2⟩:=ih (off+A.size) B xs n h4 (by simpa using hl) (by omega) fun i f hi=>by
       have:=hx (i+1) f (by simpa using hi);simpa using this
      refine⟨(y1,y2),⟨_,_,?_,r1,r2⟩,w1,w2⟩;simp only[Ty.size];rw[List.take_add,List.drop_drop]
    |_=>cases hf
  have elemz:∀(e:TypeId) (k i:Nat) (S:Ty) (n:Nat),Du P (tyB P d) e k S=true->i*P.cellsOf e+S.size<=cs.length ->
    (∀j,i<=j->j<i+k->∃z,DataW.trod enc P w base sp held n e ((cs.drop (j*P.cellsOf e)).take (P.cellsOf e))=some z)->∃y:S.D,Rd w ok S y ((cs.drop (i*P.cellsOf e)).take S.size)/\S.wf y:=by
   intro e k
   induction k with
   |zero=>
    intro i S n hf _ _;cases S with
    |nil=>exact⟨(),by simp[Rd,Ty.size],trivial⟩
    |_=>cases hf
   |succ k ih=>
    intro i S n hf hc hx;cases S with
    |pair A B=>
     simp only[Du,NJ,NN] at hf;obtain⟨⟨h1,h2⟩,h3⟩:=hf;simp only[Ty.size] at hc;obtain⟨z,hz⟩:=hx i (NM _) (by omega);obtain⟨y1,r1,w1⟩:=sW hok d h1 hz;have e1:(i+1)*P.cellsOf e=i*P.cellsOf e+A.size:=by rw[Nat.succ_mul,h2]
     obtain⟨y2,r2,w2⟩:=ih (i+1) B n h3 (by omega) fun j hj1 hj2=>hx j (by omega) (by omega)
     rw[e1] at r2;rw[h2] at r1 r2;refine⟨(y1,y2),⟨_,_,?_,r1,r2⟩,w1,w2⟩;simp only[Ty.size];rw[List.take_add,List.drop_drop,h2]
    |_=>cases hf
  unfold tyB at h;split at h
  ·rename_i k k' hu;have:k'=k:=by simpa using h
   subst this;obtain⟨n,rfl,_,hw⟩:=DataW.trod_int hu ht;exact⟨n,rfl,hw⟩
  ·rename_i hu;obtain⟨b,rfl,_⟩:=DataW.trod_bool hu ht;exact⟨b,rfl,trivial⟩
  ·rename_i hu;obtain⟨s,rfl,_,hs⟩:=DataW.trod_string hu ht;exact⟨s.data.toList,rfl,by simpa[Ty.wf] using hs⟩
  ·rename_i T' e hu;simp only[NJ,NN] at h;obtain⟨⟨h1,h2⟩,h3⟩:=h;rcases DataW.trod_slice hu ht with⟨rfl,_⟩|⟨a,len,cap,elems,rest,n,_,rfl,_,_,hl,hcm,hlen,hel,_⟩
   ·exact⟨[],⟨none,0,by simp,by simp,fun i x e=>by simp at e⟩,by simp[Ty.wf]⟩
   ·rw[h2] at hel;have each:∀i,i<len->∃y:T'.D,∃ds,w.cells? base (a.add (i*T'.size)) T'.size=some ds/\Rd w ok T' y ds/\T'.wf y:=by
     intro i hi;have:=hel i hi;have hs:elems[i]?=some elems[i]:=by simp[hlen,hi]
     rw[hs] at this;simp only[Option.bind_eq_some_iff] at this;obtain⟨ds,hd1,hd2⟩:=this;obtain⟨y,hy1,hy2⟩:=sW hok d h1 hd2;exact⟨y,ds,hd1,hy1,hy2⟩
    obtain⟨ys,hyl,hys⟩:=x8 (p:=fun i (y:T'.D)=>∃ds,w.cells? base (a.add (i*T'.size)) T'.size=some ds/\Rd w ok T' y ds/\T'.wf y) each;have spot:0<len->a.spot=none/\a.block<w.heap.size:=by
     intro hpos;obtain⟨y,ds,hd,_,_⟩:=each 0 hpos;obtain⟨hdl,hdc⟩:=xz hd;have:0<ds.length:=by omega
     have hv:=hdc 0 ds[0] (by simp[this]);obtain⟨s1,s2⟩:=cell_spot hv;have e0:(a.add (0*T'.size)).add 0=a:=by simp[Addr.add]
     rw[e0] at s1 s2;exact⟨s1,s2⟩
    refine⟨ys,⟨some a,cap,by rw[hyl],by omega,fun i x hi=>?_⟩,by simp only[hyl];omega,fun x hx=>?_⟩
    ·obtain⟨ds,hd1,hd2,_⟩:=hys i x hi;have hil:i<len:=by have:=(NQ.1 hi).1;omega
     obtain⟨s1,s2⟩:=spot (by omega);obtain⟨g,o,s⟩:=a;simp only at s1 s2;subst s1;refine⟨g,o,ds,rfl,hok g s2,s2,hd2,fun j v hj=>?_⟩;have:=(xz hd1).2 j v hj
     rwa [fE,fE] at this
    ·obtain⟨i,hi,rfl⟩:=List.getElem_of_mem hx;obtain⟨_,_,_,hw⟩:=hys i ys[i] (by simp);exact hw
  ·rename_i fs hu;simp only[NJ,NN] at h;obtain⟨h1,h2⟩:=h;obtain⟨xs,n,_,_,hcl,hxl,hx⟩:=DataW.trod_struct hu ht;have:cs=[]:=List.length_eq_zero_iff.1 (by omega);subst this;exact⟨(),rfl,trivial⟩
  ·rename_i A B fs hu;simp only[NJ,NN] at h;obtain⟨h1,h2⟩:=h;obtain⟨xs,n,_,_,hcl,hxl,hx⟩:=DataW.trod_struct hu ht;obtain⟨y,hy,hw⟩:=fields fs.toList 0 (.pair A B) xs n h1 (by simpa using hxl) (by omega) fun i f hi=>hx i f (by simpa using hi)
   rw[Oi,<- h2,<- hcl,List.take_length] at hy;exact⟨y,hy,hw⟩
  ·rename_i A B n e hu;simp only[NJ,NN] at h;obtain⟨h1,h2⟩:=h;obtain⟨xs,m,_,_,hcl,hxl,hx⟩:=DataW.trod_array hu ht;obtain⟨y,hy,hw⟩:=elemz e n 0 (.pair A B) m h1 (by omega) fun j _ hj=>⟨xs[j]'(by omega),by rw[hx j (by omega)];simp⟩
   rw[Nat.zero_mul,Oi,<- h2,<- hcl,List.take_length] at hy;exact⟨y,hy,hw⟩
  ·cases h
end
def Ty.cds:Ty->List CD
 | .int k=>[.int k]
 | .bool=>[.bool]
 | .str=>[.str]
 | .sl t=>[.sl t]
 | .nil=>[]
 | .fn=>[.fn]
 | .pair a b=>a.cds++b.cds
def mE(Ts:List Ty):List SD:=Ts.map fun T=>if T.isAgg then .agg T.cds else match T.cds with|[c]=>.c c|l=>.agg l
def dm:Nat->List SD->List (Nat×SD)
 |_,[]=>[]
 |i,s::r=>(i,s)::dm (i+1) r
def aZ(Ts:List Ty):Shape:=⟨dm 0 (mE Ts),[]⟩
def wfL:(l:List CD)->TL l->Prop
 |[],_=>True
 | .int k::r,x=>(Lit.int k x.1).wf=true/\wfL r x.2
 | .str::r,x=>x.1.length<=maxLen/\wfL r x.2
 | .sl t::r,x=>(Ty.sl t).wf x.1/\wfL r x.2
 |_::r,x=>wfL r x.2
def kQ:(l m:List CD)->TL l->TL m->TL (l++m)
 |[],_,_,y=>y
 |_::l,m,x,y=>(x.1,kQ l m x.2 y)
section
variable{P:Program}{C:Ctx}{γ:Gam}{h:Heap}{w:World}
theorem di:∀{l m:List CD}{x:TL l}{y:TL m},wfL l x->wfL m y->wfL (l++m) (kQ l m x y)
 |[],_,_,_,_,hy=>hy
 | .int k::l,m,x,y,hx,hy=>⟨hx.1,di hx.2 hy⟩
 | .str::l,m,x,y,hx,hy=>⟨hx.1,di hx.2 hy⟩
 | .sl t::l,m,x,y,hx,hy=>⟨hx.1,di hx.2 hy⟩
 | .bool::l,m,x,y,hx,hy=>di (l:=l) hx hy
 | .row _ _::l,m,x,y,hx,hy=>di (l:=l) hx hy
 | .ptr _ _::l,m,x,y,hx,hy=>di (l:=l) hx hy
 | .clr _ _::l,m,x,y,hx,hy=>di (l:=l) hx hy
 | .slc _::l,m,x,y,hx,hy=>di (l:=l) hx hy
 | .raw _::l,m,x,y,hx,hy=>di (l:=l) hx hy
 | .err::l,m,x,y,hx,hy=>di (l:=l) hx hy
 | .ifo _ _::l,m,x,y,hx,hy=>di (l:=l) hx hy
 | .any::l,m,x,y,hx,hy=>di (l:=l) hx hy
 | .fn::l,m,x,y,hx,hy=>di (l:=l) hx hy
 | .pp _::l,m,x,y,hx,hy=>di (l:=l) hx hy
theorem wZ{nm:Nm}:∀{l m:List CD}{x:TL l}{y:TL m}{k:Nat},(∀c∈l,c.isRow=false)->(mkL nm (l++m) (kQ l m x y) k).1=(mkL nm l x k).1++(mkL nm m y k).1/\(mkL nm (l++m) (kQ l m x y) k).2.1=(mkL nm l x k).2.1++(mkL nm m y k).2.1
 |[],_,_,_,_,_=>⟨rfl,rfl⟩
 |c::l,m,x,y,k,hr=>by
  have hc:(c.mk nm x.1 k).2.2=k:=by
   have:=hr c (by simp);cases c<;>first|rfl|cases this
  have ih:=wZ (nm:=nm) (l:=l) (m:=m) (x:=x.2) (y:=y) (k:=k) fun c hc=>hr c (by simp[hc])
  simp only[List.cons_append,mkL,kQ,hc,ih.1,ih.2];exact⟨trivial,by rw[NV]⟩
theorem Ty.cds_row:∀(T:Ty),∀c∈T.cds,c.isRow=false
 | .int _,c,h=>by simp[Ty.cds] at h;rw[h];rfl
 | .bool,c,h=>by simp[Ty.cds] at h;rw[h];rfl
 | .str,c,h=>by simp[Ty.cds] at h;rw[h];rfl
 | .sl _,c,h=>by simp[Ty.cds] at h;rw[h];rfl
 | .nil,c,h=>by simp[Ty.cds] at h
 | .fn,c,h=>by simp[Ty.cds] at h;rw[h];rfl
 | .pair a b,c,h=>by
  simp only[Ty.cds,NT] at h;exact h.elim (Ty.cds_row a c) (Ty.cds_row b c)
theorem yf{nm:Nm}:∀{l:List CD}{x:TL l}{k:Nat},(∀c∈l,c.isRow=false)->(mkL nm l x k).2.1=[]
 |[],_,_,_=>rfl
 |c::l,x,k,hr=>by
  simp only[mkL];rw[yf fun c hc=>hr c (by simp[hc])];have:=hr c (by simp);cases c<;>first|rfl|cases this
theorem Er{nm:Nm}:∀{T:Ty}{y:T.D}{cs:List Value},Rd w (okb C γ h none) T y cs->T.wf y->∃x:TL T.cds,wfL T.cds x/\∀k,ai (au C γ h w) (mkL nm T.cds x k).1 cs
 | .int k,y,cs,hr,hw=>⟨(y,()),⟨hw,trivial⟩,fun m=>by rw[show cs=_ from hr];exact⟨rfl,trivial⟩⟩
 | .bool,y,cs,hr,hw=>⟨(y,()),trivial,fun m=>by rw[show cs=_ from hr];exact⟨rfl,trivial⟩⟩
 | .str,y,cs,hr,hw=>⟨(y,()),⟨hw,trivial⟩,fun m=>by rw[show cs=_ from hr];exact⟨rfl,trivial⟩⟩
 | .sl t,y,cs,hr,hw=>by
  refine⟨(y,()),⟨hw,trivial⟩,fun m=>?_⟩;obtain⟨A,c,hcs,hrest⟩:=hr;subst hcs;exact⟨⟨rfl,RdS.iff.2 ⟨A,c,rfl,hrest⟩⟩,trivial⟩
 | .nil,y,cs,hr,hw=>⟨(),trivial,fun m=>by rw[show cs=_ from hr];trivial⟩
 | .fn,y,cs,hr,hw=>by
  obtain⟨gs,rfl,ha⟩:=hr;exact⟨(y,()),trivial,fun m=>⟨⟨rfl,gs,rfl,ha⟩,trivial⟩⟩
 | .pair a b,y,cs,hr,hw=>by
  obtain⟨c1,c2,rfl,h1,h2⟩:=hr;obtain⟨x1,w1,r1⟩:=Er h1 hw.1;obtain⟨x2,w2,r2⟩:=Er h2 hw.2;refine⟨kQ _ _ x1 x2,di w1 w2,fun m=>?_⟩;show ai _ (mkL nm (a.cds++b.cds) (kQ a.cds b.cds x1 x2) m).1 _;rw[(wZ (Ty.cds_row a)).1];exact(r1 m).append (r2 m)
theorem qw:∀(Ts:List Ty) (i:Nat),((dm i (mE Ts)).flatMap fun p=>p.2.cds)=Ts.flatMap Ty.cds
 |[],_=>rfl
 |T::r,i=>by
  have:=qw r (i+1);simp only[mE,NY,dm,Oc] at this⊢;rw[this];congr 1;split;·rfl
  ·split
   ·rename_i hc;rw[hc];rfl
   ·rfl
theorem jb(Ts:List Ty):(aZ Ts).all=Ts.flatMap Ty.cds:=by
 unfold Shape.all aZ;rw[qw];simp
theorem qx:∀(l:List SD) (i:Nat),(dm i l).length=l.length
 |[],_=>rfl
 |_::l,i=>by simp[dm,qx l]
def top(w:World)(L:World->Prop):Ctx:={ w0:=w,own:=fun g=>w.heap.size<=g,rd:=fun _=>True,L:=L }
theorem Db{L:World->Prop}(hL:L w)(hst:∀a b:World,L a->(∀g,g<w.heap.size->b.heap[g]?=a.heap[g]?)->L b):Inv (top w L) (fun _=>none) (Heap.ofList []) w where
 box:=fun k e hk=>by cases hk
 inj:=fun k k' e e' g c c' hk=>by cases hk
 own:=fun k e g c hk=>by cases hk
 frame:=fun _ _ _=>rfl
 size:=NM _
 os:=rfl
 tape:=rfl
 output:=rfl
 new:=fun _ h=>h
 rd:=fun _ _=>trivial
 laid:=hL
 stable:=fun a b ha hb=>hst a b ha fun g hg=>hb g (by show ¬w.heap.size<=g;omega)
 lent:=fun i hi=>absurd hi (Nat.not_lt_zero i)
theorem JC{t:TypeId}{T:Ty}{d:Nat}{r:Reach}{base:Nat}{v:Value}(h:tyB P d t T=true)(hv:Value.okWide P w r base t v):if T.isAgg then ∃us:List Value,v=.agg us.toArray else v.cells.toList=[v]:=by
 cases d with
 |zero=>cases h
 |succ d=>
  unfold tyB at h;split at h;·rename_i hu;simp only[Ty.isAgg,Bool.false_eq_true,if_false];unfold Value.okWide at hv;rw[hu] at hv;simp only at hv;unfold Cell.okWide Cell.ok at hv;rw[hu] at hv;cases v<;>first|rfl|simp at hv
  ·rename_i hu;obtain⟨b,rfl⟩:=WideShapes.okWide_bool hu hv;simp[Ty.isAgg,Value.cells]
  ·rename_i hu;simp only[Ty.isAgg,Bool.false_eq_true,if_false];unfold Value.okWide at hv;rw[hu] at hv;simp only at hv;unfold Cell.okWide Cell.ok at hv;rw[hu] at hv;cases v<;>first|rfl|simp at hv
  ·rename_i hu;obtain⟨a,l,c,rfl⟩:=WideShapes.okWide_slice hu hv;simp[Ty.isAgg,Value.cells]
  ·rename_i hu;obtain⟨cs,rfl,_⟩:=WideShapes.okWide_struct hu hv;exact⟨cs.toList,by simp⟩
  ·rename_i hu;obtain⟨cs,rfl,_⟩:=WideShapes.okWide_struct hu hv;exact⟨cs.toList,by simp⟩
  ·rename_i hu;simp only[Value.okWide,hu] at hv;obtain⟨cs,rfl,_⟩:=hv;exact⟨cs.toList,by simp⟩
  ·cases h
theorem BV{H:Type}{enc:TypeId×Value->H}{base:Nat}{sp:Nat->Bool}{held:Bool}{nm:Nm}{r:Reach}{b0:Nat}(hok:∀g,g<w.heap.size->okb C γ h none g){vals:Array Value}:∀{ts:List TypeId}{Ts:List Ty}{vs:List Value}{ds:List (DataW H)}{p:List MemPlace} (i:Nat),
  DataW.TrodAll enc P w base sp held ts vs ds p->ai (fun t T=>tyB P 20 t T=true) ts Ts->(∀(j:Nat) t v,ts[j]?=some t->vs[j]?=some v->Value.okWide P w r b0 t v)->(∀(j:Nat) v,vs[j]?=some v->vals.getD (i+j) undef=v) ->
  ∃x:TL (Ts.flatMap Ty.cds),wfL _ x/\(∀k,ai (au C γ h w) (mkL nm (Ts.flatMap Ty.cds) x k).1 (bq vals (dm i (mE Ts))))/\dY vals (dm i (mE Ts))
 |[],[],[],[],_,i,_,_,_,_=>⟨(),trivial,fun k=>trivial,fun j ds hm=>by simp[dm,mE] at hm⟩
 |t::ts,T::Ts,v::vs,d::ds,p,i,hA,hT,hv,hvals=>by
  obtain⟨p1,q1,⟨fuel,ht⟩,hrest,_⟩:=hA;obtain⟨x2,w2,r2,s2⟩:=BV hok (i+1) hrest hT.2 (fun j t v h1 h2=>hv (j+1) t v (by simpa using h1) (by simpa using h2)) (fun j v hj=>by have:=hvals (j+1) v (by simpa using hj);rwa [show i+1+j=i+(j+1) by omega]);obtain⟨y,hy,hyw⟩:=sW hok 20 hT.1 ht;obtain⟨x1,w1,r1⟩:=Er (C:=C) (γ:=γ) (h:=h) (nm:=nm) hy hyw;have hvi:vals.getD i undef=v:=hvals 0 v rfl;have form:=JC hT.1 (hv 0 t v rfl rfl);refine⟨kQ T.cds (Ts.flatMap Ty.cds) x1 x2,di w1 w2,fun k=>?_,?_⟩
  ·show ai _ (mkL nm (T.cds++Ts.flatMap Ty.cds) (kQ T.cds (Ts.flatMap Ty.cds) x1 x2) k).1 _;rw[(wZ (Ty.cds_row T)).1];simp only[mE,NY,dm];by_cases ha:T.isAgg=true
   ·rw[if_pos ha];simp only[bq,hvi];exact(r1 k).append (r2 k)
   ·rw[if_neg ha];rw[if_neg ha] at form;have r1k:=r1 k;rw[form] at r1k;cases T with
    |int k'=>simp only[Ty.cds,bq,hvi];exact r1k.append (r2 k)
    |bool=>simp only[Ty.cds,bq,hvi];exact r1k.append (r2 k)
    |str=>simp only[Ty.cds,bq,hvi];exact r1k.append (r2 k)
    |sl t'=>simp only[Ty.cds,bq,hvi];exact r1k.append (r2 k)
    |nil=>exact absurd rfl ha
    |fn=>simp only[Ty.cds,bq,hvi];exact r1k.append (r2 k)
    |pair a b=>exact absurd rfl ha
  ·intro j ds hm;simp only[mE,NY,dm,NS,NG] at hm;rcases hm with⟨rfl,hm⟩|hm
   ·by_cases ha:T.isAgg=true
    ·rw[if_pos ha] at hm form;subst hm;obtain⟨us,rfl⟩:=form;refine⟨us,hvi,?_⟩;have:=(r1 0).length;rw[(dW _ _ _ _).2.2] at this;simpa[Value.cells] using this.symm
    ·rw[if_neg ha] at hm;subst hm;cases T<;>first|exact trivial|exact absurd rfl ha
   ·exact s2 j ds hm
 |[],[],[],_::_,_,_,hA,_,_,_=>hA.elim
 |[],[],_::_,_,_,_,hA,_,_,_=>by cases hA
 |[],_::_,_,_,_,_,_,hT,_,_=>hT.elim
 |_::_,[],_,_,_,_,_,hT,_,_=>hT.elim
 |_::_,_::_,[],_,_,_,hA,_,_,_=>by cases hA
 |_::_,_::_,_::_,[],_,_,hA,_,_,_=>by cases hA
theorem law_calls{H:Type}{enc:TypeId×Value->H}{base:Nat}{sp:Nat->Bool}{held:Bool}{r:Reach}{b0:Nat}{L:World->Prop}{f:FuncId}{Ts:List Ty}{g:(aZ Ts).T->Option (ax [CD.bool]).T}(hs:Sat P L f ⟨aZ Ts,ax [.bool],g⟩)
  (hg:∀x:(aZ Ts).T,wfL (aZ Ts).all x->g x=some (true,())) (hL:L w) (hst:∀a b:World,L a->(∀g,g<w.heap.size->b.heap[g]?=a.heap[g]?)->L b)
  {ts:List TypeId} {args:Array Value} {ds:List (DataW H)} {p:List MemPlace} (hA:DataW.TrodAll enc P w base sp held ts args.toList ds p) (hT:ai (fun t T=>tyB P 20 t T=true) ts Ts) (hv:∀(j:Nat) t v,ts[j]?=some t->args[j]?=some v->Value.okWide P w r b0 t v) :
  Calls P f args w fun e w'=>e=.returned (.bool true)/\Below w.heap.size w w':=by
 have I:=Db (w:=w) hL hst;obtain⟨x',hw',hr,hok⟩:=BV (C:=top w L) (γ:=fun _=>none) (h:=Heap.ofList []) (nm:=nmJ) (vals:=args) (r:=r) (b0:=b0) (fun g _=>⟨trivial,fun k e c hk=>by cases hk⟩) 0 hA hT (fun j t v h1 h2=>hv j t v h1 (by rw[<- OL];exact h2)) (fun j v hj=>by
  rw[Nat.zero_add,Array.getD_eq_getD_getElem?,<- OL,hj];rfl)
 have eqT:TL (Ts.flatMap Ty.cds)=(aZ Ts).T:=by show _=TL (aZ Ts).all;rw[jb]
 have castmk:∀(l:List CD) (e:l=Ts.flatMap Ty.cds) (h:TL (Ts.flatMap Ty.cds)=TL l) (k:Nat),mkL nmJ l (cast h x') k=mkL nmJ (Ts.flatMap Ty.cds) x' k:=by
  intro l e h k;subst e;rfl
 have castwf:∀(l:List CD) (e:l=Ts.flatMap Ty.cds) (h:TL (Ts.flatMap Ty.cds)=TL l),wfL l (cast h x'):=by
  intro l e h;subst e;exact hw'
 have hx:=hg (cast eqT x') (castwf _ (jb Ts) eqT);have hlen:ai (fun t T=>tyB P 20 t T=true) ts Ts->ts.length=Ts.length:=fun h=>h.length
 have hla:∀{ts:List TypeId}{vs:List Value}{ds:List (DataW H)}{p:List MemPlace},DataW.TrodAll enc P w base sp held ts vs ds p->vs.length=ts.length:=by
  intro ts
  induction ts with
  |nil=>intro vs ds p h;cases vs with
   |nil=>rfl
   |cons _ _=>cases h
  |cons t ts ih=>intro vs ds p h;cases vs with
   |nil=>cases h
   |cons v vs=>cases ds with
    |nil=>cases h
    |cons d ds=>obtain⟨_,_,_,hr,_⟩:=h;simp[ih hr]
 have hsz:args.size=(aZ Ts).slots.length:=by
  have h1:=hla hA;have h2:=hlen hT;simp only[Array.length_toList] at h1;show _=(dm 0 (mE Ts)).length;rw[qx,mE,Oy];omega
 have hrows:(mkL nmJ (aZ Ts).all (cast eqT x') (aZ Ts).boxes.length).2.1=[]:=by
  rw[castmk _ (jb Ts) eqT];exact yf fun c hc=>by
   obtain⟨T,_,hc⟩:=List.mem_flatMap.1 hc;exact Ty.cds_row T c hc
 have hh:((aZ Ts).mk' nmJ (aZ Ts).slots.length (cast eqT x')).h=Heap.ofList []:=by
  have:((aZ Ts).mk' nmJ (aZ Ts).slots.length (cast eqT x')).h=Heap.ofList ([]++(mkL nmJ (aZ Ts).all (cast eqT x') (aZ Ts).boxes.length).2.1):=rfl;rw[this,hrows];rfl
 obtain⟨h1,h2,_⟩:=bY (C:=top w L) (γ:=fun _=>none) (h:=Heap.ofList []) (w:=w) (vals:=args) (sl:=(aZ Ts).slots) (l:=List.replicate (aZ Ts).slots.length V.dead) (rest:=[]) hok (fun i v hi=>by
   rw[List.getElem?_replicate] at hi;split at hi;·simp only[NC] at hi;subst hi;trivial
   ·cases hi) (by rw[OI];exact hr (aZ Ts).boxes.length)
 have R:Rel (top w L) (fun _=>none) (top w L).w0 ((aZ Ts).mk' nmJ (aZ Ts).slots.length (cast eqT x')) args:=by
  refine⟨?_,?_,?_⟩;·show args.size=(az _ _ _).1.length;rw[cO,Ox,hsz]
  ·rw[hh];intro i v hi;refine h2 i v ?_;rw[<- castmk _ (jb Ts) eqT];exact hi
  ·rw[hh];exact I
 refine(hs (cast eqT x') (true,()) hx (top w L) (fun _=>none) args rfl rfl R).mono fun e w' ⟨γ',rs,he,R'⟩=>?_
 have hb:rs=#[.bool true]:=by
  have h0:=R'.slot 0 (.v (.c (.bool true))) rfl;have hsz':rs.size=1:=R'.size;have h0:rs.getD 0 undef=.bool true:=h0
  match rs,hsz',h0 with
  |⟨[v]⟩,_,h0=>simp at h0;rw[h0]
 subst hb;refine⟨he,R'.inv.os,R'.inv.tape,R'.inv.output,R'.inv.size,fun k hk=>R'.inv.frame k hk (by show ¬w.heap.size<=k;omega)⟩
end
end Rv
namespace Rv
open Go Go.RowKit Go.ChangeShapes Go.WideShapes
section
variable{H:Type}{enc:TypeId×Value->H}{P:Program}
theorem tJ{w:World}:∀{l:List (String×DataW Unit)}{ps:List MemPlace},DataW.LaidVars P w l ps->∀n d,(n,d)∈l ->
  ∃g t cs fuel p,P.globalNamed n=some g/\(P.globals[g]?).map (·.type)=some t/\w.var? P n=some cs/\DataW.trod (fun _=>()) P w 0 (fun _=>true) false fuel t cs.toList=some (d,p)
 |[],_,_,n,d,hm=>by cases hm
 |(n',d')::l,ps,h,n,d,hm=>by
  obtain⟨g,t,cs,fuel,p,q,h1,h2,h3,h4,h5,_⟩:=h;rcases NS.1 hm with e|hm;·cases e;exact⟨g,t,cs,fuel,p,h1,h2,h3,h4⟩
  ·exact tJ h5 n d hm
theorem wX{w:World}{l:List (String×DataW Unit)}(h:laidMetH P l w){n:String}{d:DataW Unit}(hm:(n,d)∈l.filter fun x=>x.2.handleName?.isNone) :
  ∃g t cs fuel p,P.globalNamed n=some g/\(P.globals[g]?).map (·.type)=some t/\w.var? P n=some cs/\DataW.trod (fun _=>()) P w 0 (fun _=>true) false fuel t cs.toList=some (d,p):=by
 have hl:laidMet P (l.filter fun x=>x.2.handleName?.isNone) w:=by
  unfold laidMetH at h;split at h
  ·rename_i hf;have:l.filter (fun x=>x.2.handleName?.isNone)=l:=by
    rw[List.filter_eq_self];intro a ha;have:=List.filter_eq_nil_iff.1 hf a ha;cases hh:a.2.handleName? with
    |none=>rfl
    |some _=>rw[hh] at this;simp at this
   rw[this];exact h
  ·exact h.1
 obtain⟨ps,hv,_⟩:=hl;exact tJ hv n d hm
theorem laid_tab{w:World}{l:List (String×DataW Unit)}(h:laidMetH P l w){n:String}{k:IntKind}{zs:List Int}(hm:(n,Lib.tabData k zs)∈l.filter fun x=>x.2.handleName?.isNone)
  {g:Nat} {t e:TypeId} {m:Nat} (hg:P.globalNamed n=some g) (hty:(P.globals[g]?).map (·.type)=some t) (ht:P.underlying t=some (.array m e)) (he:P.underlying e=some (.int k)) (hce:P.cellsOf e=1) (hct:P.cellsOf t=m):Lib.TabIs P w n k zs:=by
 obtain⟨g',t',cs,fuel,p,hg',ht',hvar,hd⟩:=wX h hm;obtain rfl:=NE (hg.symm.trans hg');obtain rfl:=NE (hty.symm.trans ht');unfold Lib.TabIs;rw[hvar,<- Lib.cells_of_tab ht he hce hct hd]
theorem laid_iface{w:World}{l:List (String×DataW Unit)}(h:laidMetH P l w){n ty:String}{x:DataW Unit}(hm:(n,DataW.iface ty x)∈l.filter fun x=>x.2.handleName?.isNone)
  {g:Nat} {t:TypeId} {ms} (hg:P.globalNamed n=some g) (hty:(P.globals[g]?).map (·.type)=some t) (ht:P.underlying t=some (.interface ms)):∃te pe,w.cell? ⟨g,0,none⟩=some (.iface te pe):=by
 obtain⟨g',t',cs,fuel,p,hg',ht',hvar,hd⟩:=wX h hm;obtain rfl:=NE (hg.symm.trans hg');obtain rfl:=NE (hty.symm.trans ht');cases fuel with
 |zero=>simp[DataW.trod] at hd
 |succ fuel=>
  unfold DataW.trod at hd;rw[ht] at hd;have hc:∃u v,cs.toList=[.iface u v]:=by
   split at hd<;>first|(simp_all;done)|exact⟨_,_,by assumption⟩|(cases hd;done)|skip
  obtain⟨u,v,hc⟩:=hc;refine⟨u,v,?_⟩;have:=World.var?_cell hg hvar 0;rw[Array.eq_one_of_toList hc] at this;simpa using this
theorem qb(hl:laidOutB P=true){W W':World}:∀{ts:List TypeId}{vs:List Value}{ds:List (DataW H)}{p:List MemPlace},DataW.TrodAll enc P W 0 (fun _=>true) true ts vs ds p->(∀t∈ts,P.readableRec t=true/\t<P.types.size) ->
  Below W.heap.size W W'->DataW.TrodAll enc P W' 0 (fun b=>decide (b<W.heap.size)) true ts vs ds p
 |[],[],[],p,h,_,_=>h
 |t::ts,v::vs,d::ds,p,h,hr,hb=>by
  obtain⟨p1,q1,ht,hrest,hp⟩:=h;refine⟨p1,q1,?_,qb hl hrest (fun t ht=>hr t (by simp[ht])) hb,hp⟩;obtain⟨h1,h2⟩:=hr t (by simp);refine Below.trod hl h1 h2 ht hb ?_;obtain⟨n,hn⟩:=ht;exact DataW.trod_lt n _ _ _ hn
 |[],[],_::_,_,h,_,_=>h.elim
 |[],_::_,_,_,h,_,_=>by cases h
 |_::_,[],_,_,h,_,_=>by cases h
 |_::_,_::_,[],_,h,_,_=>by cases h
theorem law_lifted{C:Checked}{os:Os}{f:FuncId}{fn:Func}{s:ChangeSpec}{laid:List (String×DataW Unit)}(own:ownKnob C.prog.godebug=none)(started:os.Started)(noInit:C.prog.inits.idxOf? f=none)(hfn:C.prog.funcs[f]?=some fn)
  (hlo:laidOutB C.prog=true) (hread:∀t∈fn.params.toList,C.prog.readableRec t=true/\t<C.prog.types.size) {bT:TypeId} (hres:fn.resultTypes=#[bT]) (hbT:C.prog.underlying bT=some .bool)
  (hvars:s.vars=[]) (hspec:∀ds:List (DataW H),ds.length=fn.params.toList.length->s.fn H (ds++[])={ results:=[.lit (.bool true)],args:=ds })
  (witness:∃(w:World) (tape:Tape) (i:Input),w.os=os/\(w.forCall tape i).Shaped C.prog/\i.vars=[]/\Input.okWide C.prog (w.forCall tape i) .any w.heap.size f i /\
   ((s.pre enc C.prog fn [] false (w.forCall tape i).memory i.args/\laidMetH C.prog laid (w.forCall tape i).memory)/\sizedMet enc C.prog fn (OpenSpec.ofChange s) false (w.forCall tape i).memory i.args)/\({}:Assume).holds C.prog (lone (Frame.enter C.prog f i.args .normal) [] (w.forCall tape i)))
  (hcall:∀(W:World) (base:Nat) (args:Array Value) (ds:List (DataW H)) (p:List MemPlace),(∀(j:Nat) t v,fn.params.toList[j]?=some t->args[j]?=some v->Value.okWide C.prog W .any base t v) ->
   DataW.TrodAll enc C.prog W 0 (fun _=>true) true fn.params.toList args.toList ds p->(DataW.weightsEach C.prog fn.params.toList ds).all (·<=reachBytes)=true->laidMetH C.prog laid W->W.ShapedOpen C.prog ->
   Calls C.prog f args W fun e w'=>e=.returned (.bool true)/\Below W.heap.size W w') :
  ReturnsInHanded {} C os f .any (fun w args=>(s.pre enc C.prog fn [] false w args/\laidMetH C.prog laid w)/\sizedMet enc C.prog fn (OpenSpec.ofChange s) false w args) (s.post enc C.prog fn false true false false):=by
 refine returnsInHanded_of_calls own started noInit witness ?_;intro w tape i _ hsh _ hok hpre hholds;obtain⟨_,_,_,fn',hfn',_,_,_,_,hval⟩:=hok;have e:fn'=fn:=NE (hfn'.symm.trans hfn);subst e;obtain⟨⟨⟨ds,gs,before,hw,_⟩,hx⟩,hz⟩:=hpre;have hw':=DataW.Whole.of_heap (w':=w.forCall tape i) (by rfl) hw;have hx':laidMetH C.prog laid (w.forCall tape i):=laidMetH.of_heap (w:=(w.forCall tape i).memory) (by rfl) hx;have hz':=hz.weights hw;obtain⟨p,q,hA,hV,hbef,hfz,hnd⟩:=hw';rw[hvars] at hV;obtain⟨rfl,rfl⟩:=trodVars_none hV;have hlen:ds.length=fn'.params.toList.length:=by
  have:∀{ts:List TypeId}{vs:List Value}{ds:List (DataW H)}{p:List MemPlace},DataW.TrodAll enc C.prog (w.forCall tape i) 0 (fun _=>true) true ts vs ds p->ds.length=ts.length:=by
   intro ts
   induction ts with
   |nil=>intro vs ds p h;cases vs with
    |nil=>cases ds with
     |nil=>rfl
     |cons _ _=>exact h.elim
    |cons _ _=>cases h
   |cons t ts ih=>intro vs ds p h;cases vs with
    |nil=>cases h
    |cons v vs=>cases ds with
     |nil=>cases h
     |cons d ds=>obtain⟨_,_,_,hr,_⟩:=h;simp[ih hr]
  exact this hA
 have hwt:(DataW.weightsEach C.prog fn'.params.toList ds).all (·<=reachBytes)=true:=by
  have hvt:(OpenSpec.ofChange s).bare.plain.varTypes C.prog=[]:=by simp[OpenSpec.ofChange,OpenSpec.bare,ChangeSpec.plain,DataSpec.varTypes,hvars]
  rw[hvt,OI,OI] at hz';exact hz'
 refine(hcall (w.forCall tape i) w.heap.size i.args ds p (fun j t v h1 h2=>hval j t v (by rw[<- OL];exact h1) h2) hA hwt hx' hsh).mono fun e W' ⟨he,bel⟩=>?_
 subst he;refine ChangeSpec.post_blind ?_;have hs:=hspec ds hlen;refine⟨ds,[],before,[],p,[],⟨p,[],hA,by rw[hvars];exact rfl,hbef,hfz,hnd⟩,?_,?_,?_,bel.frame _,fun h=>by cases h⟩
 ·rw[hs,hres];exact trodAll_mk1 (shut_bool hbT _)
 ·rw[hs];exact qb hlo hA hread bel
 ·rw[hs,hvars];rfl
end
end Rv
namespace Rv
open Go Go.RowKit Go.WideShapes
def kJ:List (Str×Int)->Str->Int×Bool
 |[],_=>(0,false)
 |x::r,s=>if s=x.1 then(x.2,true) else kJ r s
def yZ(k:IntKind)(F:Str->Int×Bool)(es:Array MapEntry):Prop:=
 ∀s:Str,(Instr.findNow .string (.string (mkS s)) es.toList 0=some none/\F s=(0,false))\/∃j n,Instr.findNow .string (.string (mkS s)) es.toList 0=some (some (j,.int k n))/\F s=(n,true)
def lh(w:World)(g ad:Nat)(k:IntKind)(F:Str->Int×Bool):Prop:=
 w.cell? ⟨g,0,none⟩=some (.map (some ad))/\∃es clock,w.heap[ad]?=some (.map es clock)/\yZ k F es
theorem KG{w a b:World}{g ad:Nat}{k:IntKind}{F:Str->Int×Bool}(h:lh w g ad k F)(ha:lh a g ad k F)(hb:∀g,g<w.heap.size->b.heap[g]?=a.heap[g]?):lh b g ad k F:=by
 obtain⟨h1,es,clock,h2,_⟩:=h;obtain⟨a1,es',clock',a2,a3⟩:=ha;refine⟨keepCell h1 a1 hb,es',clock',?_,a3⟩;rw[hb ad (Array.getElem?_eq_some_iff.1 h2).1];exact a2
section
variable{P:Program}
theorem BA{w:World}{g ad:Nat}{k:IntKind}{F:Str->Int×Bool}{T kt et:TypeId}(hT:P.underlying T=some (.map kt et))(h:lh w g ad k F):(Instr.loadAt T (.pointer (some ⟨g,0,none⟩))).run P w=.ok (.map (some ad)) w:=by
 have hl:(load ⟨g,0,none⟩).run P w=.ok (.map (some ad)) w:=by rw[run_load,h.1]
 have ha:(isAgg T).run P w=.ok false w:=by simp only[isAgg,NP,run_underlying hT,NF];rfl
 simp only[Instr.loadAt,Instr.sureAddr,loadVar,NP,NW,NF,ha,Bool.false_eq_true,if_false];exact hl
theorem BC{w:World}{g ad:Nat}{k:IntKind}{F:Str->Int×Bool}{T kt et:TypeId}(hT:P.underlying T=some (.map kt et))(hk:P.underlying kt=some .string)(hz:(P.info? et).bind (·.zero)=some (.int k 0))(h:lh w g ad k F)(s:Str)(ok:Bool) :
  (Instr.lookup T (.map (some ad)) (.string (mkS s)) ok).run P w=.ok (if ok=true then .tuple #[.int k (F s).1,.bool (F s).2] else .int k (F s).1) w:=by
 obtain⟨h1,es,clock,h2,h3⟩:=h;have hz':(zeroValue et).run P w=.ok (.int k 0) w:=by
  cases hi:P.info? et with
  |none=>rw[hi] at hz;cases hz
  |some inf=>
   rw[hi,ND] at hz;simp[zeroValue,typeInfo,hi,hz]
 have hik:MapKept.IsKey .string (.string (mkS s)):=trivial;rcases h3 s with⟨hf,hF⟩|⟨j,n,hf,hF⟩;·rw[hF];simp[Instr.lookup,run_underlying hT,MapKept.run_getObj_map h2,MapKept.run_checkKey hk hik,MapKept.run_findKey hk hf,hz',Result.andThen]
 ·rw[hF];simp[Instr.lookup,run_underlying hT,MapKept.run_getObj_map h2,MapKept.run_checkKey hk hik,MapKept.run_findKey hk hf,Result.andThen]
theorem vQ:∀{l:List (Str×Int)}{s:Str},(∀x∈l,x.1≠s)->kJ l s=(0,false)
 |[],_,_=>rfl
 |x::l,s,h=>by
  unfold kJ;rw[if_neg (fun e=>h x (by simp) e.symm)];exact vQ fun y hy=>h y (by simp[hy])
theorem xV:∀{l:List (Str×Int)}{x:Str×Int},(l.map (·.1)).Nodup->x∈l->kJ l x.1=(x.2,true)
 |[],_,_,h=>by cases h
 |y::l,x,hn,h=>by
  unfold kJ;simp only[NY,List.nodup_cons] at hn;rcases NS.1 h with rfl|h;·rw[if_pos rfl]
  ·have hne:x.1≠y.1:=fun e=>hn.1 (e ▸ List.mem_map_of_mem h)
   rw[if_neg hne];exact xV hn.2 h
def zX(k:IntKind)(l:List (Str×Int)):List (Lit×DataW Unit):=l.map fun x=>(.string x.1,.lit (.int k x.2))
theorem Bz{w:World}{base fuel:Nat}{sp:Nat->Bool}{held:Bool}{T kt et:TypeId}{k:IntKind}{l:List (Str×Int)}{c:Value}{p:List MemPlace}(hT:P.underlying T=some (.map kt et))(hk:P.underlying kt=some .string)(he:P.underlying et=some (.int k))
  (hn:(l.map (·.1)).Nodup) (h:DataW.trod (fun _=>()) P w base sp held (fuel+1) T [c]=some (.map (zX k l),p)) :
  ∃ad es clock,c=.map (some ad)/\w.heap[ad]?=some (.map es clock)/\yZ k (kJ l) es:=by
 unfold DataW.trod at h;rw[hT] at h;cases c with
 |map r=>
  cases r with
  |none=>simp at h
  |some ad=>
   simp only at h;split at h
   case h_2=>cases h
   rename_i es clock hb;refine⟨ad,es,clock,rfl,hb,?_⟩;split at h
   case isFalse=>cases h
   obtain⟨entries,hm,h⟩:=Option.bind_eq_some_iff.1 h;split at h
   case isFalse=>cases h
   simp only[NC,NG,DataW.map.injEq] at h;have hperm:=sorted_perm (entries.map (·.1));rw[h.1] at hperm;have hx:∀(x:MapEntry) (q:(Lit×DataW Unit)×List MemPlace),((keyOf P kt x.key).bind fun key=>if x.val.formed P et then(DataW.trod (fun _=>()) P w base sp held fuel et x.val.cells.toList).map fun y=>((key,y.1),y.2) else none)=some q ->
     ∃s:Str,x.key=.string (mkS s)/\q.1.1=.string s/\∀n,q.1.2=.lit (.int k n)->x.val=.int k n:=by
    intro x q hq;obtain⟨key,hkey,hq⟩:=Option.bind_eq_some_iff.1 hq;obtain⟨s,hs1,hs2,_⟩:=WideMaps.string_of_keyOf hk hkey;split at hq
    case isFalse=>cases hq
    rename_i hf;obtain⟨y,hy,rfl⟩:=Option.map_eq_some_iff.1 hq;refine⟨s.data.toList,by rw[hs1];rfl,hs2,fun n hn=>?_⟩;have hyn:y.1=.lit (.int k n):=hn;cases fuel with
    |zero=>simp[DataW.trod] at hy
    |succ fuel=>
     unfold DataW.trod at hy;rw[he] at hy;cases hv:x.val with
     |int k' m=>
      rw[hv] at hy;simp only[Value.cells] at hy;split at hy;·rename_i hc;simp only[NC] at hy;subst hy;cases hyn;rw[hc.1]
      ·cases hy
     |agg cs=>rw[hv] at hf;simp[Value.formed,he] at hf
     |tuple cs=>rw[hv] at hf;simp[Value.formed] at hf
     |_=>rw[hv] at hy;simp[Value.cells] at hy
   have hks:∀x∈es.toList,MapKept.IsKey .string x.key:=fun x hxm=>by
    obtain⟨q,hq⟩:=mapM_each hm x hxm;obtain⟨s,hs,_⟩:=hx x q hq;rw[hs];trivial
   intro s;rcases MapKept.findNow_spec (d:=.string) (k:=.string (mkS s)) trivial es.toList 0 hks with⟨h1,h2⟩|⟨j,e,h1,h2,h3⟩
   ·refine .inl ⟨h1,vQ fun x hxl hxs=>?_⟩;have hmem:((.string x.1,.lit (.int k x.2)):Lit×DataW Unit)∈entries.map (·.1):=hperm.subset (N8.2 ⟨x,hxl,rfl⟩);obtain⟨q,hq,hqe⟩:=N8.1 hmem;obtain⟨m,hmm,hfm⟩:=mapM_mem hm q hq;obtain⟨s',hs1,hs2,_⟩:=hx m q hfm;rw[hqe] at hs2;have:x.1=s':=by simpa using hs2
    exact h2 m hmm (by rw[hs1,<- this,hxs])
   ·obtain⟨q,hq⟩:=mapM_each hm e (List.mem_of_getElem? h2);have hqm:q∈entries:=List.mem_of_getElem? ((mapM_some_get hm j e h2).symm.trans hq);obtain⟨s',hs1,hs2,hs3⟩:=hx e q hq;have hqs:q.1∈zX k l:=hperm.symm.subset (N8.2 ⟨q,hqm,rfl⟩);obtain⟨x,hxl,hxe⟩:=N8.1 hqs;have hs:s'=s:=by
     rw[hs1] at h3;have h4:=congrArg (fun v=>match v with | .string b=>b.data.toList|_=>[]) h3;exact h4
    subst hs;have hxs:x.1=s':=by
     have:=hs2;rw[<- hxe] at this;simpa using this
    refine .inr ⟨0+j,x.2,?_,?_⟩;·rw[h1,hs3 x.2 (by rw[<- hxe])]
    ·rw[<- hxs];exact xV hn hxl
 |_=>simp at h
theorem laid_map{w:World}{l:List (String×DataW Unit)}(h:laidMetH P l w){n:String}{k:IntKind}{r:List (Str×Int)}(hm:(n,DataW.map (zX k r))∈l.filter fun x=>x.2.handleName?.isNone)
  {g:Nat} {T kt et:TypeId} (hg:P.globalNamed n=some g) (hty:(P.globals[g]?).map (·.type)=some T) (hT:P.underlying T=some (.map kt et)) (hk:P.underlying kt=some .string) (he:P.underlying et=some (.int k)) (hn:(r.map (·.1)).Nodup):∃ad,lh w g ad k (kJ r):=by
 obtain⟨g',t',cs,fuel,p,hg',ht',hvar,hd⟩:=wX h hm;obtain rfl:=NE (hg.symm.trans hg');obtain rfl:=NE (hty.symm.trans ht');cases fuel with
 |zero=>simp[DataW.trod] at hd
 |succ fuel=>
  have hc:∃c,cs.toList=[c]:=by
   unfold DataW.trod at hd;rw[hT] at hd;split at hd<;>first|(simp_all;done)|exact⟨_,by assumption⟩|(cases hd;done)|skip
  obtain⟨c,hc⟩:=hc;rw[hc] at hd;obtain⟨ad,es,clock,rfl,h1,h2⟩:=Bz hT hk he hn hd;refine⟨ad,?_,es,clock,h1,h2⟩;have:=World.var?_cell hg hvar 0;rw[Array.eq_one_of_toList hc] at this;simpa using this
end
end Rv
namespace Go.Proofs
open Go.Shelf
def Tryz.lays169_ren:Go.Shelf.Ren:=⟨fun|169=>100|n=>n,fun|70=>148|9=>9|0=>0|72=>150|37=>53|127=>206|3=>3|5=>5|n=>n,fun|n=>n⟩
theorem Tryz.lays169:Go.Proofs.Lays.n169 Tryz.prog Tryz.lays169_ren:={
 mixed:=by kernel_rfl
 f169:=Tryz.func100.trans (congrArg some (by kernel_rfl))
 t0:=Tryz.underlying0
 a0:=Tryz.isAgg0
 z0:=Tryz.sizeOf0
 v0:=Tryz.zeroValue0
 t3:=Tryz.underlying3
 a3:=Tryz.isAgg3
 z3:=Tryz.sizeOf3
 v3:=Tryz.zeroValue3
 t9:=Tryz.underlying9
 a9:=Tryz.isAgg9
 z9:=Tryz.sizeOf9
 v9:=Tryz.zeroValue9
 t37:=Tryz.underlying53
 a37:=Tryz.isAgg53
 z37:=Tryz.sizeOf53
 v37:=Tryz.zeroValue53
 t70:=Tryz.underlying148
 a70:=Tryz.isAgg148
 z70:=Tryz.sizeOf148
 v70:=Tryz.zeroValue148
 t72:=Tryz.underlying150
 a72:=Tryz.isAgg150
 z72:=Tryz.sizeOf150
 v72:=Tryz.zeroValue150
 t127:=Tryz.underlying206
 a127:=Tryz.isAgg206
 z127:=Tryz.sizeOf206
 v127:=Tryz.zeroValue206 }
theorem Tryz.Builder_Extra_169:Builder.Extra Tryz.prog Tryz.lays169_ren:={
 sizeBuilder:=by kernel_rfl
 liesBuilder:=by kernel_rfl
 t5:=Tryz.underlying5
 a5:=Tryz.isAgg5
 z5:=Tryz.sizeOf5
 v5:=Tryz.zeroValue5
 infoByte:=by kernel_rfl
 cellsByte:=by kernel_rfl
 sizeByte:=by kernel_rfl
 neB5:=by decide }
def Tryz.lays241_ren:Go.Shelf.Ren:=⟨fun|241=>155|277=>201|n=>n,fun|70=>148|3=>3|0=>0|72=>150|37=>53|5=>5|n=>n,fun|n=>n⟩
theorem Tryz.lays241:Go.Proofs.Lays.n241 Tryz.prog Tryz.lays241_ren:={
 mixed:=by kernel_rfl
 f241:=Tryz.func155.trans (congrArg some (by kernel_rfl))
 f277:=Tryz.func201.trans (congrArg some (by kernel_rfl))
 t0:=Tryz.underlying0
 a0:=Tryz.isAgg0
 z0:=Tryz.sizeOf0
 v0:=Tryz.zeroValue0
 t3:=Tryz.underlying3
 a3:=Tryz.isAgg3
 z3:=Tryz.sizeOf3
 v3:=Tryz.zeroValue3
 t37:=Tryz.underlying53
 a37:=Tryz.isAgg53
 z37:=Tryz.sizeOf53
 v37:=Tryz.zeroValue53
 t70:=Tryz.underlying148
 a70:=Tryz.isAgg148
 z70:=Tryz.sizeOf148
 v70:=Tryz.zeroValue148
 t72:=Tryz.underlying150
 a72:=Tryz.isAgg150
 z72:=Tryz.sizeOf150
 v72:=Tryz.zeroValue150 }
theorem Tryz.Builder_Extra_241:Builder.Extra Tryz.prog Tryz.lays241_ren:={
 sizeBuilder:=by kernel_rfl
 liesBuilder:=by kernel_rfl
 t5:=Tryz.underlying5
 a5:=Tryz.isAgg5
 z5:=Tryz.sizeOf5
 v5:=Tryz.zeroValue5
 infoByte:=by kernel_rfl
 cellsByte:=by kernel_rfl
 sizeByte:=by kernel_rfl
 neB5:=by decide }
open Go.RowKit in
theorem Tryz.Builder_grow_fresh(B b n:Nat)(w:World)(hB:B<=b)(hbk:w.heap[b]?=some (.cells #[.pointer (some ⟨b,0,none⟩),.slice none 0 0] 150 (0,0)))(hBw:B<=w.heap.size)(hn:n<=281474976710656) :
  Calls Tryz.prog 155 #[.pointer (some ⟨b,0,none⟩),.int .i64 n] w fun e w'=>e=.returned (.tuple #[])/\(Lib.BuilderAt 150 5 B b (.pointer (some ⟨b,0,none⟩)) [] w'/\Below B w w'):=Any.Builder_grow_fresh Tryz.lays241 Tryz.Builder_Extra_241 B b n w hB hbk hBw hn
def Tryz.lays160_ren:Go.Shelf.Ren:=⟨fun|160=>106|232=>157|231=>156|227=>158|234=>160|233=>159|236=>162|235=>161|228=>202|271=>204|151=>203|197=>178|120=>233|152=>232|260=>212|137=>138|119=>260|224=>214|225=>213|217=>184|266=>219|n=>n,fun|9=>9|4=>4|3=>3|5=>5|117=>210|116=>209|0=>0|124=>213|21=>21|105=>224|46=>158|119=>250|139=>270|138=>269|n=>n,fun|3=>2|4=>3|n=>n⟩
theorem Tryz.lays160:Go.Proofs.Lays.n160 Tryz.prog Tryz.lays160_ren:={
 mixed:=by kernel_rfl
 f119:=Tryz.func260.trans (congrArg some (by kernel_rfl))
 f120:=Tryz.func233.trans (congrArg some (by kernel_rfl))
 f137:=Tryz.func138.trans (congrArg some (by kernel_rfl))
 f151:=Tryz.func203.trans (congrArg some (by kernel_rfl))
 f152:=Tryz.func232.trans (congrArg some (by kernel_rfl))
 f160:=Tryz.func106.trans (congrArg some (by kernel_rfl))
 f197:=Tryz.func178.trans (congrArg some (by kernel_rfl))
 f217:=Tryz.func184.trans (congrArg some (by kernel_rfl))
 f224:=Tryz.func214.trans (congrArg some (by kernel_rfl))
 f225:=Tryz.func213.trans (congrArg some (by kernel_rfl))
 f227:=Tryz.func158.trans (congrArg some (by kernel_rfl))
 f228:=Tryz.func202.trans (congrArg some (by kernel_rfl))
 f231:=Tryz.func156.trans (congrArg some (by kernel_rfl))
 f232:=Tryz.func157.trans (congrArg some (by kernel_rfl))
 f233:=Tryz.func159.trans (congrArg some (by kernel_rfl))
 f234:=Tryz.func160.trans (congrArg some (by kernel_rfl))
 f235:=Tryz.func161.trans (congrArg some (by kernel_rfl))
 f236:=Tryz.func162.trans (congrArg some (by kernel_rfl))
 f260:=Tryz.func212.trans (congrArg some (by kernel_rfl))
 f266:=Tryz.func219.trans (congrArg some (by kernel_rfl))
 f271:=Tryz.func204.trans (congrArg some (by kernel_rfl))
 t0:=Tryz.underlying0
 a0:=Tryz.isAgg0
 z0:=Tryz.sizeOf0
 v0:=Tryz.zeroValue0
 t3:=Tryz.underlying3
 a3:=Tryz.isAgg3
 z3:=Tryz.sizeOf3
 v3:=Tryz.zeroValue3
 t4:=Tryz.underlying4
 a4:=Tryz.isAgg4
 z4:=Tryz.sizeOf4
 v4:=Tryz.zeroValue4
 t5:=Tryz.underlying5
 a5:=Tryz.isAgg5
 z5:=Tryz.sizeOf5
 v5:=Tryz.zeroValue5
 t9:=Tryz.underlying9
 a9:=Tryz.isAgg9
 z9:=Tryz.sizeOf9
 v9:=Tryz.zeroValue9
 t21:=Tryz.underlying21
 a21:=Tryz.isAgg21
 z21:=Tryz.sizeOf21
 v21:=Tryz.zeroValue21
 t46:=Tryz.underlying158
 a46:=Tryz.isAgg158
 z46:=Tryz.sizeOf158
 v46:=Tryz.zeroValue158
 t105:=Tryz.underlying224
 a105:=Tryz.isAgg224
 z105:=Tryz.sizeOf224
 v105:=Tryz.zeroValue224
 t116:=Tryz.underlying209
 a116:=Tryz.isAgg209
 z116:=Tryz.sizeOf209
 t117:=Tryz.underlying210
 a117:=Tryz.isAgg210
 z117:=Tryz.sizeOf210
 v117:=Tryz.zeroValue210
 t119:=Tryz.underlying250
 a119:=Tryz.isAgg250
 z119:=Tryz.sizeOf250
 t124:=Tryz.underlying213
 a124:=Tryz.isAgg213
 z124:=Tryz.sizeOf213
 v124:=Tryz.zeroValue213
 t138:=Tryz.underlying269
 a138:=Tryz.isAgg269
 z138:=Tryz.sizeOf269
 v138:=Tryz.zeroValue269
 t139:=Tryz.underlying270
 a139:=Tryz.isAgg270
 z139:=Tryz.sizeOf270
 v139:=Tryz.zeroValue270
 g3:=by kernel_rfl
 g4:=by kernel_rfl }
def Tryz.lays106_ren:Go.Shelf.Ren:=⟨fun|106=>125|213=>171|265=>208|n=>n,fun|9=>9|3=>3|n=>n,fun|n=>n⟩
theorem Tryz.lays106:Go.Proofs.Lays.n106 Tryz.prog Tryz.lays106_ren:={
 mixed:=by kernel_rfl
 f106:=Tryz.func125.trans (congrArg some (by kernel_rfl))
 f213:=Tryz.func171.trans (congrArg some (by kernel_rfl))
 f265:=Tryz.func208.trans (congrArg some (by kernel_rfl))
 t3:=Tryz.underlying3
 a3:=Tryz.isAgg3
 z3:=Tryz.sizeOf3
 v3:=Tryz.zeroValue3
 t9:=Tryz.underlying9
 a9:=Tryz.isAgg9
 z9:=Tryz.sizeOf9
 v9:=Tryz.zeroValue9 }
open Go.RowKit in
theorem Tryz.strings_Compare(a b:ByteArray)(w:World) :
  Calls Tryz.prog 125 #[.string a,.string b] w fun e w'=>e=.returned (.int .i64 (Lib.compareBytes a.data.toList b.data.toList))/\w'=w:=Any.strings_Compare Tryz.lays106 a b w
def Tryz.lays137_ren:Go.Shelf.Ren:=⟨fun|137=>138|217=>184|266=>219|n=>n,fun|9=>9|5=>5|3=>3|n=>n,fun|n=>n⟩
theorem Tryz.lays137:Go.Proofs.Lays.n137 Tryz.prog Tryz.lays137_ren:={
 mixed:=by kernel_rfl
 f137:=Tryz.func138.trans (congrArg some (by kernel_rfl))
 f217:=Tryz.func184.trans (congrArg some (by kernel_rfl))
 f266:=Tryz.func219.trans (congrArg some (by kernel_rfl))
 t3:=Tryz.underlying3
 a3:=Tryz.isAgg3
 z3:=Tryz.sizeOf3
 v3:=Tryz.zeroValue3
 t5:=Tryz.underlying5
 a5:=Tryz.isAgg5
 z5:=Tryz.sizeOf5
 v5:=Tryz.zeroValue5
 t9:=Tryz.underlying9
 a9:=Tryz.isAgg9
 z9:=Tryz.sizeOf9
 v9:=Tryz.zeroValue9 }
open Go.RowKit in
theorem Tryz.strings_IndexByte(s:ByteArray)(c:Int)(w:World) :
  Calls Tryz.prog 138 #[.string s,.int .u8 c] w fun e w'=>e=.returned (.int .i64 (Lib.indexByte s.data.toList c.toNat.toUInt8))/\w'=w:=Any.strings_IndexByte Tryz.lays137 s c w
def Tryz.lays103_ren:Go.Shelf.Ren:=⟨fun|103=>181|210=>216|206=>240|n=>n,fun|9=>9|4=>4|24=>226|3=>3|n=>n,fun|n=>n⟩
theorem Tryz.lays103:Go.Proofs.Lays.n103 Tryz.prog Tryz.lays103_ren:={
 mixed:=by kernel_rfl
 f103:=Tryz.func181.trans (congrArg some (by kernel_rfl))
 f206:=Tryz.func240.trans (congrArg some (by kernel_rfl))
 f210:=Tryz.func216.trans (congrArg some (by kernel_rfl))
 t3:=Tryz.underlying3
 a3:=Tryz.isAgg3
 z3:=Tryz.sizeOf3
 v3:=Tryz.zeroValue3
 t4:=Tryz.underlying4
 a4:=Tryz.isAgg4
 z4:=Tryz.sizeOf4
 v4:=Tryz.zeroValue4
 t9:=Tryz.underlying9
 a9:=Tryz.isAgg9
 z9:=Tryz.sizeOf9
 v9:=Tryz.zeroValue9
 t24:=Tryz.underlying226
 a24:=Tryz.isAgg226
 z24:=Tryz.sizeOf226
 v24:=Tryz.zeroValue226 }
open Go.RowKit in
theorem Tryz.strings_CutPrefix(s p:ByteArray)(w:World) :
  Calls Tryz.prog 181 #[.string s,.string p] w fun e w'=>e=.returned (.tuple #[.string ⟨(Lib.trimPrefix s.data.toList p.data.toList).toArray⟩,.bool (Lib.hasPrefix s.data.toList p.data.toList)])/\w'=w:=Any.strings_CutPrefix Tryz.lays103 s p w
open Go.RowKit in
theorem Tryz.Builder_String_any_k(B b:Nat)(l:List UInt8)(w:World)(h:Lib.IsBuilderF 150 5 B b (Lib.byteCells l) w)(hBw:B<=w.heap.size) :
  Calls Tryz.prog 100 #[.pointer (some ⟨b,0,none⟩)] w fun e w'=>e=.returned (.string ⟨l.toArray⟩)/\(Lib.IsBuilderF 150 5 B b (Lib.byteCells l) w'/\Below B w w'/\Lib.OthersKept 5 (some b) w w'):=Any.Builder_String_any_k Tryz.lays169 Tryz.Builder_Extra_169 B b l w h hBw
def Tryz.laysM171_ren:Go.Shelf.Ren:=⟨fun|171=>187|243=>221|246=>248|283=>267|284=>268|285=>269|286=>270|129=>279|317=>278|318=>280|319=>281|320=>282|337=>283|338=>284|n=>n,fun|3=>3|9=>9|2=>2|4=>4|171=>293|0=>0|53=>229|37=>53|5=>5|173=>296|212=>319|51=>42|20=>20|213=>320|46=>158|232=>325|233=>326|n=>n,fun|17=>8|18=>9|19=>10|n=>n⟩
theorem Tryz.laysM171:Go.Proofs.LaysM.n171 Tryz.prog Tryz.laysM171_ren:={
 mixed:=by kernel_rfl
 f129:=Tryz.func279.trans (congrArg some (by kernel_rfl))
 f171:=Tryz.func187.trans (congrArg some (by kernel_rfl))
 f243:=Tryz.func221.trans (congrArg some (by kernel_rfl))
 f246:=Tryz.func248.trans (congrArg some (by kernel_rfl))
 f283:=Tryz.func267.trans (congrArg some (by kernel_rfl))
 f284:=Tryz.func268.trans (congrArg some (by kernel_rfl))
 f285:=Tryz.func269.trans (congrArg some (by kernel_rfl))
 f286:=Tryz.func270.trans (congrArg some (by kernel_rfl))
 f317:=Tryz.func278.trans (congrArg some (by kernel_rfl))
 f318:=Tryz.func280.trans (congrArg some (by kernel_rfl))
 f319:=Tryz.func281.trans (congrArg some (by kernel_rfl))
 f320:=Tryz.func282.trans (congrArg some (by kernel_rfl))
 f337:=Tryz.func283.trans (congrArg some (by kernel_rfl))
 f338:=Tryz.func284.trans (congrArg some (by kernel_rfl))
 t0:=Tryz.underlying0
 a0:=Tryz.isAgg0
 z0:=Tryz.sizeOf0
 v0:=Tryz.zeroValue0
 t2:=Tryz.underlying2
 a2:=Tryz.isAgg2
 z2:=Tryz.sizeOf2
 v2:=Tryz.zeroValue2
 t3:=Tryz.underlying3
 a3:=Tryz.isAgg3
 z3:=Tryz.sizeOf3
 v3:=Tryz.zeroValue3
 t4:=Tryz.underlying4
 a4:=Tryz.isAgg4
 z4:=Tryz.sizeOf4
 v4:=Tryz.zeroValue4
 t5:=Tryz.underlying5
 a5:=Tryz.isAgg5
 z5:=Tryz.sizeOf5
 v5:=Tryz.zeroValue5
 t9:=Tryz.underlying9
 a9:=Tryz.isAgg9
 z9:=Tryz.sizeOf9
 v9:=Tryz.zeroValue9
 t20:=Tryz.underlying20
 a20:=Tryz.isAgg20
 z20:=Tryz.sizeOf20
 v20:=Tryz.zeroValue20
 t37:=Tryz.underlying53
 a37:=Tryz.isAgg53
 z37:=Tryz.sizeOf53
 v37:=Tryz.zeroValue53
 t46:=Tryz.underlying158
 a46:=Tryz.isAgg158
 z46:=Tryz.sizeOf158
 v46:=Tryz.zeroValue158
 t51:=Tryz.underlying42
 a51:=Tryz.isAgg42
 z51:=Tryz.sizeOf42
 v51:=Tryz.zeroValue42
 t53:=Tryz.underlying229
 a53:=Tryz.isAgg229
 z53:=Tryz.sizeOf229
 v53:=Tryz.zeroValue229
 t171:=Tryz.underlying293
 a171:=Tryz.isAgg293
 z171:=Tryz.sizeOf293
 v171:=Tryz.zeroValue293
 t173:=Tryz.underlying296
 a173:=Tryz.isAgg296
 z173:=Tryz.sizeOf296
 v173:=Tryz.zeroValue296
 t212:=Tryz.underlying319
 a212:=Tryz.isAgg319
 z212:=Tryz.sizeOf319
 v212:=Tryz.zeroValue319
 t213:=Tryz.underlying320
 a213:=Tryz.isAgg320
 z213:=Tryz.sizeOf320
 t232:=Tryz.underlying325
 a232:=Tryz.isAgg325
 z232:=Tryz.sizeOf325
 v232:=Tryz.zeroValue325
 t233:=Tryz.underlying326
 a233:=Tryz.isAgg326
 z233:=Tryz.sizeOf326
 v233:=Tryz.zeroValue326
 g17:=by kernel_rfl
 g18:=by kernel_rfl
 g19:=by kernel_rfl
 i0:=by kernel_rfl
 i2:=by kernel_rfl
 i3:=by kernel_rfl
 i4:=by kernel_rfl
 i5:=by kernel_rfl
 i9:=by kernel_rfl
 i20:=by kernel_rfl
 i37:=by kernel_rfl
 i46:=by kernel_rfl
 i51:=by kernel_rfl
 i53:=by kernel_rfl
 i171:=by kernel_rfl
 i173:=by kernel_rfl
 i212:=by kernel_rfl
 i232:=by kernel_rfl
 i233:=by kernel_rfl
 m17:=by kernel_rfl
 m18:=by kernel_rfl
 m19:=by kernel_rfl }
open Go.RowKit Go.Sort Go.Lib in
theorem Tryz.strconv_Itoa(n:Int)(h0:-9223372036854775808<=n)(h1:n<=9223372036854775807)(w:World) (htab:Lib.TabIs Tryz.prog w "internal/strconv.uint64pow10" .u64 Lib.pow10Tab) :
  Calls Tryz.prog 187 #[.int .i64 n] w fun e w'=>e=.returned (.string ⟨(Lib.itoa n).toArray⟩)/\∃k os,w'=grow (w.drewN k) os:=Any.strconv_Itoa Tryz.laysM171 n h0 h1 w htab
def Tryz.laysC245_ren:Go.Shelf.Ren:=⟨fun|245=>218|279=>243|280=>244|281=>245|282=>246|316=>264|171=>187|205=>265|243=>221|246=>248|283=>267|284=>268|285=>269|286=>270|129=>279|317=>278|318=>280|319=>281|320=>282|337=>283|338=>284|n=>n,fun|9=>9|3=>3|75=>153|167=>273|4=>4|168=>275|210=>289|37=>53|0=>0|127=>206|145=>317|143=>315|2=>2|171=>293|53=>229|5=>5|173=>296|212=>319|51=>42|20=>20|213=>320|46=>158|232=>325|233=>326|80=>156|n=>n,fun|15=>5|16=>6|17=>8|18=>9|19=>10|n=>n⟩
theorem Tryz.laysC245:Go.Proofs.LaysC.n245 Tryz.prog Tryz.laysC245_ren:={
 mixed:=by kernel_rfl
 f129:=Tryz.func279.trans (congrArg some (by kernel_rfl))
 f171:=Tryz.func187.trans (congrArg some (by kernel_rfl))
 f205:=Tryz.func265.trans (congrArg some (by kernel_rfl))
 f243:=Tryz.func221.trans (congrArg some (by kernel_rfl))
 f245:=Tryz.func218.trans (congrArg some (by kernel_rfl))
 f246:=Tryz.func248.trans (congrArg some (by kernel_rfl))
 f279:=Tryz.func243.trans (congrArg some (by kernel_rfl))
 f280:=Tryz.func244.trans (congrArg some (by kernel_rfl))
 f281:=Tryz.func245.trans (congrArg some (by kernel_rfl))
 f282:=Tryz.func246.trans (congrArg some (by kernel_rfl))
 f283:=Tryz.func267.trans (congrArg some (by kernel_rfl))
 f284:=Tryz.func268.trans (congrArg some (by kernel_rfl))
 f285:=Tryz.func269.trans (congrArg some (by kernel_rfl))
 f286:=Tryz.func270.trans (congrArg some (by kernel_rfl))
 f316:=Tryz.func264.trans (congrArg some (by kernel_rfl))
 f317:=Tryz.func278.trans (congrArg some (by kernel_rfl))
 f318:=Tryz.func280.trans (congrArg some (by kernel_rfl))
 f319:=Tryz.func281.trans (congrArg some (by kernel_rfl))
 f320:=Tryz.func282.trans (congrArg some (by kernel_rfl))
 f337:=Tryz.func283.trans (congrArg some (by kernel_rfl))
 f338:=Tryz.func284.trans (congrArg some (by kernel_rfl))
 t0:=Tryz.underlying0
 a0:=Tryz.isAgg0
 z0:=Tryz.sizeOf0
 v0:=Tryz.zeroValue0
 t2:=Tryz.underlying2
 a2:=Tryz.isAgg2
 z2:=Tryz.sizeOf2
 v2:=Tryz.zeroValue2
 t3:=Tryz.underlying3
 a3:=Tryz.isAgg3
 z3:=Tryz.sizeOf3
 v3:=Tryz.zeroValue3
 t4:=Tryz.underlying4
 a4:=Tryz.isAgg4
 z4:=Tryz.sizeOf4
 v4:=Tryz.zeroValue4
 t5:=Tryz.underlying5
 a5:=Tryz.isAgg5
 z5:=Tryz.sizeOf5
 v5:=Tryz.zeroValue5
 t9:=Tryz.underlying9
 a9:=Tryz.isAgg9
 z9:=Tryz.sizeOf9
 v9:=Tryz.zeroValue9
 t20:=Tryz.underlying20
 a20:=Tryz.isAgg20
 z20:=Tryz.sizeOf20
 v20:=Tryz.zeroValue20
 t37:=Tryz.underlying53
 a37:=Tryz.isAgg53
 z37:=Tryz.sizeOf53
 v37:=Tryz.zeroValue53
 t46:=Tryz.underlying158
 a46:=Tryz.isAgg158
 z46:=Tryz.sizeOf158
 v46:=Tryz.zeroValue158
 t51:=Tryz.underlying42
 a51:=Tryz.isAgg42
 z51:=Tryz.sizeOf42
 v51:=Tryz.zeroValue42
 t53:=Tryz.underlying229
 a53:=Tryz.isAgg229
 z53:=Tryz.sizeOf229
 v53:=Tryz.zeroValue229
 t75:=Tryz.underlying153
 a75:=Tryz.isAgg153
 z75:=Tryz.sizeOf153
 v75:=Tryz.zeroValue153
 t127:=Tryz.underlying206
 a127:=Tryz.isAgg206
 z127:=Tryz.sizeOf206
 v127:=Tryz.zeroValue206
 t143:=Tryz.underlying315
 a143:=Tryz.isAgg315
 z143:=Tryz.sizeOf315
 v143:=Tryz.zeroValue315
 t145:=Tryz.underlying317
 a145:=Tryz.isAgg317
 z145:=Tryz.sizeOf317
 v145:=Tryz.zeroValue317
 t167:=Tryz.underlying273
 a167:=Tryz.isAgg273
 z167:=Tryz.sizeOf273
 v167:=Tryz.zeroValue273
 t168:=Tryz.underlying275
 a168:=Tryz.isAgg275
 z168:=Tryz.sizeOf275
 v168:=Tryz.zeroValue275
 t171:=Tryz.underlying293
 a171:=Tryz.isAgg293
 z171:=Tryz.sizeOf293
 v171:=Tryz.zeroValue293
 t173:=Tryz.underlying296
 a173:=Tryz.isAgg296
 z173:=Tryz.sizeOf296
 v173:=Tryz.zeroValue296
 t210:=Tryz.underlying289
 a210:=Tryz.isAgg289
 z210:=Tryz.sizeOf289
 v210:=Tryz.zeroValue289
 t212:=Tryz.underlying319
 a212:=Tryz.isAgg319
 z212:=Tryz.sizeOf319
 v212:=Tryz.zeroValue319
 t213:=Tryz.underlying320
 a213:=Tryz.isAgg320
 z213:=Tryz.sizeOf320
 t232:=Tryz.underlying325
 a232:=Tryz.isAgg325
 z232:=Tryz.sizeOf325
 v232:=Tryz.zeroValue325
 t233:=Tryz.underlying326
 a233:=Tryz.isAgg326
 z233:=Tryz.sizeOf326
 v233:=Tryz.zeroValue326
 g15:=by kernel_rfl
 g16:=by kernel_rfl
 g17:=by kernel_rfl
 g18:=by kernel_rfl
 g19:=by kernel_rfl
 t80:=Tryz.underlying156
 a80:=Tryz.isAgg156
 z80:=Tryz.sizeOf156
 v80:=Tryz.zeroValue156
 i0:=by kernel_rfl
 i2:=by kernel_rfl
 i3:=by kernel_rfl
 i4:=by kernel_rfl
 i5:=by kernel_rfl
 i9:=by kernel_rfl
 i20:=by kernel_rfl
 i37:=by kernel_rfl
 i46:=by kernel_rfl
 i51:=by kernel_rfl
 i53:=by kernel_rfl
 i75:=by kernel_rfl
 i80:=by kernel_rfl
 i127:=by kernel_rfl
 i143:=by kernel_rfl
 i145:=by kernel_rfl
 i167:=by kernel_rfl
 i168:=by kernel_rfl
 i171:=by kernel_rfl
 i173:=by kernel_rfl
 i210:=by kernel_rfl
 i212:=by kernel_rfl
 i232:=by kernel_rfl
 i233:=by kernel_rfl
 m15:=by kernel_rfl
 m16:=by kernel_rfl
 m17:=by kernel_rfl
 m18:=by kernel_rfl
 m19:=by kernel_rfl
 c0:=by kernel_rfl
 c2:=by kernel_rfl
 c3:=by kernel_rfl
 c4:=by kernel_rfl
 c5:=by kernel_rfl
 c9:=by kernel_rfl
 c20:=by kernel_rfl
 c37:=by kernel_rfl
 c46:=by kernel_rfl
 c51:=by kernel_rfl
 c53:=by kernel_rfl
 c75:=by kernel_rfl
 c80:=by kernel_rfl
 c127:=by kernel_rfl
 c143:=by kernel_rfl
 c145:=by kernel_rfl
 c167:=by kernel_rfl
 c168:=by kernel_rfl
 c171:=by kernel_rfl
 c173:=by kernel_rfl
 c210:=by kernel_rfl
 c212:=by kernel_rfl
 c213:=by kernel_rfl
 c232:=by kernel_rfl
 c233:=by kernel_rfl }
open Go.RowKit in
theorem Tryz.strconv_toError_syntax(fn s:ByteArray)(base bits:Int)(ev:Value)(w:World)(hlim:s.size<=281474976710656)(hv:w.cell? ⟨5,0,none⟩=some ev)(hev:ev=.nilIface\/∃te pe,ev=.iface te pe) :
  Calls Tryz.prog 218 #[.string fn,.string s,.int .i64 base,.int .i64 bits,.iface 273 (.int .i64 2)] w fun e w'=>∃N,e=.returned (.iface 275 (.pointer (some ⟨N,0,none⟩)))/\w.heap.size<=N/\w'.heap[N]?=some (.cells #[.string fn,.string s,ev] 289 (0,0))/\Below w.heap.size w w':=Any.strconv_toError_syntax Tryz.laysC245 fn s base bits ev w hlim hv hev
open Go.RowKit in
theorem Tryz.strconv_toError_range(fn s:ByteArray)(base bits:Int)(ev:Value)(w:World)(hlim:s.size<=281474976710656)(hv:w.cell? ⟨6,0,none⟩=some ev)(hev:ev=.nilIface\/∃te pe,ev=.iface te pe) :
  Calls Tryz.prog 218 #[.string fn,.string s,.int .i64 base,.int .i64 bits,.iface 273 (.int .i64 1)] w fun e w'=>∃N,e=.returned (.iface 275 (.pointer (some ⟨N,0,none⟩)))/\w.heap.size<=N/\w'.heap[N]?=some (.cells #[.string fn,.string s,ev] 289 (0,0))/\Below w.heap.size w w':=Any.strconv_toError_range Tryz.laysC245 fn s base bits ev w hlim hv hev
def Tryz.lays143_ren:Go.Shelf.Ren:=⟨fun|143=>133|219=>180|217=>184|225=>213|224=>214|267=>215|266=>219|314=>239|n=>n,fun|9=>9|3=>3|4=>4|5=>5|46=>158|146=>271|51=>42|n=>n,fun|1=>0|n=>n⟩
theorem Tryz.lays143:Go.Proofs.Lays.n143 Tryz.prog Tryz.lays143_ren:={
 mixed:=by kernel_rfl
 f143:=Tryz.func133.trans (congrArg some (by kernel_rfl))
 f217:=Tryz.func184.trans (congrArg some (by kernel_rfl))
 f219:=Tryz.func180.trans (congrArg some (by kernel_rfl))
 f224:=Tryz.func214.trans (congrArg some (by kernel_rfl))
 f225:=Tryz.func213.trans (congrArg some (by kernel_rfl))
 f266:=Tryz.func219.trans (congrArg some (by kernel_rfl))
 f267:=Tryz.func215.trans (congrArg some (by kernel_rfl))
 f314:=Tryz.func239.trans (congrArg some (by kernel_rfl))
 t3:=Tryz.underlying3
 a3:=Tryz.isAgg3
 z3:=Tryz.sizeOf3
 v3:=Tryz.zeroValue3
 t4:=Tryz.underlying4
 a4:=Tryz.isAgg4
 z4:=Tryz.sizeOf4
 v4:=Tryz.zeroValue4
 t5:=Tryz.underlying5
 a5:=Tryz.isAgg5
 z5:=Tryz.sizeOf5
 v5:=Tryz.zeroValue5
 t9:=Tryz.underlying9
 a9:=Tryz.isAgg9
 z9:=Tryz.sizeOf9
 v9:=Tryz.zeroValue9
 t46:=Tryz.underlying158
 a46:=Tryz.isAgg158
 z46:=Tryz.sizeOf158
 v46:=Tryz.zeroValue158
 t51:=Tryz.underlying42
 a51:=Tryz.isAgg42
 z51:=Tryz.sizeOf42
 v51:=Tryz.zeroValue42
 t146:=Tryz.underlying271
 a146:=Tryz.isAgg271
 z146:=Tryz.sizeOf271
 v146:=Tryz.zeroValue271
 g1:=by kernel_rfl }
open Go.RowKit Go.Lib in
theorem Tryz.strings_Index(s sub:ByteArray)(m:Int)(w:World)(hs:s.size<4294967281)(hm:w.cell? ⟨0,0,none⟩=some (.int .i64 m)) :
  Calls Tryz.prog 133 #[.string s,.string sub] w fun e w'=>e=.returned (.int .i64 (Lib.index s.data.toList sub.data.toList))/\w'=w:=Any.strings_Index Tryz.lays143 s sub m w hs hm
def Tryz.lays144_ren:Go.Shelf.Ren:=⟨fun|144=>182|143=>133|219=>180|217=>184|225=>213|224=>214|267=>215|266=>219|314=>239|n=>n,fun|9=>9|4=>4|3=>3|5=>5|46=>158|146=>271|51=>42|n=>n,fun|1=>0|n=>n⟩
theorem Tryz.lays144:Go.Proofs.Lays.n144 Tryz.prog Tryz.lays144_ren:={
 mixed:=by kernel_rfl
 f143:=Tryz.func133.trans (congrArg some (by kernel_rfl))
 f144:=Tryz.func182.trans (congrArg some (by kernel_rfl))
 f217:=Tryz.func184.trans (congrArg some (by kernel_rfl))
 f219:=Tryz.func180.trans (congrArg some (by kernel_rfl))
 f224:=Tryz.func214.trans (congrArg some (by kernel_rfl))
 f225:=Tryz.func213.trans (congrArg some (by kernel_rfl))
 f266:=Tryz.func219.trans (congrArg some (by kernel_rfl))
 f267:=Tryz.func215.trans (congrArg some (by kernel_rfl))
 f314:=Tryz.func239.trans (congrArg some (by kernel_rfl))
 t3:=Tryz.underlying3
 a3:=Tryz.isAgg3
 z3:=Tryz.sizeOf3
 v3:=Tryz.zeroValue3
 t4:=Tryz.underlying4
 a4:=Tryz.isAgg4
 z4:=Tryz.sizeOf4
 v4:=Tryz.zeroValue4
 t5:=Tryz.underlying5
 a5:=Tryz.isAgg5
 z5:=Tryz.sizeOf5
 v5:=Tryz.zeroValue5
 t9:=Tryz.underlying9
 a9:=Tryz.isAgg9
 z9:=Tryz.sizeOf9
 v9:=Tryz.zeroValue9
 t46:=Tryz.underlying158
 a46:=Tryz.isAgg158
 z46:=Tryz.sizeOf158
 v46:=Tryz.zeroValue158
 t51:=Tryz.underlying42
 a51:=Tryz.isAgg42
 z51:=Tryz.sizeOf42
 v51:=Tryz.zeroValue42
 t146:=Tryz.underlying271
 a146:=Tryz.isAgg271
 z146:=Tryz.sizeOf271
 v146:=Tryz.zeroValue271
 g1:=by kernel_rfl }
open Go.RowKit Go.Lib in
theorem Tryz.strings_Contains(s sub:ByteArray)(m:Int)(w:World)(hs:s.size<4294967281)(hm:w.cell? ⟨0,0,none⟩=some (.int .i64 m)) :
  Calls Tryz.prog 182 #[.string s,.string sub] w fun e w'=>e=.returned (.bool (Lib.contains s.data.toList sub.data.toList))/\w'=w:=Any.strings_Contains Tryz.lays144 s sub m w hs hm
def Tryz.lays138_ren:Go.Shelf.Ren:=⟨fun|138=>132|195=>177|218=>179|143=>133|219=>180|217=>184|225=>213|224=>214|267=>215|266=>219|314=>239|n=>n,fun|9=>9|3=>3|4=>4|5=>5|0=>0|46=>158|146=>271|51=>42|n=>n,fun|1=>0|n=>n⟩
theorem Tryz.lays138:Go.Proofs.Lays.n138 Tryz.prog Tryz.lays138_ren:={
 mixed:=by kernel_rfl
 f138:=Tryz.func132.trans (congrArg some (by kernel_rfl))
 f143:=Tryz.func133.trans (congrArg some (by kernel_rfl))
 f195:=Tryz.func177.trans (congrArg some (by kernel_rfl))
 f217:=Tryz.func184.trans (congrArg some (by kernel_rfl))
 f218:=Tryz.func179.trans (congrArg some (by kernel_rfl))
 f219:=Tryz.func180.trans (congrArg some (by kernel_rfl))
 f224:=Tryz.func214.trans (congrArg some (by kernel_rfl))
 f225:=Tryz.func213.trans (congrArg some (by kernel_rfl))
 f266:=Tryz.func219.trans (congrArg some (by kernel_rfl))
 f267:=Tryz.func215.trans (congrArg some (by kernel_rfl))
 f314:=Tryz.func239.trans (congrArg some (by kernel_rfl))
 t0:=Tryz.underlying0
 a0:=Tryz.isAgg0
 z0:=Tryz.sizeOf0
 v0:=Tryz.zeroValue0
 t3:=Tryz.underlying3
 a3:=Tryz.isAgg3
 z3:=Tryz.sizeOf3
 v3:=Tryz.zeroValue3
 t4:=Tryz.underlying4
 a4:=Tryz.isAgg4
 z4:=Tryz.sizeOf4
 v4:=Tryz.zeroValue4
 t5:=Tryz.underlying5
 a5:=Tryz.isAgg5
 z5:=Tryz.sizeOf5
 v5:=Tryz.zeroValue5
 t9:=Tryz.underlying9
 a9:=Tryz.isAgg9
 z9:=Tryz.sizeOf9
 v9:=Tryz.zeroValue9
 t46:=Tryz.underlying158
 a46:=Tryz.isAgg158
 z46:=Tryz.sizeOf158
 v46:=Tryz.zeroValue158
 t51:=Tryz.underlying42
 a51:=Tryz.isAgg42
 z51:=Tryz.sizeOf42
 v51:=Tryz.zeroValue42
 t146:=Tryz.underlying271
 a146:=Tryz.isAgg271
 z146:=Tryz.sizeOf271
 v146:=Tryz.zeroValue271
 g1:=by kernel_rfl }
def Tryz.lays102_ren:Go.Shelf.Ren:=⟨fun|102=>192|209=>228|207=>254|n=>n,fun|9=>9|4=>4|3=>3|n=>n,fun|n=>n⟩
theorem Tryz.lays102:Go.Proofs.Lays.n102 Tryz.prog Tryz.lays102_ren:={
 mixed:=by kernel_rfl
 f102:=Tryz.func192.trans (congrArg some (by kernel_rfl))
 f207:=Tryz.func254.trans (congrArg some (by kernel_rfl))
 f209:=Tryz.func228.trans (congrArg some (by kernel_rfl))
 t3:=Tryz.underlying3
 a3:=Tryz.isAgg3
 z3:=Tryz.sizeOf3
 v3:=Tryz.zeroValue3
 t4:=Tryz.underlying4
 a4:=Tryz.isAgg4
 z4:=Tryz.sizeOf4
 v4:=Tryz.zeroValue4
 t9:=Tryz.underlying9
 a9:=Tryz.isAgg9
 z9:=Tryz.sizeOf9
 v9:=Tryz.zeroValue9 }
open Go.RowKit Go.Lib in
theorem Tryz.strings_TrimSuffix(s p:ByteArray)(w:World)(hs:s.size<=9223372036854775807) :
  Calls Tryz.prog 192 #[.string s,.string p] w fun e w'=>e=.returned (.string ⟨(Lib.trimSuffix s.data.toList p.data.toList).toArray⟩)/\w'=w:=Any.strings_TrimSuffix Tryz.lays102 s p w hs
open Go.RowKit Go.Lib in
theorem Tryz.strings_Count_any(s sep:ByteArray)(m:Int)(w:World)(hs:s.size<4294967281)(hm:w.cell? ⟨0,0,none⟩=some (.int .i64 m))(h1:1<=sep.size) :
  Calls Tryz.prog 132 #[.string s,.string sep] w fun e w'=>e=.returned (.int .i64 (Lib.countB s sep))/\w'=w:=Any.strings_Count_any Tryz.lays138 s sep m w hs hm h1
def Tryz.lays146_ren:Go.Shelf.Ren:=⟨fun|146=>36|221=>89|268=>131|138=>132|143=>133|195=>177|197=>178|218=>179|219=>180|260=>212|217=>184|225=>213|224=>214|267=>215|266=>219|314=>239|n=>n,fun|9=>9|31=>81|3=>3|4=>4|0=>0|105=>224|21=>21|5=>5|46=>158|119=>250|139=>270|138=>269|146=>271|51=>42|n=>n,fun|1=>0|3=>2|4=>3|n=>n⟩
theorem Tryz.lays146:Go.Proofs.Lays.n146 Tryz.prog Tryz.lays146_ren:={
 mixed:=by kernel_rfl
 f138:=Tryz.func132.trans (congrArg some (by kernel_rfl))
 f143:=Tryz.func133.trans (congrArg some (by kernel_rfl))
 f146:=Tryz.func36.trans (congrArg some (by kernel_rfl))
 f195:=Tryz.func177.trans (congrArg some (by kernel_rfl))
 f197:=Tryz.func178.trans (congrArg some (by kernel_rfl))
 f217:=Tryz.func184.trans (congrArg some (by kernel_rfl))
 f218:=Tryz.func179.trans (congrArg some (by kernel_rfl))
 f219:=Tryz.func180.trans (congrArg some (by kernel_rfl))
 f221:=Tryz.func89.trans (congrArg some (by kernel_rfl))
 f224:=Tryz.func214.trans (congrArg some (by kernel_rfl))
 f225:=Tryz.func213.trans (congrArg some (by kernel_rfl))
 f260:=Tryz.func212.trans (congrArg some (by kernel_rfl))
 f266:=Tryz.func219.trans (congrArg some (by kernel_rfl))
 f267:=Tryz.func215.trans (congrArg some (by kernel_rfl))
 f268:=Tryz.func131.trans (congrArg some (by kernel_rfl))
 f314:=Tryz.func239.trans (congrArg some (by kernel_rfl))
 t0:=Tryz.underlying0
 a0:=Tryz.isAgg0
 z0:=Tryz.sizeOf0
 v0:=Tryz.zeroValue0
 t3:=Tryz.underlying3
 a3:=Tryz.isAgg3
 z3:=Tryz.sizeOf3
 v3:=Tryz.zeroValue3
 t4:=Tryz.underlying4
 a4:=Tryz.isAgg4
 z4:=Tryz.sizeOf4
 v4:=Tryz.zeroValue4
 t5:=Tryz.underlying5
 a5:=Tryz.isAgg5
 z5:=Tryz.sizeOf5
 v5:=Tryz.zeroValue5
 t9:=Tryz.underlying9
 a9:=Tryz.isAgg9
 z9:=Tryz.sizeOf9
 v9:=Tryz.zeroValue9
 t21:=Tryz.underlying21
 a21:=Tryz.isAgg21
 z21:=Tryz.sizeOf21
 v21:=Tryz.zeroValue21
 t31:=Tryz.underlying81
 a31:=Tryz.isAgg81
 z31:=Tryz.sizeOf81
 v31:=Tryz.zeroValue81
 t46:=Tryz.underlying158
 a46:=Tryz.isAgg158
 z46:=Tryz.sizeOf158
 v46:=Tryz.zeroValue158
 t51:=Tryz.underlying42
 a51:=Tryz.isAgg42
 z51:=Tryz.sizeOf42
 v51:=Tryz.zeroValue42
 t105:=Tryz.underlying224
 a105:=Tryz.isAgg224
 z105:=Tryz.sizeOf224
 v105:=Tryz.zeroValue224
 t119:=Tryz.underlying250
 a119:=Tryz.isAgg250
 z119:=Tryz.sizeOf250
 t138:=Tryz.underlying269
 a138:=Tryz.isAgg269
 z138:=Tryz.sizeOf269
 v138:=Tryz.zeroValue269
 t139:=Tryz.underlying270
 a139:=Tryz.isAgg270
 z139:=Tryz.sizeOf270
 v139:=Tryz.zeroValue270
 t146:=Tryz.underlying271
 a146:=Tryz.isAgg271
 z146:=Tryz.sizeOf271
 v146:=Tryz.zeroValue271
 g1:=by kernel_rfl
 g3:=by kernel_rfl
 g4:=by kernel_rfl }
open Go.RowKit Go.Lib in
theorem Tryz.strings_Split(s sep:ByteArray)(m:Int)(w:World)(hs:s.size<4294967281)(hm:w.cell? ⟨0,0,none⟩=some (.int .i64 m))(h1:1<=sep.size) :
  Calls Tryz.prog 36 #[.string s,.string sep] w fun e w'=>
   e=.returned (.slice (some ⟨w.heap.size,0,none⟩) (Lib.countB s sep+1) (Lib.countB s sep+1))/\w'=w.alloc (.cells ((Lib.splitB sep 0 (Lib.countB s sep) s).map Value.string).toArray 9):=Any.strings_Split Tryz.lays146 (by kernel_rfl) s sep m w hs hm h1
def Tryz.laysM157_ren:Go.Shelf.Ren:=⟨fun|157=>191|229=>226|199=>227|261=>253|311=>271|312=>272|n=>n,fun|9=>9|31=>81|3=>3|5=>5|4=>4|119=>250|0=>0|40=>252|152=>282|21=>21|154=>284|51=>42|141=>286|196=>301|193=>298|198=>304|49=>302|194=>299|201=>307|226=>322|46=>158|227=>323|n=>n,fun|0=>1|6=>4|n=>n⟩
theorem Tryz.laysM157:Go.Proofs.LaysM.n157 Tryz.prog Tryz.laysM157_ren:={
 mixed:=by kernel_rfl
 f157:=Tryz.func191.trans (congrArg some (by kernel_rfl))
 f199:=Tryz.func227.trans (congrArg some (by kernel_rfl))
 f229:=Tryz.func226.trans (congrArg some (by kernel_rfl))
 f261:=Tryz.func253.trans (congrArg some (by kernel_rfl))
 f311:=Tryz.func271.trans (congrArg some (by kernel_rfl))
 f312:=Tryz.func272.trans (congrArg some (by kernel_rfl))
 t0:=Tryz.underlying0
 a0:=Tryz.isAgg0
 z0:=Tryz.sizeOf0
 v0:=Tryz.zeroValue0
 t3:=Tryz.underlying3
 a3:=Tryz.isAgg3
 z3:=Tryz.sizeOf3
 v3:=Tryz.zeroValue3
 t4:=Tryz.underlying4
 a4:=Tryz.isAgg4
 z4:=Tryz.sizeOf4
 v4:=Tryz.zeroValue4
 t5:=Tryz.underlying5
 a5:=Tryz.isAgg5
 z5:=Tryz.sizeOf5
 v5:=Tryz.zeroValue5
 t9:=Tryz.underlying9
 a9:=Tryz.isAgg9
 z9:=Tryz.sizeOf9
 v9:=Tryz.zeroValue9
 t21:=Tryz.underlying21
 a21:=Tryz.isAgg21
 z21:=Tryz.sizeOf21
 v21:=Tryz.zeroValue21
 t31:=Tryz.underlying81
 a31:=Tryz.isAgg81
 z31:=Tryz.sizeOf81
 v31:=Tryz.zeroValue81
 t40:=Tryz.underlying252
 a40:=Tryz.isAgg252
 z40:=Tryz.sizeOf252
 v40:=Tryz.zeroValue252
 t46:=Tryz.underlying158
 a46:=Tryz.isAgg158
 z46:=Tryz.sizeOf158
 v46:=Tryz.zeroValue158
 t49:=Tryz.underlying302
 a49:=Tryz.isAgg302
 z49:=Tryz.sizeOf302
 v49:=Tryz.zeroValue302
 t51:=Tryz.underlying42
 a51:=Tryz.isAgg42
 z51:=Tryz.sizeOf42
 v51:=Tryz.zeroValue42
 t119:=Tryz.underlying250
 a119:=Tryz.isAgg250
 z119:=Tryz.sizeOf250
 t141:=Tryz.underlying286
 a141:=Tryz.isAgg286
 z141:=Tryz.sizeOf286
 v141:=Tryz.zeroValue286
 t152:=Tryz.underlying282
 a152:=Tryz.isAgg282
 z152:=Tryz.sizeOf282
 v152:=Tryz.zeroValue282
 t154:=Tryz.underlying284
 a154:=Tryz.isAgg284
 z154:=Tryz.sizeOf284
 v154:=Tryz.zeroValue284
 t193:=Tryz.underlying298
 a193:=Tryz.isAgg298
 z193:=Tryz.sizeOf298
 v193:=Tryz.zeroValue298
 t194:=Tryz.underlying299
 a194:=Tryz.isAgg299
 z194:=Tryz.sizeOf299
 v194:=Tryz.zeroValue299
 t196:=Tryz.underlying301
 a196:=Tryz.isAgg301
 z196:=Tryz.sizeOf301
 v196:=Tryz.zeroValue301
 t198:=Tryz.underlying304
 a198:=Tryz.isAgg304
 z198:=Tryz.sizeOf304
 v198:=Tryz.zeroValue304
 t201:=Tryz.underlying307
 a201:=Tryz.isAgg307
 z201:=Tryz.sizeOf307
 v201:=Tryz.zeroValue307
 t226:=Tryz.underlying322
 a226:=Tryz.isAgg322
 z226:=Tryz.sizeOf322
 v226:=Tryz.zeroValue322
 t227:=Tryz.underlying323
 a227:=Tryz.isAgg323
 z227:=Tryz.sizeOf323
 v227:=Tryz.zeroValue323
 g0:=by kernel_rfl
 g6:=by kernel_rfl
 i0:=by kernel_rfl
 i3:=by kernel_rfl
 i4:=by kernel_rfl
 i5:=by kernel_rfl
 i9:=by kernel_rfl
 i21:=by kernel_rfl
 i31:=by kernel_rfl
 i40:=by kernel_rfl
 i46:=by kernel_rfl
 i49:=by kernel_rfl
 i51:=by kernel_rfl
 i141:=by kernel_rfl
 i152:=by kernel_rfl
 i154:=by kernel_rfl
 i193:=by kernel_rfl
 i194:=by kernel_rfl
 i196:=by kernel_rfl
 i198:=by kernel_rfl
 i201:=by kernel_rfl
 i226:=by kernel_rfl
 i227:=by kernel_rfl
 m0:=by kernel_rfl
 m6:=by kernel_rfl }
open Go.RowKit Go.Lib in
theorem Tryz.strings_Fields_laid(s:ByteArray)(w:World)(hs:s.size<4294967281)(hascii:∀(j:Nat) b,s.data.toList[j]?=some b->b.toNat<128) (htab:Lib.TabIs Tryz.prog w "strings.asciiSpace" .u8 Lib.asciiSpaceTab) :
  Calls Tryz.prog 191 #[.string s] w fun e w'=>
   e=.returned (.slice (some ⟨w.heap.size,0,none⟩) (Lib.fields s.data.toList).length (Lib.fields s.data.toList).length)/\w'=w.alloc (.cells ((Lib.fields s.data.toList).map fun l=>Value.string ⟨l.toArray⟩).toArray 9):=Any.strings_Fields_laid Tryz.laysM157 s w hs hascii htab
def Tryz.lays112_ren:Go.Shelf.Ren:=⟨fun|112=>104|n=>n,fun|28=>25|3=>3|4=>4|0=>0|n=>n,fun|n=>n⟩
theorem Tryz.lays112:Go.Proofs.Lays.n112 Tryz.prog Tryz.lays112_ren:={
 mixed:=by kernel_rfl
 f112:=Tryz.func104.trans (congrArg some (by kernel_rfl))
 t0:=Tryz.underlying0
 a0:=Tryz.isAgg0
 z0:=Tryz.sizeOf0
 v0:=Tryz.zeroValue0
 t3:=Tryz.underlying3
 a3:=Tryz.isAgg3
 z3:=Tryz.sizeOf3
 v3:=Tryz.zeroValue3
 t4:=Tryz.underlying4
 a4:=Tryz.isAgg4
 z4:=Tryz.sizeOf4
 v4:=Tryz.zeroValue4
 t28:=Tryz.underlying25
 a28:=Tryz.isAgg25
 z28:=Tryz.sizeOf25
 v28:=Tryz.zeroValue25 }
open Go.RowKit Go.Lib Go.Sort in
theorem Tryz.slices_Reverse_int(blk off cap:Nat)(zs:List Int)(w:World)(hH:Holds (Value.int .i64) w blk off zs.toArray)(hsz:zs.length<=9223372036854775807) :
  Calls Tryz.prog 104 #[.slice (some ⟨blk,off,none⟩) zs.length cap] w fun e w'=>e=.returned (.tuple #[])/\∃n,w'=putRow (Value.int .i64) (Sort.ahead w n) blk off zs.reverse.toArray:=Any.slices_Reverse_int Tryz.lays112 blk off cap zs w hH hsz
open Go.RowKit Go.Lib Go.Sort in
theorem Tryz.slices_Reverse_int_empty(a:Option Addr)(cap:Nat)(w:World) :
  Calls Tryz.prog 104 #[.slice a 0 cap] w fun e w'=>e=.returned (.tuple #[])/\w'=w:=Any.slices_Reverse_int_empty Tryz.lays112 a cap w
end Go.Proofs
namespace Rv
open Go Go.RowKit Go.Proofs Go.Sort Go.Lib
noncomputable section
set_option maxRecDepth 100000
end
end Rv
namespace Rv
open Go Go.RowKit
def CD.isArg:CD->Bool
 | .int _ | .bool | .str | .ifo _ _ | .sl _=>true
 |_=>false
def ky(w:World)(t:Ty)(xs:List t.D)(v:Value):Prop:=
 ∃A c,v=.slice A xs.length c/\xs.length<=c/\∀i x,xs[i]?=some x->∃g o ds,A=some ⟨g,o,none⟩/\g<w.heap.size/\Rd w (fun _=>True) t x ds/\∀j v,ds[j]?=some v->w.cell? ⟨g,o+i*t.size+j,none⟩=some v
def CD.argR(w:World):(c:CD)->c.T->Value->Prop
 | .sl t,xs,v=>ky w t xs v
 |c,x,v=>v=c.val x
def yO(w:World):(l:List CD)->TL l->List Value->Prop
 |[],_,vs=>vs=[]
 |_::_,_,[]=>False
 |c::l,x,v::vs=>c.argR w x.1 v/\yO w l x.2 vs
section
variable{P:Program}{C:Ctx}{γ:Gam}{h:Heap}{w:World}
theorem BU{nm:Nm}:∀{l:List CD}{x:TL l}{m:Nat}{vs:List Value},l.all CD.isArg=true->ai (au C γ h w) (mkL nm l x m).1 vs->yO w l x vs
 |[],_,_,vs,_,ha=>by
  cases vs with
  |nil=>rfl
  |cons _ _=>exact ha.elim
 |c::r,x,m,vs,hl,ha=>by
  simp only[OH,NJ] at hl;cases vs with
  |nil=>exact ha.elim
  |cons v vs=>
   simp only[mkL] at ha;obtain⟨h1,h2⟩:=ha;refine⟨?_,BU hl.2 h2⟩;cases c with
   |int k=>exact h1
   |bool=>exact h1
   |str=>exact h1
   |ifo t k=>
    obtain⟨o,x'⟩:=x;cases o with
    |none=>exact h1
    |some n=>exact h1
   |sl t=>
    obtain⟨_,A,c,hv,hc,hx⟩:=h1;refine⟨A,c,hv,hc,fun i y hy=>?_⟩;obtain⟨g,o,ds,h3,_,h5,h6,h7⟩:=hx i y hy;exact⟨g,o,ds,h3,h5,h6.mono (NM _) (fun _ _ _=>⟨rfl,trivial⟩),h7⟩
   |_=>cases hl.1
def CD.isFree:CD->Bool
 | .sl _ | .fn=>true
 |c=>c.isPlain
def CD.resF(w0 w:World):(c:CD)->c.T->Value->Prop
 | .sl t,xs,v=>v.oneCell'=true/\Rd w (fun g=>w0.heap.size<=g) (.sl t) xs [v]
 | .fn,x,v=>v.oneCell'=true/\Rd w (fun g=>w0.heap.size<=g) .fn x [v]
 |c,x,v=>c.res x v
def resF(w0 w:World):(l:List CD)->TL l->List Value->Prop
 |[],_,[]=>True
 |c::r,x,v::vs=>c.resF w0 w x.1 v/\resF w0 w r x.2 vs
 |_,_,_=>False
theorem xJ{nm:Nm}:∀{l:List CD}{x:TL l}{m:Nat},l.all CD.isFree=true->(mkL nm l x m).2.1=[]
 |[],_,_,_=>rfl
 |c::r,x,m,hl=>by
  simp only[OH,NJ] at hl;simp only[mkL];rw[xJ hl.2];cases c<;>first|rfl|cases hl.1
theorem Cj{w0:World}(hrd:∀g,w0.heap.size<=g->C.rd g):∀g,w0.heap.size<=g->okb C (fun _=>none) (Heap.ofList []) none g:=fun g hg=>⟨hrd g hg,fun k e c hk=>by cases hk⟩
theorem zB{w0:World}(hrd:∀g,w0.heap.size<=g->C.rd g){nm:Nm}:∀{l:List CD}{x:TL l}{m:Nat}{vs:List Value},resF w0 w l x vs->ai (au C (fun _=>none) (Heap.ofList []) w) (mkL nm l x m).1 vs
 |[],_,_,[],_=>trivial
 |[],_,_,_::_,hr=>hr.elim
 |_::_,_,_,[],hr=>hr.elim
 |c::r,x,m,v::vs,hr=>by
  simp only[mkL];refine⟨?_,zB hrd hr.2⟩;have:=hr.1;cases c with
  |int k=>exact this
  |bool=>exact this
  |str=>exact this
  |err=>exact this
  |ifo t k=>
   obtain⟨o,x'⟩:=x;cases o with
   |none=>exact this
   |some n=>exact this
  |sl t=>exact⟨this.1,RdS.iff.2 (this.2.mono (NM _) fun g hg _=>⟨rfl,Cj hrd g hg⟩)⟩
  |fn=>exact⟨this.1,this.2.mono (NM _) fun g hg _=>⟨rfl,Cj hrd g hg⟩⟩
  |_=>exact this.elim
theorem AJ{L:World->Prop}{f:FuncId}{sp:Spec}{la lr:List CD}(ea:sp.a=ax la)(er:sp.r=ax lr)(ha:la.all CD.isArg=true)(hr:lr.all CD.isFree=true)
  (H:∀(x:TL la) (y:TL lr),sp.f (cast (by rw[ea];show TL la=TL (ax la).all;rw[dV]) x)=some (cast (by rw[er];show TL lr=TL (ax lr).all;rw[dV]) y)->∀w vs,L w->yO w la x vs ->
   Calls P f vs.toArray w fun e w'=>Below w.heap.size w w'/\∃rs:Array Value,e=.returned (if h:rs.size=1 then rs[0] else .tuple rs)/\resF w w' lr y rs.toList):Sat P L f sp:=by
 obtain⟨a,r,g⟩:=sp;simp only at ea er H;subst ea er;intro x y hy C γ vals hCL hCn R;have hCn:C.nl=0:=hCn;have eqT:∀l:List CD,(ax l).T=TL l:=fun l=>by show TL (ax l).all=TL l;rw[dV]
 have hsz:vals.size=la.length:=by
  rw[R.size];show(az _ _ _).1.length=_;rw[cO];simp[ax,fM]
 have castmk:∀(l:List CD) (nm:Nm) (x:(ax l).T) (m:Nat),mkL nm (ax l).all x m=mkL nm l (cast (eqT l) x) m:=by
  intro l nm x m;have gen:∀(l':List CD) (e:l'=l) (x:TL l') (h:TL l'=TL l),mkL nm l' x m=mkL nm l (cast h x) m:=by
   intro l' e x h;subst e;rfl
  exact gen _ (dV l) x _
 have hvals:yO C.w0 la (cast (eqT la) x) vals.toList:=by
  have hnd:((ax la).slots.map (·.1)).Nodup:=by
   show((aM 0 la).map (·.1)).Nodup;rw[fK];exact List.nodup_range'
  have hlt:∀i,i∈(ax la).slots.map (·.1)->i<(List.replicate (ax la).slots.length V.dead).length:=fun i hi=>by
   have hi:i∈(aM 0 la).map (·.1):=hi;rw[fK] at hi;simp only[List.mem_range'_1] at hi;simp[ax,fM];omega
  have hlen:(mkL nmJ (ax la).all x (ax la).boxes.length).1.length=((ax la).slots.flatMap fun p=>p.2.cds).length:=by
   rw[(dW _ _ _ _).2.2,dV];show _=((aM 0 la).flatMap _).length;rw[jf]
  have hb:=(qo (C:=C) (γ:=γ) (h:=((ax la).mk' nmJ (ax la).slots.length x).h) (w:=C.w0) (vals:=vals) hnd hlt hlen R.slot).1;rw[castmk] at hb;have hv:=BU ha hb;have hf:bq vals (ax la).slots=vals.toList:=by
   show bq vals (aM 0 la)=_;rw[jg,<- hsz,kP]
  rw[hf] at hv;exact hv
 have hw:=H (cast (eqT la) x) (cast (eqT lr) y) (by simp only[cast_cast,cast_eq];exact hy) C.w0 vals.toList (by rw[<- hCL];exact R.inv.laid) hvals;rw[Array.toArray_toList] at hw;refine hw.mono fun e w' ⟨hb,rs,he,hres⟩=>⟨fun _=>none,rs,he,?_⟩
 have hrows:(mkL nmJ (ax lr).all y (ax lr).boxes.length).2.1=[]:=by rw[castmk];exact xJ hr
 have hh:((ax lr).mk' nmJ (ax lr).slots.length y).h=Heap.ofList []:=by
  have:((ax lr).mk' nmJ (ax lr).slots.length y).h=Heap.ofList ([]++(mkL nmJ (ax lr).all y (ax lr).boxes.length).2.1):=rfl;rw[this,hrows];rfl
 have hlr:∀{l:List CD}{x:TL l}{vs:List Value},resF C.w0 w' l x vs->vs.length=l.length:=by
  intro l
  induction l with
  |nil=>intro x vs hr;cases vs with
   |nil=>rfl
   |cons _ _=>exact hr.elim
  |cons c l ih=>intro x vs hr;cases vs with
   |nil=>exact hr.elim
   |cons v vs=>simp[ih hr.2]
 have hrs:rs.size=lr.length:=by have:=hlr hres;simpa using this
 have hcells:=zB (C:=C) (nm:=nmJ) (m:=(ax lr).boxes.length) (fun g hg=>R.inv.rd g (R.inv.new g hg)) hres;rw[<- castmk] at hcells;have hfv:bq rs (ax lr).slots=rs.toList:=by
  show bq rs (aM 0 lr)=_;rw[jg,<- hrs,kP]
 have hok:dY rs (ax lr).slots:=by
  intro i sd hm;have hm:(i,sd)∈aM 0 lr:=hm;have:∀(l:List CD) (j:Nat),(i,sd)∈aM j l->∃c,sd=.c c:=by
   intro l
   induction l with
   |nil=>intro j hj;simp[aM] at hj
   |cons c l ih=>
    intro j hj;simp only[aM,NS,NG] at hj;rcases hj with hj|hj;·exact⟨c,hj.2⟩
    ·exact ih _ hj
  obtain⟨c,rfl⟩:=this lr 0 hm;trivial
 obtain⟨h1,h2,_⟩:=bY (C:=C) (γ:=fun _=>none) (h:=Heap.ofList []) (w:=w') (vals:=rs) (sl:=(ax lr).slots) (l:=List.replicate (ax lr).slots.length V.dead) (rest:=[]) hok (fun i v hi=>by
   rw[List.getElem?_replicate] at hi;split at hi;·simp only[NC] at hi;subst hi;trivial
   ·cases hi) (by rw[hfv,OI];exact hcells)
 refine⟨?_,?_,?_⟩;·show rs.size=(az _ _ _).1.length;rw[h1,Ox,hrs];simp[ax,fM]
 ·rw[hh];exact h2
 ·rw[hh];exact zN R.inv hCn hb
end
end Rv
namespace Rv
open Go Go.RowKit Go.Proofs
noncomputable section
set_option maxRecDepth 100000
theorem zm:(Tryz.prog.info? 150).map (·.size)=some 2:=by kernel_rfl
theorem Hd:liesAt Tryz.prog Tryz.prog.depth 150 (2 / Tryz.prog.cellsOf 150) 0 150 1=true:=by kernel_rfl
theorem wK(b:Nat)(w:World)(h0:w.cell? ⟨b,0,none⟩=some (.pointer (some ⟨b,0,none⟩))) :
  Calls Tryz.prog 154 #[.pointer (some ⟨b,0,none⟩)] w fun e w'=>e=.returned (.tuple #[])/\w'=w:=by
 obtain⟨j,hj,_⟩:=Option.map_eq_some_iff.1 zm
 go_enter Tryz.func154,Tryz.ntmps154
 go_wp2
 rw[Lib.run_neq_ptr_same w _ Tryz.underlying148 hj]
 go_wp2
 go_end0
 exact⟨rfl,rfl⟩
theorem lX(b:Nat)(w:World)(h0:w.cell? ⟨b,0,none⟩=some (.pointer none))(hsh:w.shape? b=some (150,2))(hfz:w.frozen? ⟨b,0,none⟩=false) :
  Calls Tryz.prog 154 #[.pointer (some ⟨b,0,none⟩)] w fun e w'=>e=.returned (.tuple #[])/\w'=w.setCell ⟨b,0,none⟩ (.pointer (some ⟨b,0,none⟩)):=by
 obtain⟨j,hj,hjs⟩:=Option.map_eq_some_iff.1 zm
 go_enter Tryz.func154,Tryz.ntmps154
 go_wp2
 rw[Lib.run_to_unsafe w ⟨b,0,none⟩ Tryz.underlying148 Tryz.underlying238 hj (by rw[hjs];decide) hsh (Nat.zero_lt_succ 1)];simp only[Result.andThen];rw[Oper.upon_value]
 go_wp2
 rw[run_callFunc_extern Tryz.func200 (by kernel_rfl) (by kernel_rfl) (by kernel_rfl) (e:=Extern.AbiNoEscape.same) (by kernel_rfl)];rw[Lib.run_noEscape];simp only[Result.andThen];rw[Oper.upon_value]
 go_wp2
 rw[Lib.run_from_unsafe w ⟨b,0,none⟩ Tryz.underlying238 Tryz.underlying148 hj hsh Hd];simp only[Result.andThen];rw[Oper.upon_value]
 go_wp2
 go_end0
 exact⟨rfl,rfl⟩
theorem Bg(B b:Nat)(bs:List Value)(w:World)(h:Lib.IsBuilderF 150 5 B b bs w) :
  Calls Tryz.prog 154 #[.pointer (some ⟨b,0,none⟩)] w fun e w'=>e=.returned (.tuple #[])/\(Lib.BuilderAtF 150 5 B b (.pointer (some ⟨b,0,none⟩)) bs w'/\Below B w w'/\Lib.OthersKept 5 (some b) w w'):=by
 rcases h with h|h;·refine(lX b w h.cell0 h.shape h.frozen0).mono ?_;rintro e w' ⟨rfl,rfl⟩;exact⟨rfl,h.used _,(Below.refl B w).setCell (p:=⟨b,0,none⟩) h.1 _,(Lib.OthersKept.refl _ _ w).setCell ⟨b,0,none⟩ rfl _⟩
 ·refine(wK b w h.cell0).mono ?_;rintro e w' ⟨rfl,rfl⟩;exact⟨rfl,h,Below.refl B _,Lib.OthersKept.refl _ _ _⟩
set_option maxHeartbeats 2000000 in
theorem yM(B b:Nat)(bs:List Value)(s:ByteArray)(w:World)(h:Lib.IsBuilderF 150 5 B b bs w)(hlen:bs.length+s.size<=140737488355328)(hBw:B<=w.heap.size) :
  Calls Tryz.prog 99 #[.pointer (some ⟨b,0,none⟩),.string s] w fun e w'=>e=.returned (.tuple #[.int .i64 s.size,.nilIface])/\(Lib.BuilderAtF 150 5 B b (.pointer (some ⟨b,0,none⟩)) (bs++Lib.strCells s) w'/\Below B w w'/\Lib.OthersKept 5 (some b) w w'):=by
 obtain⟨i0,hi,hz0,hz1,hz2⟩:=info_parts (show(Tryz.prog.info? 5).map (fun i=>(i.zero,i.size,i.bytes))=some (some (.int .u8 0),1,1) by kernel_rfl);have hcc:=Bg B b bs w h
 go_enter Tryz.func99,Tryz.ntmps99
 go_wp2_with (go_at_call 154;refine hcc.mono ?_)
 rintro e w1 ⟨rfl,h1,hb1,hk1⟩;obtain⟨hB,v,hbk,hown,hne⟩:=h1;have c0:w1.cell? ⟨b,0,none⟩=some (.pointer (some ⟨b,0,none⟩)):=by rw[Lib.cell_of_heap hbk];rfl
 have c1:w1.cell? ⟨b,1,none⟩=some v:=by rw[Lib.cell_of_heap hbk];rfl
 go_wp2_with (at_builtin;refine Lib.wpList_append_own_stringF _ rfl _ _ 53 9 rfl B 5 i0 Tryz.underlying53 Tryz.underlying9 hi hz0 hz1 hz2 _ _ _ rfl hown s rfl ?c3 ?c4 ?c5 ?_)
 case c3=>unfold maxLen;omega
 case c4=>omega
 case c5=>have:=hb1.size;omega
 intro v' w2 hown' hgrow _;have hlt:b<w1.heap.size:=by
  rcases Nat.lt_or_ge b w1.heap.size with h'|h';·exact h'
  ·simp[Array.getElem?_eq_none h'] at hbk
 have hb2:w2.heap[b]?=some (.cells #[.pointer (some ⟨b,0,none⟩),v] 150 (0,0)):=by
  rw[hgrow.block b hlt (fun e=>hne e.symm)];exact hbk
 have d0:w2.cell? ⟨b,0,none⟩=some (.pointer (some ⟨b,0,none⟩)):=by rw[Lib.cell_of_heap hb2];rfl
 have d1:w2.cell? ⟨b,1,none⟩=some v:=by rw[Lib.cell_of_heap hb2];rfl
 have f1:w2.frozen? ⟨b,1,none⟩=false:=Lib.frozen_of_heap hb2 1;obtain⟨ao,n',cap,rfl⟩:∃ao n' cap,v'=.slice ao n' cap:=by
  rcases hown'.2 with⟨hv,_⟩|⟨g,cap,cur,fz,hv,_⟩;·exact⟨_,_,_,hv⟩
  ·exact⟨_,_,_,hv⟩
 go_wp2
 go_ret2
 refine⟨rfl,?_,?_,(hk1.grown hgrow (Lib.ownsRowF_kind hown)).setCell ⟨b,1,none⟩ rfl _⟩;·exact Lib.BuilderAtF.put (T:=150) (e:=5) hB hb2 (bs':=bs++Lib.strCells s) (by simpa[Lib.strCells_length] using hown') (by decide)
 ·exact(hb1.grown hgrow (by have:=hb1.size;omega) (fun k hk=>(hown.lt k hk).1)).setCell (p:=⟨b,1,none⟩) hB _
end
end Rv
