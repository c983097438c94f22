/- Texts put together. -/
import Derived.Test.YtfphlcngbllgoaaGreatDoorA4
import Derived.ProofKit
import Derived.HandedShaped
import Derived.LaidMore
import Derived.OpenShut
import Derived.Stop.Joined
import Derived.Shelf.Strings.Trim
import Derived.Shelf.Small.Strs
import Derived.Shelf.Small.Wraps
import Derived.Shelf.Strings.BuilderK
import Derived.Shelf.Strconv.Itoa3
import Derived.Shelf.Strconv.ToError
import Derived.Shelf.Strconv.ToErrorRange
import Derived.Shelf.Strings.SplitShaped
import Derived.Test.YtfphlcngbllgoaaGreatDoorProg
import Derived.Lib.AppendIntMem
set_option linter.all false
open Option renaming some→J,none→X
open _root_ renaming congrArg→O,List→U,Nat→G,Bool→zac,Unit→zae,if_neg→zaf
open Go renaming World→Y,Value→M,TypeId→E
open Bool renaming true→Z,false→zaa
namespace Rv
open Go Go.RowKit
def CD.isPlain:CD->zac
 | .int _ | .bool | .str | .err | .ifo _ _=>Z
 |_=>zaa
def CD.isVal:CD->zac
 | .int _ | .bool | .str | .ifo _ _=>Z
 |_=>zaa
def CD.val:(c:CD)->c.T->M
 | .int k,n=>.int k n
 | .bool,b=>.bool b
 | .str,s=>.string (mkS s)
 | .ifo t k,o=>match o with
  |none=>.nilIface
  |some n=>.iface t (.int k n)
 |_,_=>undef
def vV:(l:U CD)->TL l->U M
 |[],_=>[]
 |c::r,x=>c.val x.1::vV r x.2
def aD:G->U CD->U (G×SD)
 |_,[]=>[]
 |i,c::r=>(i,.c c)::aD (i+1) r
def ak(l:U CD):Shape:=⟨aD 0 l,[]⟩
def CD.res:(c:CD)->c.T->M->Prop
 | .int k,n,v=>v=.int k n
 | .bool,b,v=>v=.bool b
 | .str,s,v=>v=.string (mkS s)
 | .err,b,v=>v.oneCell'=Z/\(b=Z->v=.nilIface)/\(b=zaa->∃t x,v=.iface t x)
 | .ifo t k,o,v=>match o with
  |none=>v=.nilIface
  |some n=>v=.iface t (.int k n)
 |_,_,_=>False
def wT:(l:U CD)->TL l->U M->Prop
 |[],_,[]=>True
 |c::r,x,v::vs=>c.res x.1 v/\wT r x.2 vs
 |_,_,_=>False
section
variable{P:Program}{C:Ctx}{γ:Gam}{h:Heap}{w:Y}
theorem gZ:∀(l:U CD) (i:G),((aD i l).flatMap λp=>p.2.cds)=l
 |[],_=>rfl
 |c::r,i=>by simp only[aD,Oz];rw[gZ r (i+1)];rfl
theorem dA:∀(l:U CD) (i:G),(aD i l).map (·.1)=List.range' i l.length
 |[],_=>rfl
 |c::r,i=>by simp only[aD,NY,N7,List.range'_succ];rw[dA r (i+1)]
theorem cu(l:U CD)(i:G):(aD i l).length=l.length:=by
 have:=O List.length (dA l i);simpa using this
theorem bE(l:U CD):(ak l).all=l:=by
 unfold Shape.all ak;simp[gZ]
theorem fU{vals:Array M}:∀(l:U CD) (i:G),aV vals (aD i l)=(List.range' i l.length).map λj=>vals.getD j undef
 |[],_=>rfl
 |c::r,i=>by simp only[aD,aV,N7,List.range'_succ,NY];rw[fU r (i+1)]
theorem iI(vals:Array M):(List.range' 0 vals.size).map (λj=>vals.getD j undef)=vals.toList:=by
 apply List.ext_getElem;·simp
 ·intro i h1 h2;have:i<vals.size:=by simpa using h2
  simp[Array.getD,this]
theorem Dy{nm:Nm}:∀{l:U CD}{x:TL l}{m:G}{vs:U M},l.all CD.isVal=Z->aj (av C γ h w) (mkL nm l x m).1 vs->vs=vV l x
 |[],_,_,vs,_,ha=>by
  cases vs with
  |nil=>rfl
  |cons _ _=>exact ha.elim
 |c::r,x,m,vs,hl,ha=>by
  simp only[Oy,NJ] at hl;cases vs with
  |nil=>exact ha.elim
  |cons v vs=>
   simp only[mkL] at ha;obtain⟨h1,h2⟩:=ha;have:=Dy hl.2 h2;subst this;simp only[vV];congr 1;cases c with
   |int k=>exact h1
   |bool=>exact h1
   |str=>exact h1
   |ifo t k=>
    obtain⟨o,x'⟩:=x;cases o with
    |none=>exact h1
    |some n=>exact h1
   |_=>cases hl.1
theorem pK{nm:Nm}:∀{l:U CD}{x:TL l}{m:G},l.all CD.isPlain=Z->(mkL nm l x m).2.1=[]
 |[],_,_,_=>rfl
 |c::r,x,m,hl=>by
  simp only[Oy,NJ] at hl;simp only[mkL];rw[pK hl.2];cases c<;>first|rfl|cases hl.1
theorem wU{nm:Nm}:∀{l:U CD}{x:TL l}{m:G}{vs:U M},wT l x vs->aj (av C γ h w) (mkL nm l x m).1 vs
 |[],_,_,[],_=>trivial
 |[],_,_,_::_,hr=>hr.elim
 |_::_,_,_,[],hr=>hr.elim
 |c::r,x,m,v::vs,hr=>by
  simp only[mkL];refine⟨?_,wU hr.2⟩;have:=hr.1;cases c with
  |int k=>exact this
  |bool=>exact this
  |str=>exact this
  |err=>exact this
  |ifo t k=>
   obtain⟨o,x'⟩:=x;cases o with
   |none=>exact this
   |some n=>exact this
  |_=>exact this.elim
theorem uk(I:Inv C γ h C.w0)(hn:C.nl=0){w':Y}(hb:Below C.w0.heap.size C.w0 w'):Inv C (λ_=>X) (Heap.ofList []) w' where
 box:=λk e hk=>by cases hk
 inj:=λk k' e e' g c c' hk=>by cases hk
 own:=λk e g c hk=>by cases hk
 frame:=λg hg _=>hb.block g hg
 size:=hb.size
 os:=hb.os
 tape:=hb.tape
 output:=hb.output
 new:=I.new
 rd:=I.rd
 laid:=I.stable C.w0 w' I.laid λg hno=>hb.block g (by
  by_cases hlt:g<C.w0.heap.size;·exact hlt
  ·exact absurd (I.new g (by omega)) hno)
 stable:=I.stable
 lent:=λi hi=>by omega
theorem jg{L:Y->Prop}{f:FuncId}{sp:Spec}{la lr:U CD}(ea:sp.a=ak la)(er:sp.r=ak lr)(ha:la.all CD.isVal=Z)(hr:lr.all CD.isPlain=Z)
  (H:∀(x:TL la) (y:TL lr),sp.f (cast (by rw[ea];show TL la=TL (ak la).all;rw[bE]) x)=J (cast (by rw[er];show TL lr=TL (ak lr).all;rw[bE]) y)->∀w,L w ->
   Calls P f (vV la x).toArray w λe w'=>Below w.heap.size w w'/\∃rs:Array M,e=.returned (if h:rs.size=1 then rs[0] else .tuple rs)/\wT lr y rs.toList):Sat P L f sp:=by
 obtain⟨a,r,g⟩:=sp;simp only at ea er H;subst ea er;intro x y hy C γ vals hCL hCn R;have hCn:C.nl=0:=hCn;have eqT:∀l:U CD,(ak l).T=TL l:=λl=>by show TL (ak l).all=TL l;rw[bE]
 have hw:=H (cast (eqT la) x) (cast (eqT lr) y) (by simp only[cast_cast,cast_eq];exact hy) C.w0 (by rw[<- hCL];exact R.inv.laid);have hsz:vals.size=la.length:=by
  rw[R.size];show(ax _ _ _).1.length=_;rw[bO];simp[ak,cu]
 have castmk:∀(l:U CD) (nm:Nm) (x:(ak l).T) (m:G),mkL nm (ak l).all x m=mkL nm l (cast (eqT l) x) m:=by
  intro l nm x m;have gen:∀(l':U CD) (e:l'=l) (x:TL l') (h:TL l'=TL l),mkL nm l' x m=mkL nm l (cast h x) m:=by
   intro l' e x h;subst e;rfl
  exact gen _ (bE l) x _
 have hvals:vals=(vV la (cast (eqT la) x)).toArray:=by
  have hnd:((ak la).slots.map (·.1)).Nodup:=by
   show((aD 0 la).map (·.1)).Nodup;rw[dA];exact List.nodup_range'
  have hlt:∀i,i∈(ak la).slots.map (·.1)->i<(List.replicate (ak la).slots.length V.dead).length:=λi hi=>by
   have hi:i∈(aD 0 la).map (·.1):=hi;rw[dA] at hi;simp only[List.mem_range'_1] at hi;simp[ak,cu];omega
  have hlen:(mkL nmJ (ak la).all x (ak la).boxes.length).1.length=((ak la).slots.flatMap λp=>p.2.cds).length:=by
   rw[(dB _ _ _ _).2.2,bE];show _=((aD 0 la).flatMap _).length;rw[gZ]
  have hb:=(kI (C:=C) (γ:=γ) (h:=((ak la).mk' nmJ (ak la).slots.length x).h) (w:=C.w0) (vals:=vals) hnd hlt hlen R.slot).1;rw[castmk] at hb;have hv:=Dy ha hb;have hf:aV vals (ak la).slots=vals.toList:=by
   show aV vals (aD 0 la)=_;rw[fU,<- hsz,iI]
  rw[hf] at hv;rw[<- hv]
 rw[hvals];refine hw.mono λe w' ⟨hb,rs,he,hres⟩=>⟨λ_=>X,rs,he,?_⟩
 have hrows:(mkL nmJ (ak lr).all y (ak lr).boxes.length).2.1=[]:=by rw[castmk];exact pK hr
 have hh:((ak lr).mk' nmJ (ak lr).slots.length y).h=Heap.ofList []:=by
  have:((ak lr).mk' nmJ (ak lr).slots.length y).h=Heap.ofList ([]++(mkL nmJ (ak lr).all y (ak lr).boxes.length).2.1):=rfl;rw[this,hrows];rfl
 have hlr:∀{l:U CD}{x:TL l}{vs:U M},wT l x vs->vs.length=l.length:=by
  intro l
  induction l with
  |nil=>intro x vs hr;cases vs with
   |nil=>rfl
   |cons _ _=>exact hr.elim
  |cons c l ih=>intro x vs hr;cases vs with
   |nil=>exact hr.elim
   |cons v vs=>simp[ih hr.2]
 have hrs:rs.size=lr.length:=by have:=hlr hres;simpa using this
 have hcells:=wU (C:=C) (γ:=λ_=>X) (h:=Heap.ofList []) (w:=w') (nm:=nmJ) (m:=(ak lr).boxes.length) hres;rw[<- castmk] at hcells;have hfv:aV rs (ak lr).slots=rs.toList:=by
  show aV rs (aD 0 lr)=_;rw[fU,<- hrs,iI]
 have hok:dF rs (ak lr).slots:=by
  intro i sd hm;have hm:(i,sd)∈aD 0 lr:=hm;have:∀(l:U CD) (j:G),(i,sd)∈aD j l->∃c,sd=.c c:=by
   intro l
   induction l with
   |nil=>intro j hj;simp[aD] at hj
   |cons c l ih=>
    intro j hj;simp only[aD,NT,NI] at hj;rcases hj with hj|hj;·exact⟨c,hj.2⟩
    ·exact ih _ hj
  obtain⟨c,rfl⟩:=this lr 0 hm;trivial
 obtain⟨h1,h2,_⟩:=bK (C:=C) (γ:=λ_=>X) (h:=Heap.ofList []) (w:=w') (vals:=rs) (sl:=(ak lr).slots) (l:=List.replicate (ak lr).slots.length V.dead) (rest:=[]) hok (λi v hi=>by
   rw[List.getElem?_replicate] at hi;split at hi;·simp only[ND] at hi;subst hi;trivial
   ·cases hi) (by rw[hfv,N9];exact hcells)
 refine⟨?_,?_,?_⟩;·show rs.size=(ax _ _ _).1.length;rw[h1,OH,hrs];simp[ak,cu]
 ·rw[hh];exact h2
 ·rw[hh];exact uk R.inv hCn hb
theorem keepCell{w a b:Y}{q:Addr}{u v:M}(h:w.cell? q=J u)(ha:a.cell? q=J v)(hb:∀g,g<w.heap.size->b.heap[g]?=a.heap[g]?):b.cell? q=J v:=
 (World.cell?_of_block (hb _ (World.block_lt_of_cell? w q h))).trans ha
theorem Kg{w a b:Y}{q:Addr}(h:∃te pe,w.cell? q=J (.iface te pe))(ha:∃te pe,a.cell? q=J (.iface te pe))(hb:∀g,g<w.heap.size->b.heap[g]?=a.heap[g]?):∃te pe,b.cell? q=J (.iface te pe):=by
 obtain⟨_,_,h⟩:=h;obtain⟨te,pe,ha⟩:=ha;exact⟨te,pe,keepCell h ha hb⟩
theorem M6{w a b:Y}{q:Addr}{k:IntKind}(h:∃m,w.cell? q=J (.int k m))(ha:∃m,a.cell? q=J (.int k m))(hb:∀g,g<w.heap.size->b.heap[g]?=a.heap[g]?):∃m,b.cell? q=J (.int k m):=by
 obtain⟨_,h⟩:=h;obtain⟨m,ha⟩:=ha;exact⟨m,keepCell h ha hb⟩
theorem KY{w a b:Y}{n:String}{c d:Array M}(h:w.var? P n=J c)(ha:a.var? P n=J d)(hb:∀g,g<w.heap.size->b.heap[g]?=a.heap[g]?):b.var? P n=J d:=by
 unfold World.var? at h ha⊢;cases hg:P.globalNamed n with
 |none=>simp[hg] at h
 |some g=>
  simp only[hg,NE] at h ha⊢;have hlt:g<w.heap.size:=by
   rcases Nat.lt_or_ge g w.heap.size with h'|h';·exact h'
   ·simp[Array.getElem?_eq_none h'] at h
  rw[hb g hlt];exact ha
theorem wJ{w a b:Y}{n:String}{k:IntKind}{zs:U Int}(h:Lib.TabIs P w n k zs)(ha:Lib.TabIs P a n k zs)(hb:∀g,g<w.heap.size->b.heap[g]?=a.heap[g]?):Lib.TabIs P b n k zs:=KY h ha hb
end
end Rv
namespace Rv
open Go Go.RowKit
def fsB(P:Program)(rec:E->Ty->zac):U Field->G->Ty->zac
 |[],_,.nil=>Z
 |f::fs,off,.pair A B=>decide (f.offset=off)&&rec f.type A&&decide (P.cellsOf f.type=A.size)&&fsB P rec fs (off+A.size) B
 |_,_,_=>zaa
def DJ(P:Program)(rec:E->Ty->zac)(e:E):G->Ty->zac
 |0,.nil=>Z
 |n+1,.pair A B=>rec e A&&decide (P.cellsOf e=A.size)&&DJ P rec e n B
 |_,_=>zaa
def tyB(P:Program):G->E->Ty->zac
 |0,_,_=>zaa
 |d+1,t,T=>match T,P.underlying t with
  | .int k,J (.int k')=>decide (k'=k)
  | .bool,J .bool=>Z
  | .str,J .string=>Z
  | .sl T',J (.slice e)=>tyB P d e T'&&decide (P.cellsOf e=T'.size)&&decide (0<T'.size)
  | .nil,J (.struct fs)=>fsB P (tyB P d) fs.toList 0 .nil&&decide (P.cellsOf t=0)
  | .pair A B,J (.struct fs)=>fsB P (tyB P d) fs.toList 0 (.pair A B)&&decide (P.cellsOf t=(Ty.pair A B).size)
  | .pair A B,J (.array n e)=>DJ P (tyB P d) e n (.pair A B)&&decide (P.cellsOf t=(Ty.pair A B).size)
  |_,_=>zaa
def Ty.wf:(T:Ty)->T.D->Prop
 | .int k,n=>(Lit.int k n).wf=Z
 | .bool,_=>True
 | .str,s=>s.length<=reachBytes
 | .sl T,xs=>xs.length<=maxLen/\∀x∈xs,T.wf x
 | .nil,_=>True
 | .fn,_=>True
 | .pair A B,x=>A.wf x.1/\B.wf x.2
theorem xV{α:Type}{p:G->α->Prop}:∀{n:G},(∀i,i<n->∃y,p i y)->∃l:U α,l.length=n/\∀i y,l[i]?=J y->p i y
 |0,_=>⟨[],rfl,λi y h=>by simp at h⟩
 |n+1,h=>by
  obtain⟨l,h1,h2⟩:=xV (n:=n) λi hi=>h i (by omega)
  obtain⟨y,hy⟩:=h n (by omega);refine⟨l++[y],by simp[h1],λi z hz=>?_⟩;rw[List.getElem?_append] at hz;split at hz;·exact h2 i z hz
  ·have:i=n:=by
    have:=(NS.1 hz).1;simp at this;omega
   subst this;simp[h1] at hz;subst hz;exact hy
section
variable{H:Type}{enc:E×M->H}{P:Program}{w:Y}{base:G}{sp:G->zac}{held:zac}
theorem xk{a:Addr}{n:G}{l:U M}(h:w.cells? base a n=J l):l.length=n/\∀j v,l[j]?=J v->w.cell? (a.add j)=J v:=by
 unfold World.cells? at h;split at h
 ·have hl:=mapM_some_length h;refine⟨by simpa using hl,λj v hv=>?_⟩;have hj:j<n:=by have:=(NS.1 hv).1;simp at hl;omega
  have:=mapM_some_get h j j (by simp[hj]);rw[this,hv]
 ·cases h
theorem cell_spot{a:Addr}{v:M}(h:w.cell? a=J v):a.spot=X/\a.block<w.heap.size:=by
 refine⟨?_,World.block_lt_of_cell? w a h⟩;unfold World.cell? at h;split at h
 ·split at h
  ·cases h
  ·rename_i hs;simpa using hs
 ·cases h
theorem BA{e:E}{d:DataW H}{k:G}:∀{l:U (DataW H)},d∈l->k∈d.weights P e->k∈DataW.weightsAll P e l
 |_::_,h,hk=>by
  unfold DataW.weightsAll;rcases NT.1 h with rfl|h;·exact List.mem_append_left _ hk
  ·exact List.mem_append_right _ (BA h hk)
theorem sI{ok:G->Prop}(hok:∀g,g<w.heap.size->ok g):∀(d:G) {t:E} {T:Ty} {fuel:G} {cs:U M} {x:DataW H×U MemPlace},tyB P d t T=Z->DataW.trod enc P w base sp held fuel t cs=J x->(∀k∈x.1.weights P t,k<=reachBytes)->∃y:T.D,Rd w ok T y cs/\T.wf y
 |0,_,_,_,_,_,h,_,_=>by cases h
 |d+1,t,T,fuel,cs,x,h,ht,hW=>by
  have fields:∀(fs:U Field) (off:G) (S:Ty) (xs:U (DataW H×U MemPlace)) (n:G),fsB P (tyB P d) fs off S=Z->xs.length=fs.length->off+S.size<=cs.length ->
    (∀(i:G) (f:Field),fs[i]?=J f->DataW.trod enc P w base sp held n f.type ((cs.drop f.offset).take (P.cellsOf f.type))=xs[i]?)->(∀k∈DataW.weightsEach P (fs.map (·.type)) (xs.map (·.1)),k<=reachBytes)->∃y:S.D,Rd w ok S y ((cs.drop off).take S.size)/\S.wf y:=by
   intro fs
   induction fs with
   |nil=>
    intro off S xs n hf _ _ _ _;cases S with
    |nil=>exact⟨(),by simp[Rd,Ty.size],trivial⟩
    |_=>cases hf
   |cons f fs ih=>
    intro off S xs n hf hl hc hx hws;cases S with
    |pair A B=>
     simp only[fsB,NJ,NH] at hf;obtain⟨⟨⟨h1,h2⟩,h3⟩,h4⟩:=hf;cases xs with
     |nil=>simp at hl
     |cons x0 xs=>
      simp only[Ty.size] at hc;have h0:=hx 0 f rfl;simp only[Oh] at h0;rw[h1,h3] at h0;have hws:∀k∈x0.1.weights P f.type++DataW.weightsEach P (fs.map (·.type)) (xs.map (·.1)),k<=reachBytes:=by
       simpa only[NY,DataW.weightsEach] using hws
      obtain⟨y1,r1,w1⟩:=sI hok d h2 h0 λk hk=>hws k (List.mem_append_left _ hk)
      obtain⟨y2,r2,w2⟩:=ih (off+A.size) B xs n h4 (by simpa using hl) (by omega) (λi f hi=>by
       have:=hx (i+1) f (by simpa using hi);simpa using this) λk hk=>hws k (List.mem_append_right _ hk)
      refine⟨(y1,y2),⟨_,_,?_,r1,r2⟩,w1,w2⟩;simp only[Ty.size];rw[List.take_add,List.drop_drop]
    |_=>cases hf
  have elemz:∀(e:E) (k i:G) (S:Ty) (n:G),DJ P (tyB P d) e k S=Z->i*P.cellsOf e+S.size<=cs.length ->
    (∀j,i<=j->j<i+k->∃z,DataW.trod enc P w base sp held n e ((cs.drop (j*P.cellsOf e)).take (P.cellsOf e))=J z/\∀k∈z.1.weights P e,k<=reachBytes)->∃y:S.D,Rd w ok S y ((cs.drop (i*P.cellsOf e)).take S.size)/\S.wf y:=by
   intro e k
   induction k with
   |zero=>
    intro i S n hf _ _;cases S with
    |nil=>exact⟨(),by simp[Rd,Ty.size],trivial⟩
    |_=>cases hf
   |succ k ih=>
    intro i S n hf hc hx;cases S with
    |pair A B=>
     simp only[DJ,NJ,NH] at hf;obtain⟨⟨h1,h2⟩,h3⟩:=hf;simp only[Ty.size] at hc;obtain⟨z,hz,hzw⟩:=hx i (NL _) (by omega);obtain⟨y1,r1,w1⟩:=sI hok d h1 hz hzw;have e1:(i+1)*P.cellsOf e=i*P.cellsOf e+A.size:=by rw[Nat.succ_mul,h2]
     obtain⟨y2,r2,w2⟩:=ih (i+1) B n h3 (by omega) λj hj1 hj2=>hx j (by omega) (by omega)
     rw[e1] at r2;rw[h2] at r1 r2;refine⟨(y1,y2),⟨_,_,?_,r1,r2⟩,w1,w2⟩;simp only[Ty.size];rw[List.take_add,List.drop_drop,h2]
    |_=>cases hf
  unfold tyB at h;split at h
  ·rename_i k k' hu;have:k'=k:=by simpa using h
   subst this;obtain⟨n,rfl,_,hw⟩:=DataW.trod_int hu ht;exact⟨n,rfl,hw⟩
  ·rename_i hu;obtain⟨b,rfl,_⟩:=DataW.trod_bool hu ht;exact⟨b,rfl,trivial⟩
  ·rename_i hu;obtain⟨s,rfl,rfl,hs⟩:=DataW.trod_string hu ht;exact⟨s.data.toList,rfl,by simpa[Ty.wf,DataW.weights] using hW⟩
  ·rename_i T' e hu;simp only[NJ,NH] at h;obtain⟨⟨h1,h2⟩,h3⟩:=h;rcases DataW.trod_slice hu ht with⟨rfl,_⟩|⟨a,len,cap,elems,rest,n,_,rfl,rfl,_,hl,hcm,hlen,hel,_⟩
   ·exact⟨[],⟨X,0,by simp,by simp,λi x e=>by simp at e⟩,by simp[Ty.wf]⟩
   ·rw[h2] at hel;have each:∀i,i<len->∃y:T'.D,∃ds,w.cells? base (a.add (i*T'.size)) T'.size=J ds/\Rd w ok T' y ds/\T'.wf y:=by
     intro i hi;have:=hel i hi;have hs:elems[i]?=J elems[i]:=by simp[hlen,hi]
     rw[hs] at this;simp only[Option.bind_eq_some_iff] at this;obtain⟨ds,hd1,hd2⟩:=this;obtain⟨y,hy1,hy2⟩:=sI hok d h1 hd2 λk hk=>hW k (by
      unfold DataW.weights;rw[hu];exact NU _ (List.mem_append_left _ (BA (List.mem_map_of_mem (Oo (by omega))) hk)))
     exact⟨y,ds,hd1,hy1,hy2⟩
    obtain⟨ys,hyl,hys⟩:=xV (p:=λi (y:T'.D)=>∃ds,w.cells? base (a.add (i*T'.size)) T'.size=J ds/\Rd w ok T' y ds/\T'.wf y) each;have spot:0<len->a.spot=X/\a.block<w.heap.size:=by
     intro hpos;obtain⟨y,ds,hd,_,_⟩:=each 0 hpos;obtain⟨hdl,hdc⟩:=xk hd;have:0<ds.length:=by omega
     have hv:=hdc 0 ds[0] (by simp[this]);obtain⟨s1,s2⟩:=cell_spot hv;have e0:(a.add (0*T'.size)).add 0=a:=by simp[Addr.add]
     rw[e0] at s1 s2;exact⟨s1,s2⟩
    refine⟨ys,⟨J a,cap,by rw[hyl],by omega,λi x hi=>?_⟩,by simp only[hyl];omega,λx hx=>?_⟩
    ·obtain⟨ds,hd1,hd2,_⟩:=hys i x hi;have hil:i<len:=by have:=(NS.1 hi).1;omega
     obtain⟨s1,s2⟩:=spot (by omega);obtain⟨g,o,s⟩:=a;simp only at s1 s2;subst s1;refine⟨g,o,ds,rfl,hok g s2,s2,hd2,λj v hj=>?_⟩;have:=(xk hd1).2 j v hj
     rwa [gu,gu] at this
    ·obtain⟨i,hi,rfl⟩:=List.getElem_of_mem hx;obtain⟨_,_,_,hw⟩:=hys i ys[i] (by simp);exact hw
  ·rename_i fs hu;simp only[NJ,NH] at h;obtain⟨h1,h2⟩:=h;obtain⟨xs,n,_,_,hcl,hxl,hx⟩:=DataW.trod_struct hu ht;have:cs=[]:=List.length_eq_zero_iff.1 (by omega);subst this;exact⟨(),rfl,trivial⟩
  ·rename_i A B fs hu;simp only[NJ,NH] at h;obtain⟨h1,h2⟩:=h;obtain⟨xs,n,_,rfl,hcl,hxl,hx⟩:=DataW.trod_struct hu ht;obtain⟨y,hy,hw⟩:=fields fs.toList 0 (.pair A B) xs n h1 (by simpa using hxl) (by omega) (λi f hi=>hx i f (by simpa using hi)) λk hk=>hW k (by
    unfold DataW.weights;rw[hu];exact hk)
   rw[Om,<- h2,<- hcl,List.take_length] at hy;exact⟨y,hy,hw⟩
  ·rename_i A B n e hu;simp only[NJ,NH] at h;obtain⟨h1,h2⟩:=h;obtain⟨xs,m,_,rfl,hcl,hxl,hx⟩:=DataW.trod_array hu ht;obtain⟨y,hy,hw⟩:=elemz e n 0 (.pair A B) m h1 (by omega) λj _ hj=>⟨xs[j]'(by omega),by rw[hx j (by omega)];simp,λk hk=>hW k (by
    unfold DataW.weights;rw[hu];exact BA (List.mem_map_of_mem (Oo (by omega))) hk)⟩
   rw[Nat.zero_mul,Om,<- h2,<- hcl,List.take_length] at hy;exact⟨y,hy,hw⟩
  ·cases h
end
def Ty.cds:Ty->U CD
 | .int k=>[.int k]
 | .bool=>[.bool]
 | .str=>[.str]
 | .sl t=>[.sl t]
 | .nil=>[]
 | .fn=>[.fn]
 | .pair a b=>a.cds++b.cds
def mQ(Ts:U Ty):U SD:=Ts.map λT=>if T.isAgg then .agg T.cds else match T.cds with|[c]=>.c c|l=>.agg l
def di:G->U SD->U (G×SD)
 |_,[]=>[]
 |i,s::r=>(i,s)::di (i+1) r
def aX(Ts:U Ty):Shape:=⟨di 0 (mQ Ts),[]⟩
def wfL:(l:U CD)->TL l->Prop
 |[],_=>True
 | .int k::r,x=>(Lit.int k x.1).wf=Z/\wfL r x.2
 | .str::r,x=>x.1.length<=reachBytes/\wfL r x.2
 | .sl t::r,x=>(Ty.sl t).wf x.1/\wfL r x.2
 |_::r,x=>wfL r x.2
def kU:(l m:U CD)->TL l->TL m->TL (l++m)
 |[],_,_,y=>y
 |_::l,m,x,y=>(x.1,kU l m x.2 y)
section
variable{P:Program}{C:Ctx}{γ:Gam}{h:Heap}{w:Y}
theorem dh:∀{l m:U CD}{x:TL l}{y:TL m},wfL l x->wfL m y->wfL (l++m) (kU l m x y)
 |[],_,_,_,_,hy=>hy
 | .int k::l,m,x,y,hx,hy=>⟨hx.1,dh hx.2 hy⟩
 | .str::l,m,x,y,hx,hy=>⟨hx.1,dh hx.2 hy⟩
 | .sl t::l,m,x,y,hx,hy=>⟨hx.1,dh hx.2 hy⟩
 | .bool::l,m,x,y,hx,hy=>dh (l:=l) hx hy
 | .row _ _::l,m,x,y,hx,hy=>dh (l:=l) hx hy
 | .ptr _ _::l,m,x,y,hx,hy=>dh (l:=l) hx hy
 | .clr _ _::l,m,x,y,hx,hy=>dh (l:=l) hx hy
 | .slc _::l,m,x,y,hx,hy=>dh (l:=l) hx hy
 | .raw _::l,m,x,y,hx,hy=>dh (l:=l) hx hy
 | .err::l,m,x,y,hx,hy=>dh (l:=l) hx hy
 | .ifo _ _::l,m,x,y,hx,hy=>dh (l:=l) hx hy
 | .any::l,m,x,y,hx,hy=>dh (l:=l) hx hy
 | .fn::l,m,x,y,hx,hy=>dh (l:=l) hx hy
 | .pp _::l,m,x,y,hx,hy=>dh (l:=l) hx hy
theorem wO{nm:Nm}:∀{l m:U CD}{x:TL l}{y:TL m}{k:G},(∀c∈l,c.isRow=zaa)->(mkL nm (l++m) (kU l m x y) k).1=(mkL nm l x k).1++(mkL nm m y k).1/\(mkL nm (l++m) (kU l m x y) k).2.1=(mkL nm l x k).2.1++(mkL nm m y k).2.1
 |[],_,_,_,_,_=>⟨rfl,rfl⟩
 |c::l,m,x,y,k,hr=>by
  have hc:(c.mk nm x.1 k).2.2=k:=by
   have:=hr c (by simp);cases c<;>first|rfl|cases this
  have ih:=wO (nm:=nm) (l:=l) (m:=m) (x:=x.2) (y:=y) (k:=k) λc hc=>hr c (by simp[hc])
  simp only[List.cons_append,mkL,kU,hc,ih.1,ih.2];exact⟨trivial,by rw[NW]⟩
theorem Ty.cds_row:∀(T:Ty),∀c∈T.cds,c.isRow=zaa
 | .int _,c,h=>by simp[Ty.cds] at h;rw[h];rfl
 | .bool,c,h=>by simp[Ty.cds] at h;rw[h];rfl
 | .str,c,h=>by simp[Ty.cds] at h;rw[h];rfl
 | .sl _,c,h=>by simp[Ty.cds] at h;rw[h];rfl
 | .nil,c,h=>by simp[Ty.cds] at h
 | .fn,c,h=>by simp[Ty.cds] at h;rw[h];rfl
 | .pair a b,c,h=>by
  simp only[Ty.cds,NV] at h;exact h.elim (Ty.cds_row a c) (Ty.cds_row b c)
theorem x9{nm:Nm}:∀{l:U CD}{x:TL l}{k:G},(∀c∈l,c.isRow=zaa)->(mkL nm l x k).2.1=[]
 |[],_,_,_=>rfl
 |c::l,x,k,hr=>by
  simp only[mkL];rw[x9 λc hc=>hr c (by simp[hc])];have:=hr c (by simp);cases c<;>first|rfl|cases this
theorem EF{nm:Nm}:∀{T:Ty}{y:T.D}{cs:U M},Rd w (okb C γ h X) T y cs->T.wf y->∃x:TL T.cds,wfL T.cds x/\∀k,aj (av C γ h w) (mkL nm T.cds x k).1 cs
 | .int k,y,cs,hr,hw=>⟨(y,()),⟨hw,trivial⟩,λm=>by rw[show cs=_ from hr];exact⟨rfl,trivial⟩⟩
 | .bool,y,cs,hr,hw=>⟨(y,()),trivial,λm=>by rw[show cs=_ from hr];exact⟨rfl,trivial⟩⟩
 | .str,y,cs,hr,hw=>⟨(y,()),⟨hw,trivial⟩,λm=>by rw[show cs=_ from hr];exact⟨rfl,trivial⟩⟩
 | .sl t,y,cs,hr,hw=>by
  refine⟨(y,()),⟨hw,trivial⟩,λm=>?_⟩;obtain⟨A,c,hcs,hrest⟩:=hr;subst hcs;exact⟨⟨rfl,RdS.iff.2 ⟨A,c,rfl,hrest⟩⟩,trivial⟩
 | .nil,y,cs,hr,hw=>⟨(),trivial,λm=>by rw[show cs=_ from hr];trivial⟩
 | .fn,y,cs,hr,hw=>by
  obtain⟨gs,rfl,ha⟩:=hr;exact⟨(y,()),trivial,λm=>⟨⟨rfl,gs,rfl,ha⟩,trivial⟩⟩
 | .pair a b,y,cs,hr,hw=>by
  obtain⟨c1,c2,rfl,h1,h2⟩:=hr;obtain⟨x1,w1,r1⟩:=EF h1 hw.1;obtain⟨x2,w2,r2⟩:=EF h2 hw.2;refine⟨kU _ _ x1 x2,dh w1 w2,λm=>?_⟩;show aj _ (mkL nm (a.cds++b.cds) (kU a.cds b.cds x1 x2) m).1 _;rw[(wO (Ty.cds_row a)).1];exact(r1 m).append (r2 m)
theorem qj:∀(Ts:U Ty) (i:G),((di i (mQ Ts)).flatMap λp=>p.2.cds)=Ts.flatMap Ty.cds
 |[],_=>rfl
 |T::r,i=>by
  have:=qj r (i+1);simp only[mQ,NY,di,Oz] at this⊢;rw[this];congr 1;split;·rfl
  ·split
   ·rename_i hc;rw[hc];rfl
   ·rfl
theorem jh(Ts:U Ty):(aX Ts).all=Ts.flatMap Ty.cds:=by
 unfold Shape.all aX;rw[qj];simp
theorem ql:∀(l:U SD) (i:G),(di i l).length=l.length
 |[],_=>rfl
 |_::l,i=>by simp[di,ql l]
def top(w:Y)(L:Y->Prop):Ctx:={ w0:=w,own:=λg=>w.heap.size<=g,rd:=λ_=>True,L:=L }
theorem Dv{L:Y->Prop}(hL:L w)(hst:∀a b:Y,L a->(∀g,g<w.heap.size->b.heap[g]?=a.heap[g]?)->L b):Inv (top w L) (λ_=>X) (Heap.ofList []) w where
 box:=λk e hk=>by cases hk
 inj:=λk k' e e' g c c' hk=>by cases hk
 own:=λk e g c hk=>by cases hk
 frame:=λ_ _ _=>rfl
 size:=NL _
 os:=rfl
 tape:=rfl
 output:=rfl
 new:=λ_ h=>h
 rd:=λ_ _=>trivial
 laid:=hL
 stable:=λa b ha hb=>hst a b ha λg hg=>hb g (by show ¬w.heap.size<=g;omega)
 lent:=λi hi=>absurd hi (Nat.not_lt_zero i)
theorem J7{t:E}{T:Ty}{d:G}{r:Reach}{base:G}{v:M}(h:tyB P d t T=Z)(hv:Value.okWide P w r base t v):if T.isAgg then ∃us:U M,v=.agg us.toArray else v.cells.toList=[v]:=by
 cases d with
 |zero=>cases h
 |succ d=>
  unfold tyB at h;split at h;·rename_i hu;simp only[Ty.isAgg,Bool.false_eq_true,if_false];unfold Value.okWide at hv;rw[hu] at hv;simp only at hv;unfold Cell.okWide Cell.ok at hv;rw[hu] at hv;cases v<;>first|rfl|simp at hv
  ·rename_i hu;obtain⟨b,rfl⟩:=WideShapes.okWide_bool hu hv;simp[Ty.isAgg,Value.cells]
  ·rename_i hu;simp only[Ty.isAgg,Bool.false_eq_true,if_false];unfold Value.okWide at hv;rw[hu] at hv;simp only at hv;unfold Cell.okWide Cell.ok at hv;rw[hu] at hv;cases v<;>first|rfl|simp at hv
  ·rename_i hu;obtain⟨a,l,c,rfl⟩:=WideShapes.okWide_slice hu hv;simp[Ty.isAgg,Value.cells]
  ·rename_i hu;obtain⟨cs,rfl,_⟩:=WideShapes.okWide_struct hu hv;exact⟨cs.toList,by simp⟩
  ·rename_i hu;obtain⟨cs,rfl,_⟩:=WideShapes.okWide_struct hu hv;exact⟨cs.toList,by simp⟩
  ·rename_i hu;simp only[Value.okWide,hu] at hv;obtain⟨cs,rfl,_⟩:=hv;exact⟨cs.toList,by simp⟩
  ·cases h
theorem Cn{H:Type}{enc:E×M->H}{base:G}{sp:G->zac}{held:zac}{nm:Nm}{r:Reach}{b0:G}(hok:∀g,g<w.heap.size->okb C γ h X g){vals:Array M}:∀{ts:U E}{Ts:U Ty}{vs:U M}{ds:U (DataW H)}{p:U MemPlace} (i:G),
  DataW.TrodAll enc P w base sp held ts vs ds p->(∀k∈DataW.weightsEach P ts ds,k<=reachBytes)->aj (λt T=>tyB P 20 t T=Z) ts Ts->(∀(j:G) t v,ts[j]?=J t->vs[j]?=J v->Value.okWide P w r b0 t v)->(∀(j:G) v,vs[j]?=J v->vals.getD (i+j) undef=v) ->
  ∃x:TL (Ts.flatMap Ty.cds),wfL _ x/\(∀k,aj (av C γ h w) (mkL nm (Ts.flatMap Ty.cds) x k).1 (aV vals (di i (mQ Ts))))/\dF vals (di i (mQ Ts))
 |[],[],[],[],_,i,_,_,_,_,_=>⟨(),trivial,λk=>trivial,λj ds hm=>by simp[di,mQ] at hm⟩
 |t::ts,T::Ts,v::vs,d::ds,p,i,hA,hW,hT,hv,hvals=>by
  obtain⟨p1,q1,⟨fuel,ht⟩,hrest,_⟩:=hA;have hW:∀k∈d.weights P t++DataW.weightsEach P ts ds,k<=reachBytes:=by simpa only[DataW.weightsEach] using hW
  obtain⟨x2,w2,r2,s2⟩:=Cn hok (i+1) hrest (λk hk=>hW k (List.mem_append_right _ hk)) hT.2 (λj t v h1 h2=>hv (j+1) t v (by simpa using h1) (by simpa using h2)) (λj v hj=>by have:=hvals (j+1) v (by simpa using hj);rwa [show i+1+j=i+(j+1) by omega]);obtain⟨y,hy,hyw⟩:=sI hok 20 hT.1 ht λk hk=>hW k (List.mem_append_left _ hk)
  obtain⟨x1,w1,r1⟩:=EF (C:=C) (γ:=γ) (h:=h) (nm:=nm) hy hyw;have hvi:vals.getD i undef=v:=hvals 0 v rfl;have form:=J7 hT.1 (hv 0 t v rfl rfl);refine⟨kU T.cds (Ts.flatMap Ty.cds) x1 x2,dh w1 w2,λk=>?_,?_⟩
  ·show aj _ (mkL nm (T.cds++Ts.flatMap Ty.cds) (kU T.cds (Ts.flatMap Ty.cds) x1 x2) k).1 _;rw[(wO (Ty.cds_row T)).1];simp only[mQ,NY,di];by_cases ha:T.isAgg=Z
   ·rw[if_pos ha];simp only[aV,hvi];exact(r1 k).append (r2 k)
   ·rw[zaf ha];rw[zaf ha] at form;have r1k:=r1 k;rw[form] at r1k;cases T with
    |int k'=>simp only[Ty.cds,aV,hvi];exact r1k.append (r2 k)
    |bool=>simp only[Ty.cds,aV,hvi];exact r1k.append (r2 k)
    |str=>simp only[Ty.cds,aV,hvi];exact r1k.append (r2 k)
    |sl t'=>simp only[Ty.cds,aV,hvi];exact r1k.append (r2 k)
    |nil=>exact absurd rfl ha
    |fn=>simp only[Ty.cds,aV,hvi];exact r1k.append (r2 k)
    |pair a b=>exact absurd rfl ha
  ·intro j ds hm;simp only[mQ,NY,di,NT,NI] at hm;rcases hm with⟨rfl,hm⟩|hm
   ·by_cases ha:T.isAgg=Z
    ·rw[if_pos ha] at hm form;subst hm;obtain⟨us,rfl⟩:=form;refine⟨us,hvi,?_⟩;have:=(r1 0).length;rw[(dB _ _ _ _).2.2] at this;simpa[Value.cells] using this.symm
    ·rw[zaf ha] at hm;subst hm;cases T<;>first|exact trivial|exact absurd rfl ha
   ·exact s2 j ds hm
 |[],[],[],_::_,_,_,hA,_,_,_,_=>hA.elim
 |[],[],_::_,_,_,_,hA,_,_,_,_=>by cases hA
 |[],_::_,_,_,_,_,_,_,hT,_,_=>hT.elim
 |_::_,[],_,_,_,_,_,_,hT,_,_=>hT.elim
 |_::_,_::_,[],_,_,_,hA,_,_,_,_=>by cases hA
 |_::_,_::_,_::_,[],_,_,hA,_,_,_,_=>by cases hA
theorem law_calls{H:Type}{enc:E×M->H}{base:G}{sp:G->zac}{held:zac}{r:Reach}{b0:G}{L:Y->Prop}{f:FuncId}{Ts:U Ty}{g:(aX Ts).T->Option (ak [CD.bool]).T}(hs:Sat P L f ⟨aX Ts,ak [.bool],g⟩)
  (hg:∀x:(aX Ts).T,wfL (aX Ts).all x->g x=J (Z,())) (hL:L w) (hst:∀a b:Y,L a->(∀g,g<w.heap.size->b.heap[g]?=a.heap[g]?)->L b)
  {ts:U E} {args:Array M} {ds:U (DataW H)} {p:U MemPlace} (hA:DataW.TrodAll enc P w base sp held ts args.toList ds p) (hW:(DataW.weightsEach P ts ds).all (·<=reachBytes)=Z) (hT:aj (λt T=>tyB P 20 t T=Z) ts Ts) (hv:∀(j:G) t v,ts[j]?=J t->args[j]?=J v->Value.okWide P w r b0 t v) :
  Calls P f args w λe w'=>e=.returned (.bool Z)/\Below w.heap.size w w':=by
 have I:=Dv (w:=w) hL hst;obtain⟨x',hw',hr,hok⟩:=Cn (C:=top w L) (γ:=λ_=>X) (h:=Heap.ofList []) (nm:=nmJ) (vals:=args) (r:=r) (b0:=b0) (λg _=>⟨trivial,λk e c hk=>by cases hk⟩) 0 hA (λk hk=>by simpa using Oa.1 hW k hk) hT (λj t v h1 h2=>hv j t v h1 (by rw[<- Array.getElem?_toList];exact h2)) (λj v hj=>by
  rw[Nat.zero_add,Array.getD_eq_getD_getElem?,<- Array.getElem?_toList,hj];rfl)
 have eqT:TL (Ts.flatMap Ty.cds)=(aX Ts).T:=by show _=TL (aX Ts).all;rw[jh]
 have castmk:∀(l:U CD) (e:l=Ts.flatMap Ty.cds) (h:TL (Ts.flatMap Ty.cds)=TL l) (k:G),mkL nmJ l (cast h x') k=mkL nmJ (Ts.flatMap Ty.cds) x' k:=by
  intro l e h k;subst e;rfl
 have castwf:∀(l:U CD) (e:l=Ts.flatMap Ty.cds) (h:TL (Ts.flatMap Ty.cds)=TL l),wfL l (cast h x'):=by
  intro l e h;subst e;exact hw'
 have hx:=hg (cast eqT x') (castwf _ (jh Ts) eqT);have hlen:aj (λt T=>tyB P 20 t T=Z) ts Ts->ts.length=Ts.length:=λh=>h.length
 have hla:∀{ts:U E}{vs:U M}{ds:U (DataW H)}{p:U MemPlace},DataW.TrodAll enc P w base sp held ts vs ds p->vs.length=ts.length:=by
  intro ts
  induction ts with
  |nil=>intro vs ds p h;cases vs with
   |nil=>rfl
   |cons _ _=>cases h
  |cons t ts ih=>intro vs ds p h;cases vs with
   |nil=>cases h
   |cons v vs=>cases ds with
    |nil=>cases h
    |cons d ds=>obtain⟨_,_,_,hr,_⟩:=h;simp[ih hr]
 have hsz:args.size=(aX Ts).slots.length:=by
  have h1:=hla hA;have h2:=hlen hT;simp only[Array.length_toList] at h1;show _=(di 0 (mQ Ts)).length;rw[ql,mQ,Ow];omega
 have hrows:(mkL nmJ (aX Ts).all (cast eqT x') (aX Ts).boxes.length).2.1=[]:=by
  rw[castmk _ (jh Ts) eqT];exact x9 λc hc=>by
   obtain⟨T,_,hc⟩:=List.mem_flatMap.1 hc;exact Ty.cds_row T c hc
 have hh:((aX Ts).mk' nmJ (aX Ts).slots.length (cast eqT x')).h=Heap.ofList []:=by
  have:((aX Ts).mk' nmJ (aX Ts).slots.length (cast eqT x')).h=Heap.ofList ([]++(mkL nmJ (aX Ts).all (cast eqT x') (aX Ts).boxes.length).2.1):=rfl;rw[this,hrows];rfl
 obtain⟨h1,h2,_⟩:=bK (C:=top w L) (γ:=λ_=>X) (h:=Heap.ofList []) (w:=w) (vals:=args) (sl:=(aX Ts).slots) (l:=List.replicate (aX Ts).slots.length V.dead) (rest:=[]) hok (λi v hi=>by
   rw[List.getElem?_replicate] at hi;split at hi;·simp only[ND] at hi;subst hi;trivial
   ·cases hi) (by rw[N9];exact hr (aX Ts).boxes.length)
 have R:Rel (top w L) (λ_=>X) (top w L).w0 ((aX Ts).mk' nmJ (aX Ts).slots.length (cast eqT x')) args:=by
  refine⟨?_,?_,?_⟩;·show args.size=(ax _ _ _).1.length;rw[bO,OH,hsz]
  ·rw[hh];intro i v hi;refine h2 i v ?_;rw[<- castmk _ (jh Ts) eqT];exact hi
  ·rw[hh];exact I
 refine(hs (cast eqT x') (Z,()) hx (top w L) (λ_=>X) args rfl rfl R).mono λe w' ⟨γ',rs,he,R'⟩=>?_
 have hb:rs=#[.bool Z]:=by
  have h0:=R'.slot 0 (.v (.c (.bool Z))) rfl;have hsz':rs.size=1:=R'.size;have h0:rs.getD 0 undef=.bool Z:=h0
  match rs,hsz',h0 with
  |⟨[v]⟩,_,h0=>simp at h0;rw[h0]
 subst hb;refine⟨he,R'.inv.os,R'.inv.tape,R'.inv.output,R'.inv.size,λk hk=>R'.inv.frame k hk (by show ¬w.heap.size<=k;omega)⟩
end
end Rv
namespace Rv
open Go Go.RowKit Go.ChangeShapes Go.WideShapes
section
variable{H:Type}{enc:E×M->H}{P:Program}
theorem sU{w:Y}:∀{l:U (String×DataW zae)}{ps:U MemPlace},DataW.LaidVars P w l ps->∀n d,(n,d)∈l ->
  ∃g t cs fuel p,P.globalNamed n=J g/\(P.globals[g]?).map (·.type)=J t/\w.var? P n=J cs/\DataW.trod (λ_=>()) P w 0 (λ_=>Z) zaa fuel t cs.toList=J (d,p)
 |[],_,_,n,d,hm=>by cases hm
 |(n',d')::l,ps,h,n,d,hm=>by
  obtain⟨g,t,cs,fuel,p,q,h1,h2,h3,h4,h5,_⟩:=h;rcases NT.1 hm with e|hm;·cases e;exact⟨g,t,cs,fuel,p,h1,h2,h3,h4⟩
  ·exact sU h5 n d hm
theorem wM{w:Y}{l:U (String×DataW zae)}(h:laidMetH P l w){n:String}{d:DataW zae}(hm:(n,d)∈l.filter λx=>x.2.handleName?.isNone) :
  ∃g t cs fuel p,P.globalNamed n=J g/\(P.globals[g]?).map (·.type)=J t/\w.var? P n=J cs/\DataW.trod (λ_=>()) P w 0 (λ_=>Z) zaa fuel t cs.toList=J (d,p):=by
 have hl:laidMet P (l.filter λx=>x.2.handleName?.isNone) w:=by
  unfold laidMetH at h;split at h
  ·rename_i hf;have:l.filter (λx=>x.2.handleName?.isNone)=l:=by
    rw[List.filter_eq_self];intro a ha;have:=List.filter_eq_nil_iff.1 hf a ha;cases hh:a.2.handleName? with
    |none=>rfl
    |some _=>rw[hh] at this;simp at this
   rw[this];exact h
  ·exact h.1
 obtain⟨ps,hv,_⟩:=hl;exact sU hv n d hm
theorem laid_tab{w:Y}{l:U (String×DataW zae)}(h:laidMetH P l w){n:String}{k:IntKind}{zs:U Int}(hm:(n,Lib.tabData k zs)∈l.filter λx=>x.2.handleName?.isNone)
  {g:G} {t e:E} {m:G} (hg:P.globalNamed n=J g) (hty:(P.globals[g]?).map (·.type)=J t) (ht:P.underlying t=J (.array m e)) (he:P.underlying e=J (.int k)) (hce:P.cellsOf e=1) (hct:P.cellsOf t=m):Lib.TabIs P w n k zs:=by
 obtain⟨g',t',cs,fuel,p,hg',ht',hvar,hd⟩:=wM h hm;obtain rfl:=NF (hg.symm.trans hg');obtain rfl:=NF (hty.symm.trans ht');unfold Lib.TabIs;rw[hvar,<- Lib.cells_of_tab ht he hce hct hd]
theorem laid_iface{w:Y}{l:U (String×DataW zae)}(h:laidMetH P l w){n ty:String}{x:DataW zae}(hm:(n,DataW.iface ty x)∈l.filter λx=>x.2.handleName?.isNone)
  {g:G} {t:E} {ms} (hg:P.globalNamed n=J g) (hty:(P.globals[g]?).map (·.type)=J t) (ht:P.underlying t=J (.interface ms)):∃te pe,w.cell? ⟨g,0,X⟩=J (.iface te pe):=by
 obtain⟨g',t',cs,fuel,p,hg',ht',hvar,hd⟩:=wM h hm;obtain rfl:=NF (hg.symm.trans hg');obtain rfl:=NF (hty.symm.trans ht');cases fuel with
 |zero=>simp[DataW.trod] at hd
 |succ fuel=>
  unfold DataW.trod at hd;rw[ht] at hd;have hc:∃u v,cs.toList=[.iface u v]:=by
   split at hd<;>first|(simp_all;done)|exact⟨_,_,by assumption⟩|(cases hd;done)|skip
  obtain⟨u,v,hc⟩:=hc;refine⟨u,v,?_⟩;have:=World.var?_cell hg hvar 0;rw[Array.eq_one_of_toList hc] at this;simpa using this
theorem pY(hl:laidOutB P=Z){W W':Y}:∀{ts:U E}{vs:U M}{ds:U (DataW H)}{p:U MemPlace},DataW.TrodAll enc P W 0 (λ_=>Z) Z ts vs ds p->(∀t∈ts,P.readableRec t=Z/\t<P.types.size) ->
  Below W.heap.size W W'->DataW.TrodAll enc P W' 0 (λb=>decide (b<W.heap.size)) Z ts vs ds p
 |[],[],[],p,h,_,_=>h
 |t::ts,v::vs,d::ds,p,h,hr,hb=>by
  obtain⟨p1,q1,ht,hrest,hp⟩:=h;refine⟨p1,q1,?_,pY hl hrest (λt ht=>hr t (by simp[ht])) hb,hp⟩;obtain⟨h1,h2⟩:=hr t (by simp);refine Below.trod hl h1 h2 ht hb ?_;obtain⟨n,hn⟩:=ht;exact DataW.trod_lt n _ _ _ hn
 |[],[],_::_,_,h,_,_=>h.elim
 |[],_::_,_,_,h,_,_=>by cases h
 |_::_,[],_,_,h,_,_=>by cases h
 |_::_,_::_,[],_,h,_,_=>by cases h
theorem law_lifted{C:Checked}{os:Os}{f:FuncId}{fn:Func}{s:ChangeSpec}{laid:U (String×DataW zae)}(own:ownKnob C.prog.godebug=X)(started:os.Started)(noInit:C.prog.inits.idxOf? f=X)(hfn:C.prog.funcs[f]?=J fn)
  (hlo:laidOutB C.prog=Z) (hread:∀t∈fn.params.toList,C.prog.readableRec t=Z/\t<C.prog.types.size) {bT:E} (hres:fn.resultTypes=#[bT]) (hbT:C.prog.underlying bT=J .bool)
  (hvars:s.vars=[]) (hspec:∀ds:U (DataW H),ds.length=fn.params.toList.length->s.fn H (ds++[])={ results:=[.lit (.bool Z)],args:=ds })
  (witness:∃(w:Y) (tape:Tape) (i:Input),w.os=os/\(w.forCall tape i).Shaped C.prog/\i.vars=[]/\Input.okWide C.prog (w.forCall tape i) .any w.heap.size f i /\
   ((s.pre enc C.prog fn [] zaa (w.forCall tape i).memory i.args/\laidMetH C.prog laid (w.forCall tape i).memory)/\sizedMet enc C.prog fn (OpenSpec.ofChange s) zaa (w.forCall tape i).memory i.args)/\({}:Assume).holds C.prog (lone (Frame.enter C.prog f i.args .normal) [] (w.forCall tape i)))
  (hcall:∀(W:Y) (base:G) (args:Array M) (ds:U (DataW H)) (p:U MemPlace),(∀(j:G) t v,fn.params.toList[j]?=J t->args[j]?=J v->Value.okWide C.prog W .any base t v) ->
   DataW.TrodAll enc C.prog W 0 (λ_=>Z) Z fn.params.toList args.toList ds p->(DataW.weightsEach C.prog fn.params.toList ds).all (·<=reachBytes)=Z->laidMetH C.prog laid W->W.ShapedOpen C.prog ->
   Calls C.prog f args W λe w'=>e=.returned (.bool Z)/\Below W.heap.size W w') :
  ReturnsInHanded {} C os f .any (λw args=>(s.pre enc C.prog fn [] zaa w args/\laidMetH C.prog laid w)/\sizedMet enc C.prog fn (OpenSpec.ofChange s) zaa w args) (s.post enc C.prog fn zaa Z zaa zaa):=by
 refine returnsInHanded_of_calls own started noInit witness ?_;intro w tape i _ hsh _ hok hpre hholds;obtain⟨_,_,_,fn',hfn',_,_,_,_,hval⟩:=hok;have e:fn'=fn:=NF (hfn'.symm.trans hfn);subst e;obtain⟨⟨⟨ds,gs,before,hw,_⟩,hx⟩,hz⟩:=hpre;have hw':=DataW.Whole.of_heap (w':=w.forCall tape i) (by rfl) hw;have hx':laidMetH C.prog laid (w.forCall tape i):=laidMetH.of_heap (w:=(w.forCall tape i).memory) (by rfl) hx;have hz':=hz.weights hw;obtain⟨p,q,hA,hV,hbef,hfz,hnd⟩:=hw';rw[hvars] at hV;obtain⟨rfl,rfl⟩:=trodVars_none hV;have hlen:ds.length=fn'.params.toList.length:=by
  have:∀{ts:U E}{vs:U M}{ds:U (DataW H)}{p:U MemPlace},DataW.TrodAll enc C.prog (w.forCall tape i) 0 (λ_=>Z) Z ts vs ds p->ds.length=ts.length:=by
   intro ts
   induction ts with
   |nil=>intro vs ds p h;cases vs with
    |nil=>cases ds with
     |nil=>rfl
     |cons _ _=>exact h.elim
    |cons _ _=>cases h
   |cons t ts ih=>intro vs ds p h;cases vs with
    |nil=>cases h
    |cons v vs=>cases ds with
     |nil=>cases h
     |cons d ds=>obtain⟨_,_,_,hr,_⟩:=h;simp[ih hr]
  exact this hA
 have hwt:(DataW.weightsEach C.prog fn'.params.toList ds).all (·<=reachBytes)=Z:=by
  have hvt:(OpenSpec.ofChange s).bare.plain.varTypes C.prog=[]:=by simp[OpenSpec.ofChange,OpenSpec.bare,ChangeSpec.plain,DataSpec.varTypes,hvars]
  rw[hvt,N9,N9] at hz';exact hz'
 refine(hcall (w.forCall tape i) w.heap.size i.args ds p (λj t v h1 h2=>hval j t v (by rw[<- Array.getElem?_toList];exact h1) h2) hA hwt hx' hsh).mono λe W' ⟨he,bel⟩=>?_
 subst he;refine ChangeSpec.post_blind ?_;have hs:=hspec ds hlen;refine⟨ds,[],before,[],p,[],⟨p,[],hA,by rw[hvars];exact rfl,hbef,hfz,hnd⟩,?_,?_,?_,bel.frame _,λh=>by cases h⟩
 ·rw[hs,hres];exact trodAll_mk1 (shut_bool hbT _)
 ·rw[hs];exact pY hlo hA hread bel
 ·rw[hs,hvars];rfl
end
end Rv
namespace Rv
open Go Go.RowKit Go.WideShapes
def kQ:U (Str×Int)->Str->Int×zac
 |[],_=>(0,zaa)
 |x::r,s=>if s=x.1 then(x.2,Z) else kQ r s
def za(k:IntKind)(F:Str->Int×zac)(es:Array MapEntry):Prop:=
 ∀s:Str,(Instr.findNow .string (.string (mkS s)) es.toList 0=J X/\F s=(0,zaa))\/∃j n,Instr.findNow .string (.string (mkS s)) es.toList 0=J (J (j,.int k n))/\F s=(n,Z)
def ll(w:Y)(g ad:G)(k:IntKind)(F:Str->Int×zac):Prop:=
 w.cell? ⟨g,0,X⟩=J (.map (J ad))/\∃es clock,w.heap[ad]?=J (.map es clock)/\za k F es
theorem KX{w a b:Y}{g ad:G}{k:IntKind}{F:Str->Int×zac}(h:ll w g ad k F)(ha:ll a g ad k F)(hb:∀g,g<w.heap.size->b.heap[g]?=a.heap[g]?):ll b g ad k F:=by
 obtain⟨h1,es,clock,h2,_⟩:=h;obtain⟨a1,es',clock',a2,a3⟩:=ha;refine⟨keepCell h1 a1 hb,es',clock',?_,a3⟩;rw[hb ad (Array.getElem?_eq_some_iff.1 h2).1];exact a2
section
variable{P:Program}
theorem BQ{w:Y}{g ad:G}{k:IntKind}{F:Str->Int×zac}{T kt et:E}(hT:P.underlying T=J (.map kt et))(h:ll w g ad k F):(Instr.loadAt T (.pointer (J ⟨g,0,X⟩))).run P w=.ok (.map (J ad)) w:=by
 have hl:(load ⟨g,0,X⟩).run P w=.ok (.map (J ad)) w:=by rw[run_load,h.1]
 have ha:(isAgg T).run P w=.ok zaa w:=by simp only[isAgg,NR,run_underlying hT,NG];rfl
 simp only[Instr.loadAt,Instr.sureAddr,loadVar,NR,NZ,NG,ha,Bool.false_eq_true,if_false];exact hl
theorem BR{w:Y}{g ad:G}{k:IntKind}{F:Str->Int×zac}{T kt et:E}(hT:P.underlying T=J (.map kt et))(hk:P.underlying kt=J .string)(hz:(P.info? et).bind (·.zero)=J (.int k 0))(h:ll w g ad k F)(s:Str)(ok:zac) :
  (Instr.lookup T (.map (J ad)) (.string (mkS s)) ok).run P w=.ok (if ok=Z then .tuple #[.int k (F s).1,.bool (F s).2] else .int k (F s).1) w:=by
 obtain⟨h1,es,clock,h2,h3⟩:=h;have hz':(zeroValue et).run P w=.ok (.int k 0) w:=by
  cases hi:P.info? et with
  |none=>rw[hi] at hz;cases hz
  |some inf=>
   rw[hi,NE] at hz;simp[zeroValue,typeInfo,hi,hz]
 have hik:MapKept.IsKey .string (.string (mkS s)):=trivial;rcases h3 s with⟨hf,hF⟩|⟨j,n,hf,hF⟩;·rw[hF];simp[Instr.lookup,run_underlying hT,MapKept.run_getObj_map h2,MapKept.run_checkKey hk hik,MapKept.run_findKey hk hf,hz',Result.andThen]
 ·rw[hF];simp[Instr.lookup,run_underlying hT,MapKept.run_getObj_map h2,MapKept.run_checkKey hk hik,MapKept.run_findKey hk hf,Result.andThen]
theorem vB:∀{l:U (Str×Int)}{s:Str},(∀x∈l,x.1≠s)->kQ l s=(0,zaa)
 |[],_,_=>rfl
 |x::l,s,h=>by
  unfold kQ;rw[zaf (λe=>h x (by simp) e.symm)];exact vB λy hy=>h y (by simp[hy])
theorem xN:∀{l:U (Str×Int)}{x:Str×Int},(l.map (·.1)).Nodup->x∈l->kQ l x.1=(x.2,Z)
 |[],_,_,h=>by cases h
 |y::l,x,hn,h=>by
  unfold kQ;simp only[NY,List.nodup_cons] at hn;rcases NT.1 h with rfl|h;·rw[if_pos rfl]
  ·have hne:x.1≠y.1:=λe=>hn.1 (e ▸ List.mem_map_of_mem h)
   rw[zaf hne];exact xN hn.2 h
def Aa(k:IntKind)(l:U (Str×Int)):U (Lit×DataW zae):=l.map λx=>(.string x.1,.lit (.int k x.2))
theorem BP{w:Y}{base fuel:G}{sp:G->zac}{held:zac}{T kt et:E}{k:IntKind}{l:U (Str×Int)}{c:M}{p:U MemPlace}(hT:P.underlying T=J (.map kt et))(hk:P.underlying kt=J .string)(he:P.underlying et=J (.int k))
  (hn:(l.map (·.1)).Nodup) (h:DataW.trod (λ_=>()) P w base sp held (fuel+1) T [c]=J (.map (Aa k l),p)) :
  ∃ad es clock,c=.map (J ad)/\w.heap[ad]?=J (.map es clock)/\za k (kQ l) es:=by
 unfold DataW.trod at h;rw[hT] at h;cases c with
 |map r=>
  cases r with
  |none=>simp at h
  |some ad=>
   simp only at h;split at h
   case h_2=>cases h
   rename_i es clock hb;refine⟨ad,es,clock,rfl,hb,?_⟩;split at h
   case isFalse=>cases h
   obtain⟨entries,hm,h⟩:=Option.bind_eq_some_iff.1 h;split at h
   case isFalse=>cases h
   simp only[ND,NI,DataW.map.injEq] at h;have hperm:=sorted_perm (entries.map (·.1));rw[h.1] at hperm;have hx:∀(x:MapEntry) (q:(Lit×DataW zae)×U MemPlace),((keyOf P kt x.key).bind λkey=>if x.val.formed P et then(DataW.trod (λ_=>()) P w base sp held fuel et x.val.cells.toList).map λy=>((key,y.1),y.2) else X)=J q ->
     ∃s:Str,x.key=.string (mkS s)/\q.1.1=.string s/\∀n,q.1.2=.lit (.int k n)->x.val=.int k n:=by
    intro x q hq;obtain⟨key,hkey,hq⟩:=Option.bind_eq_some_iff.1 hq;obtain⟨s,hs1,hs2,_⟩:=WideMaps.string_of_keyOf hk hkey;split at hq
    case isFalse=>cases hq
    rename_i hf;obtain⟨y,hy,rfl⟩:=Option.map_eq_some_iff.1 hq;refine⟨s.data.toList,by rw[hs1];rfl,hs2,λn hn=>?_⟩;have hyn:y.1=.lit (.int k n):=hn;cases fuel with
    |zero=>simp[DataW.trod] at hy
    |succ fuel=>
     unfold DataW.trod at hy;rw[he] at hy;cases hv:x.val with
     |int k' m=>
      rw[hv] at hy;simp only[Value.cells] at hy;split at hy;·rename_i hc;simp only[ND] at hy;subst hy;cases hyn;rw[hc.1]
      ·cases hy
     |agg cs=>rw[hv] at hf;simp[Value.formed,he] at hf
     |tuple cs=>rw[hv] at hf;simp[Value.formed] at hf
     |_=>rw[hv] at hy;simp[Value.cells] at hy
   have hks:∀x∈es.toList,MapKept.IsKey .string x.key:=λx hxm=>by
    obtain⟨q,hq⟩:=mapM_each hm x hxm;obtain⟨s,hs,_⟩:=hx x q hq;rw[hs];trivial
   intro s;rcases MapKept.findNow_spec (d:=.string) (k:=.string (mkS s)) trivial es.toList 0 hks with⟨h1,h2⟩|⟨j,e,h1,h2,h3⟩
   ·refine .inl ⟨h1,vB λx hxl hxs=>?_⟩;have hmem:((.string x.1,.lit (.int k x.2)):Lit×DataW zae)∈entries.map (·.1):=hperm.subset (N8.2 ⟨x,hxl,rfl⟩);obtain⟨q,hq,hqe⟩:=N8.1 hmem;obtain⟨m,hmm,hfm⟩:=mapM_mem hm q hq;obtain⟨s',hs1,hs2,_⟩:=hx m q hfm;rw[hqe] at hs2;have:x.1=s':=by simpa using hs2
    exact h2 m hmm (by rw[hs1,<- this,hxs])
   ·obtain⟨q,hq⟩:=mapM_each hm e (List.mem_of_getElem? h2);have hqm:q∈entries:=List.mem_of_getElem? ((mapM_some_get hm j e h2).symm.trans hq);obtain⟨s',hs1,hs2,hs3⟩:=hx e q hq;have hqs:q.1∈Aa k l:=hperm.symm.subset (N8.2 ⟨q,hqm,rfl⟩);obtain⟨x,hxl,hxe⟩:=N8.1 hqs;have hs:s'=s:=by
     rw[hs1] at h3;have h4:=O (λv=>match v with | .string b=>b.data.toList|_=>[]) h3;exact h4
    subst hs;have hxs:x.1=s':=by
     have:=hs2;rw[<- hxe] at this;simpa using this
    refine .inr ⟨0+j,x.2,?_,?_⟩;·rw[h1,hs3 x.2 (by rw[<- hxe])]
    ·rw[<- hxs];exact xN hn hxl
 |_=>simp at h
theorem laid_map{w:Y}{l:U (String×DataW zae)}(h:laidMetH P l w){n:String}{k:IntKind}{r:U (Str×Int)}(hm:(n,DataW.map (Aa k r))∈l.filter λx=>x.2.handleName?.isNone)
  {g:G} {T kt et:E} (hg:P.globalNamed n=J g) (hty:(P.globals[g]?).map (·.type)=J T) (hT:P.underlying T=J (.map kt et)) (hk:P.underlying kt=J .string) (he:P.underlying et=J (.int k)) (hn:(r.map (·.1)).Nodup):∃ad,ll w g ad k (kQ r):=by
 obtain⟨g',t',cs,fuel,p,hg',ht',hvar,hd⟩:=wM h hm;obtain rfl:=NF (hg.symm.trans hg');obtain rfl:=NF (hty.symm.trans ht');cases fuel with
 |zero=>simp[DataW.trod] at hd
 |succ fuel=>
  have hc:∃c,cs.toList=[c]:=by
   unfold DataW.trod at hd;rw[hT] at hd;split at hd<;>first|(simp_all;done)|exact⟨_,by assumption⟩|(cases hd;done)|skip
  obtain⟨c,hc⟩:=hc;rw[hc] at hd;obtain⟨ad,es,clock,rfl,h1,h2⟩:=BP hT hk he hn hd;refine⟨ad,?_,es,clock,h1,h2⟩;have:=World.var?_cell hg hvar 0;rw[Array.eq_one_of_toList hc] at this;simpa using this
end
end Rv
namespace Go.Proofs
open Go.Shelf
def Tryz.lays169_ren:Go.Shelf.Ren:=⟨λ|169=>131|n=>n,λ|70=>181|9=>9|0=>0|72=>183|37=>42|127=>239|3=>3|5=>5|n=>n,λ|n=>n⟩
theorem Tryz.lays169:Go.Proofs.Lays.n169 Tryz.prog Tryz.lays169_ren:={
 mixed:=by kernel_rfl
 f169:=Tryz.func131.trans (O J (by kernel_rfl))
 t0:=Tryz.underlying0
 a0:=Tryz.isAgg0
 z0:=Tryz.sizeOf0
 v0:=Tryz.zeroValue0
 t3:=Tryz.underlying3
 a3:=Tryz.isAgg3
 z3:=Tryz.sizeOf3
 v3:=Tryz.zeroValue3
 t9:=Tryz.underlying9
 a9:=Tryz.isAgg9
 z9:=Tryz.sizeOf9
 v9:=Tryz.zeroValue9
 t37:=Tryz.underlying42
 a37:=Tryz.isAgg42
 z37:=Tryz.sizeOf42
 v37:=Tryz.zeroValue42
 t70:=Tryz.underlying181
 a70:=Tryz.isAgg181
 z70:=Tryz.sizeOf181
 v70:=Tryz.zeroValue181
 t72:=Tryz.underlying183
 a72:=Tryz.isAgg183
 z72:=Tryz.sizeOf183
 v72:=Tryz.zeroValue183
 t127:=Tryz.underlying239
 a127:=Tryz.isAgg239
 z127:=Tryz.sizeOf239
 v127:=Tryz.zeroValue239 }
theorem Tryz.Builder_Extra_169:Builder.Extra Tryz.prog Tryz.lays169_ren:={
 sizeBuilder:=by kernel_rfl
 liesBuilder:=by kernel_rfl
 t5:=Tryz.underlying5
 a5:=Tryz.isAgg5
 z5:=Tryz.sizeOf5
 v5:=Tryz.zeroValue5
 infoByte:=by kernel_rfl
 cellsByte:=by kernel_rfl
 sizeByte:=by kernel_rfl
 neB5:=by decide }
def Tryz.lays241_ren:Go.Shelf.Ren:=⟨λ|241=>188|277=>235|n=>n,λ|70=>181|3=>3|0=>0|72=>183|37=>42|5=>5|n=>n,λ|n=>n⟩
theorem Tryz.lays241:Go.Proofs.Lays.n241 Tryz.prog Tryz.lays241_ren:={
 mixed:=by kernel_rfl
 f241:=Tryz.func188.trans (O J (by kernel_rfl))
 f277:=Tryz.func235.trans (O J (by kernel_rfl))
 t0:=Tryz.underlying0
 a0:=Tryz.isAgg0
 z0:=Tryz.sizeOf0
 v0:=Tryz.zeroValue0
 t3:=Tryz.underlying3
 a3:=Tryz.isAgg3
 z3:=Tryz.sizeOf3
 v3:=Tryz.zeroValue3
 t37:=Tryz.underlying42
 a37:=Tryz.isAgg42
 z37:=Tryz.sizeOf42
 v37:=Tryz.zeroValue42
 t70:=Tryz.underlying181
 a70:=Tryz.isAgg181
 z70:=Tryz.sizeOf181
 v70:=Tryz.zeroValue181
 t72:=Tryz.underlying183
 a72:=Tryz.isAgg183
 z72:=Tryz.sizeOf183
 v72:=Tryz.zeroValue183 }
theorem Tryz.Builder_Extra_241:Builder.Extra Tryz.prog Tryz.lays241_ren:={
 sizeBuilder:=by kernel_rfl
 liesBuilder:=by kernel_rfl
 t5:=Tryz.underlying5
 a5:=Tryz.isAgg5
 z5:=Tryz.sizeOf5
 v5:=Tryz.zeroValue5
 infoByte:=by kernel_rfl
 cellsByte:=by kernel_rfl
 sizeByte:=by kernel_rfl
 neB5:=by decide }
open Go.RowKit in
theorem Tryz.Builder_grow_fresh(B b n:G)(w:Y)(hB:B<=b)(hbk:w.heap[b]?=J (.cells #[.pointer (J ⟨b,0,X⟩),.slice X 0 0] 183 (0,0)))(hBw:B<=w.heap.size)(hn:n<=281474976710656) :
  Calls Tryz.prog 188 #[.pointer (J ⟨b,0,X⟩),.int .i64 n] w λe w'=>e=.returned (.tuple #[])/\(Lib.BuilderAt 183 5 B b (.pointer (J ⟨b,0,X⟩)) [] w'/\Below B w w'):=Any.Builder_grow_fresh Tryz.lays241 Tryz.Builder_Extra_241 B b n w hB hbk hBw hn
def Tryz.lays160_ren:Go.Shelf.Ren:=⟨λ|160=>112|232=>167|231=>166|227=>168|234=>170|233=>169|236=>172|235=>171|228=>210|271=>212|151=>211|197=>197|120=>252|152=>251|260=>240|137=>151|119=>276|224=>242|225=>241|217=>203|266=>247|n=>n,λ|9=>9|4=>4|3=>3|5=>5|117=>223|116=>222|0=>0|124=>226|21=>21|105=>242|46=>135|119=>281|139=>293|138=>292|n=>n,λ|3=>2|4=>3|n=>n⟩
theorem Tryz.lays160:Go.Proofs.Lays.n160 Tryz.prog Tryz.lays160_ren:={
 mixed:=by kernel_rfl
 f119:=Tryz.func276.trans (O J (by kernel_rfl))
 f120:=Tryz.func252.trans (O J (by kernel_rfl))
 f137:=Tryz.func151.trans (O J (by kernel_rfl))
 f151:=Tryz.func211.trans (O J (by kernel_rfl))
 f152:=Tryz.func251.trans (O J (by kernel_rfl))
 f160:=Tryz.func112.trans (O J (by kernel_rfl))
 f197:=Tryz.func197.trans (O J (by kernel_rfl))
 f217:=Tryz.func203.trans (O J (by kernel_rfl))
 f224:=Tryz.func242.trans (O J (by kernel_rfl))
 f225:=Tryz.func241.trans (O J (by kernel_rfl))
 f227:=Tryz.func168.trans (O J (by kernel_rfl))
 f228:=Tryz.func210.trans (O J (by kernel_rfl))
 f231:=Tryz.func166.trans (O J (by kernel_rfl))
 f232:=Tryz.func167.trans (O J (by kernel_rfl))
 f233:=Tryz.func169.trans (O J (by kernel_rfl))
 f234:=Tryz.func170.trans (O J (by kernel_rfl))
 f235:=Tryz.func171.trans (O J (by kernel_rfl))
 f236:=Tryz.func172.trans (O J (by kernel_rfl))
 f260:=Tryz.func240.trans (O J (by kernel_rfl))
 f266:=Tryz.func247.trans (O J (by kernel_rfl))
 f271:=Tryz.func212.trans (O J (by kernel_rfl))
 t0:=Tryz.underlying0
 a0:=Tryz.isAgg0
 z0:=Tryz.sizeOf0
 v0:=Tryz.zeroValue0
 t3:=Tryz.underlying3
 a3:=Tryz.isAgg3
 z3:=Tryz.sizeOf3
 v3:=Tryz.zeroValue3
 t4:=Tryz.underlying4
 a4:=Tryz.isAgg4
 z4:=Tryz.sizeOf4
 v4:=Tryz.zeroValue4
 t5:=Tryz.underlying5
 a5:=Tryz.isAgg5
 z5:=Tryz.sizeOf5
 v5:=Tryz.zeroValue5
 t9:=Tryz.underlying9
 a9:=Tryz.isAgg9
 z9:=Tryz.sizeOf9
 v9:=Tryz.zeroValue9
 t21:=Tryz.underlying21
 a21:=Tryz.isAgg21
 z21:=Tryz.sizeOf21
 v21:=Tryz.zeroValue21
 t46:=Tryz.underlying135
 a46:=Tryz.isAgg135
 z46:=Tryz.sizeOf135
 v46:=Tryz.zeroValue135
 t105:=Tryz.underlying242
 a105:=Tryz.isAgg242
 z105:=Tryz.sizeOf242
 v105:=Tryz.zeroValue242
 t116:=Tryz.underlying222
 a116:=Tryz.isAgg222
 z116:=Tryz.sizeOf222
 t117:=Tryz.underlying223
 a117:=Tryz.isAgg223
 z117:=Tryz.sizeOf223
 v117:=Tryz.zeroValue223
 t119:=Tryz.underlying281
 a119:=Tryz.isAgg281
 z119:=Tryz.sizeOf281
 t124:=Tryz.underlying226
 a124:=Tryz.isAgg226
 z124:=Tryz.sizeOf226
 v124:=Tryz.zeroValue226
 t138:=Tryz.underlying292
 a138:=Tryz.isAgg292
 z138:=Tryz.sizeOf292
 v138:=Tryz.zeroValue292
 t139:=Tryz.underlying293
 a139:=Tryz.isAgg293
 z139:=Tryz.sizeOf293
 v139:=Tryz.zeroValue293
 g3:=by kernel_rfl
 g4:=by kernel_rfl }
def Tryz.lays103_ren:Go.Shelf.Ren:=⟨λ|103=>200|210=>244|206=>267|n=>n,λ|9=>9|4=>4|24=>244|3=>3|n=>n,λ|n=>n⟩
theorem Tryz.lays103:Go.Proofs.Lays.n103 Tryz.prog Tryz.lays103_ren:={
 mixed:=by kernel_rfl
 f103:=Tryz.func200.trans (O J (by kernel_rfl))
 f206:=Tryz.func267.trans (O J (by kernel_rfl))
 f210:=Tryz.func244.trans (O J (by kernel_rfl))
 t3:=Tryz.underlying3
 a3:=Tryz.isAgg3
 z3:=Tryz.sizeOf3
 v3:=Tryz.zeroValue3
 t4:=Tryz.underlying4
 a4:=Tryz.isAgg4
 z4:=Tryz.sizeOf4
 v4:=Tryz.zeroValue4
 t9:=Tryz.underlying9
 a9:=Tryz.isAgg9
 z9:=Tryz.sizeOf9
 v9:=Tryz.zeroValue9
 t24:=Tryz.underlying244
 a24:=Tryz.isAgg244
 z24:=Tryz.sizeOf244
 v24:=Tryz.zeroValue244 }
open Go.RowKit in
theorem Tryz.strings_CutPrefix(s p:ByteArray)(w:Y) :
  Calls Tryz.prog 200 #[.string s,.string p] w λe w'=>e=.returned (.tuple #[.string ⟨(Lib.trimPrefix s.data.toList p.data.toList).toArray⟩,.bool (Lib.hasPrefix s.data.toList p.data.toList)])/\w'=w:=Any.strings_CutPrefix Tryz.lays103 s p w
open Go.RowKit in
theorem Tryz.Builder_String_any_k(B b:G)(l:U UInt8)(w:Y)(h:Lib.IsBuilderF 183 5 B b (Lib.byteCells l) w)(hBw:B<=w.heap.size) :
  Calls Tryz.prog 131 #[.pointer (J ⟨b,0,X⟩)] w λe w'=>e=.returned (.string ⟨l.toArray⟩)/\(Lib.IsBuilderF 183 5 B b (Lib.byteCells l) w'/\Below B w w'/\Lib.OthersKept 5 (J b) w w'):=Any.Builder_String_any_k Tryz.lays169 Tryz.Builder_Extra_169 B b l w h hBw
def Tryz.lays283_ren:Go.Shelf.Ren:=⟨λ|283=>290|n=>n,λ|3=>3|9=>9|4=>4|n=>n,λ|n=>n⟩
theorem Tryz.lays283:Go.Proofs.Lays.n283 Tryz.prog Tryz.lays283_ren:={
 mixed:=by kernel_rfl
 f283:=Tryz.func290.trans (O J (by kernel_rfl))
 t3:=Tryz.underlying3
 a3:=Tryz.isAgg3
 z3:=Tryz.sizeOf3
 v3:=Tryz.zeroValue3
 t4:=Tryz.underlying4
 a4:=Tryz.isAgg4
 z4:=Tryz.sizeOf4
 v4:=Tryz.zeroValue4
 t9:=Tryz.underlying9
 a9:=Tryz.isAgg9
 z9:=Tryz.sizeOf9
 v9:=Tryz.zeroValue9 }
open Go.Lib in
theorem Tryz.internal_strconv_small(i:G)(h:i<100)(w:Y) :
  Calls Tryz.prog 290 #[.int .i64 i] w λe w'=>e=.returned (.string ⟨(Lib.decDigits i).toArray⟩)/\w'=w:=Any.internal_strconv_small Tryz.lays283 i h w
def Tryz.laysM284_ren:Go.Shelf.Ren:=⟨λ|284=>291|129=>222|317=>300|318=>301|n=>n,λ|53=>247|3=>3|212=>343|0=>0|4=>4|46=>135|5=>5|9=>9|n=>n,λ|17=>8|n=>n⟩
theorem Tryz.laysM284:Go.Proofs.LaysM.n284 Tryz.prog Tryz.laysM284_ren:={
 mixed:=by kernel_rfl
 f129:=Tryz.func222.trans (O J (by kernel_rfl))
 f284:=Tryz.func291.trans (O J (by kernel_rfl))
 f317:=Tryz.func300.trans (O J (by kernel_rfl))
 f318:=Tryz.func301.trans (O J (by kernel_rfl))
 t0:=Tryz.underlying0
 a0:=Tryz.isAgg0
 z0:=Tryz.sizeOf0
 v0:=Tryz.zeroValue0
 t3:=Tryz.underlying3
 a3:=Tryz.isAgg3
 z3:=Tryz.sizeOf3
 v3:=Tryz.zeroValue3
 t4:=Tryz.underlying4
 a4:=Tryz.isAgg4
 z4:=Tryz.sizeOf4
 v4:=Tryz.zeroValue4
 t5:=Tryz.underlying5
 a5:=Tryz.isAgg5
 z5:=Tryz.sizeOf5
 v5:=Tryz.zeroValue5
 t9:=Tryz.underlying9
 a9:=Tryz.isAgg9
 z9:=Tryz.sizeOf9
 v9:=Tryz.zeroValue9
 t46:=Tryz.underlying135
 a46:=Tryz.isAgg135
 z46:=Tryz.sizeOf135
 v46:=Tryz.zeroValue135
 t53:=Tryz.underlying247
 a53:=Tryz.isAgg247
 z53:=Tryz.sizeOf247
 v53:=Tryz.zeroValue247
 t212:=Tryz.underlying343
 a212:=Tryz.isAgg343
 z212:=Tryz.sizeOf343
 v212:=Tryz.zeroValue343
 g17:=by kernel_rfl
 i0:=by kernel_rfl
 i3:=by kernel_rfl
 i4:=by kernel_rfl
 i5:=by kernel_rfl
 i9:=by kernel_rfl
 i46:=by kernel_rfl
 i53:=by kernel_rfl
 i212:=by kernel_rfl
 m17:=by kernel_rfl }
open Go.Lib in
theorem Tryz.internal_strconv_numDigits(u:G)(h1:1<=u)(h2:u<18446744073709551616)(w:Y) (htab:Lib.TabIs Tryz.prog w "internal/strconv.uint64pow10" .u64 Lib.pow10Tab) :
  Calls Tryz.prog 291 #[.int .u64 u] w λe w'=>e=.returned (.int .i64 (Lib.nDigits u))/\w'=w:=Any.internal_strconv_numDigits Tryz.laysM284 u h1 h2 w htab
def Tryz.lays285_ren:Go.Shelf.Ren:=⟨λ|285=>292|n=>n,λ|37=>42|53=>247|3=>3|4=>4|51=>51|9=>9|5=>5|0=>0|n=>n,λ|n=>n⟩
theorem Tryz.lays285:Go.Proofs.Lays.n285 Tryz.prog Tryz.lays285_ren:={
 mixed:=by kernel_rfl
 f285:=Tryz.func292.trans (O J (by kernel_rfl))
 t0:=Tryz.underlying0
 a0:=Tryz.isAgg0
 z0:=Tryz.sizeOf0
 v0:=Tryz.zeroValue0
 t3:=Tryz.underlying3
 a3:=Tryz.isAgg3
 z3:=Tryz.sizeOf3
 v3:=Tryz.zeroValue3
 t4:=Tryz.underlying4
 a4:=Tryz.isAgg4
 z4:=Tryz.sizeOf4
 v4:=Tryz.zeroValue4
 t5:=Tryz.underlying5
 a5:=Tryz.isAgg5
 z5:=Tryz.sizeOf5
 v5:=Tryz.zeroValue5
 t9:=Tryz.underlying9
 a9:=Tryz.isAgg9
 z9:=Tryz.sizeOf9
 v9:=Tryz.zeroValue9
 t37:=Tryz.underlying42
 a37:=Tryz.isAgg42
 z37:=Tryz.sizeOf42
 v37:=Tryz.zeroValue42
 t51:=Tryz.underlying51
 a51:=Tryz.isAgg51
 z51:=Tryz.sizeOf51
 v51:=Tryz.zeroValue51
 t53:=Tryz.underlying247
 a53:=Tryz.isAgg247
 z53:=Tryz.sizeOf247
 v53:=Tryz.zeroValue247 }
open Go.RowKit Go.Sort Go.Lib in
theorem Tryz.internal_strconv_formatBase10(blk off cap:G)(u:G)(d:Array UInt8)(w:Y)(hH:Holds (λ(b:UInt8)=>Value.int .u8 (b.toNat:Int)) w blk off d)(hu:u<10 ^ d.size)(hu64:u<18446744073709551616)(hsz:d.size<4611686018427387904) :
  Calls Tryz.prog 292 #[.slice (J ⟨blk,off,X⟩) d.size cap,.int .u64 u] w λe w'=>
   e=.returned (.tuple #[])/\∃(n v':G) (dk:Array UInt8),w'=(putRow (λ(b:UInt8)=>Value.int .u8 (b.toNat:Int)) w blk off dk).drewN n/\FmtInv d.size u 0 v' dk:=Any.internal_strconv_formatBase10 Tryz.lays285 blk off cap u d w hH hu hu64 hsz
def Tryz.laysM171_ren:Go.Shelf.Ren:=⟨λ|171=>223|243=>258|246=>278|283=>290|284=>291|285=>292|286=>293|129=>222|317=>300|318=>301|319=>302|320=>303|337=>304|338=>305|n=>n,λ|3=>3|9=>9|2=>2|4=>4|171=>318|0=>0|53=>247|37=>42|5=>5|173=>320|212=>343|51=>51|20=>20|213=>344|46=>135|232=>347|233=>348|n=>n,λ|17=>8|18=>9|19=>10|n=>n⟩
theorem Tryz.laysM171:Go.Proofs.LaysM.n171 Tryz.prog Tryz.laysM171_ren:={
 mixed:=by kernel_rfl
 f129:=Tryz.func222.trans (O J (by kernel_rfl))
 f171:=Tryz.func223.trans (O J (by kernel_rfl))
 f243:=Tryz.func258.trans (O J (by kernel_rfl))
 f246:=Tryz.func278.trans (O J (by kernel_rfl))
 f283:=Tryz.func290.trans (O J (by kernel_rfl))
 f284:=Tryz.func291.trans (O J (by kernel_rfl))
 f285:=Tryz.func292.trans (O J (by kernel_rfl))
 f286:=Tryz.func293.trans (O J (by kernel_rfl))
 f317:=Tryz.func300.trans (O J (by kernel_rfl))
 f318:=Tryz.func301.trans (O J (by kernel_rfl))
 f319:=Tryz.func302.trans (O J (by kernel_rfl))
 f320:=Tryz.func303.trans (O J (by kernel_rfl))
 f337:=Tryz.func304.trans (O J (by kernel_rfl))
 f338:=Tryz.func305.trans (O J (by kernel_rfl))
 t0:=Tryz.underlying0
 a0:=Tryz.isAgg0
 z0:=Tryz.sizeOf0
 v0:=Tryz.zeroValue0
 t2:=Tryz.underlying2
 a2:=Tryz.isAgg2
 z2:=Tryz.sizeOf2
 v2:=Tryz.zeroValue2
 t3:=Tryz.underlying3
 a3:=Tryz.isAgg3
 z3:=Tryz.sizeOf3
 v3:=Tryz.zeroValue3
 t4:=Tryz.underlying4
 a4:=Tryz.isAgg4
 z4:=Tryz.sizeOf4
 v4:=Tryz.zeroValue4
 t5:=Tryz.underlying5
 a5:=Tryz.isAgg5
 z5:=Tryz.sizeOf5
 v5:=Tryz.zeroValue5
 t9:=Tryz.underlying9
 a9:=Tryz.isAgg9
 z9:=Tryz.sizeOf9
 v9:=Tryz.zeroValue9
 t20:=Tryz.underlying20
 a20:=Tryz.isAgg20
 z20:=Tryz.sizeOf20
 v20:=Tryz.zeroValue20
 t37:=Tryz.underlying42
 a37:=Tryz.isAgg42
 z37:=Tryz.sizeOf42
 v37:=Tryz.zeroValue42
 t46:=Tryz.underlying135
 a46:=Tryz.isAgg135
 z46:=Tryz.sizeOf135
 v46:=Tryz.zeroValue135
 t51:=Tryz.underlying51
 a51:=Tryz.isAgg51
 z51:=Tryz.sizeOf51
 v51:=Tryz.zeroValue51
 t53:=Tryz.underlying247
 a53:=Tryz.isAgg247
 z53:=Tryz.sizeOf247
 v53:=Tryz.zeroValue247
 t171:=Tryz.underlying318
 a171:=Tryz.isAgg318
 z171:=Tryz.sizeOf318
 v171:=Tryz.zeroValue318
 t173:=Tryz.underlying320
 a173:=Tryz.isAgg320
 z173:=Tryz.sizeOf320
 v173:=Tryz.zeroValue320
 t212:=Tryz.underlying343
 a212:=Tryz.isAgg343
 z212:=Tryz.sizeOf343
 v212:=Tryz.zeroValue343
 t213:=Tryz.underlying344
 a213:=Tryz.isAgg344
 z213:=Tryz.sizeOf344
 t232:=Tryz.underlying347
 a232:=Tryz.isAgg347
 z232:=Tryz.sizeOf347
 v232:=Tryz.zeroValue347
 t233:=Tryz.underlying348
 a233:=Tryz.isAgg348
 z233:=Tryz.sizeOf348
 v233:=Tryz.zeroValue348
 g17:=by kernel_rfl
 g18:=by kernel_rfl
 g19:=by kernel_rfl
 i0:=by kernel_rfl
 i2:=by kernel_rfl
 i3:=by kernel_rfl
 i4:=by kernel_rfl
 i5:=by kernel_rfl
 i9:=by kernel_rfl
 i20:=by kernel_rfl
 i37:=by kernel_rfl
 i46:=by kernel_rfl
 i51:=by kernel_rfl
 i53:=by kernel_rfl
 i171:=by kernel_rfl
 i173:=by kernel_rfl
 i212:=by kernel_rfl
 i232:=by kernel_rfl
 i233:=by kernel_rfl
 m17:=by kernel_rfl
 m18:=by kernel_rfl
 m19:=by kernel_rfl }
open Go.RowKit Go.Sort Go.Lib in
theorem Tryz.strconv_Itoa(n:Int)(h0:-9223372036854775808<=n)(h1:n<=9223372036854775807)(w:Y) (htab:Lib.TabIs Tryz.prog w "internal/strconv.uint64pow10" .u64 Lib.pow10Tab) :
  Calls Tryz.prog 223 #[.int .i64 n] w λe w'=>e=.returned (.string ⟨(Lib.itoa n).toArray⟩)/\∃k os,w'=grow (w.drewN k) os:=Any.strconv_Itoa Tryz.laysM171 n h0 h1 w htab
def Tryz.laysC245_ren:Go.Shelf.Ren:=⟨λ|245=>246|279=>270|280=>271|281=>272|282=>273|316=>287|171=>223|205=>288|243=>258|246=>278|283=>290|284=>291|285=>292|286=>293|129=>222|317=>300|318=>301|319=>302|320=>303|337=>304|338=>305|n=>n,λ|9=>9|3=>3|75=>186|167=>296|4=>4|168=>298|210=>314|37=>42|0=>0|127=>239|145=>341|143=>339|2=>2|171=>318|53=>247|5=>5|173=>320|212=>343|51=>51|20=>20|213=>344|46=>135|232=>347|233=>348|80=>189|n=>n,λ|15=>5|16=>6|17=>8|18=>9|19=>10|n=>n⟩
theorem Tryz.laysC245:Go.Proofs.LaysC.n245 Tryz.prog Tryz.laysC245_ren:={
 mixed:=by kernel_rfl
 f129:=Tryz.func222.trans (O J (by kernel_rfl))
 f171:=Tryz.func223.trans (O J (by kernel_rfl))
 f205:=Tryz.func288.trans (O J (by kernel_rfl))
 f243:=Tryz.func258.trans (O J (by kernel_rfl))
 f245:=Tryz.func246.trans (O J (by kernel_rfl))
 f246:=Tryz.func278.trans (O J (by kernel_rfl))
 f279:=Tryz.func270.trans (O J (by kernel_rfl))
 f280:=Tryz.func271.trans (O J (by kernel_rfl))
 f281:=Tryz.func272.trans (O J (by kernel_rfl))
 f282:=Tryz.func273.trans (O J (by kernel_rfl))
 f283:=Tryz.func290.trans (O J (by kernel_rfl))
 f284:=Tryz.func291.trans (O J (by kernel_rfl))
 f285:=Tryz.func292.trans (O J (by kernel_rfl))
 f286:=Tryz.func293.trans (O J (by kernel_rfl))
 f316:=Tryz.func287.trans (O J (by kernel_rfl))
 f317:=Tryz.func300.trans (O J (by kernel_rfl))
 f318:=Tryz.func301.trans (O J (by kernel_rfl))
 f319:=Tryz.func302.trans (O J (by kernel_rfl))
 f320:=Tryz.func303.trans (O J (by kernel_rfl))
 f337:=Tryz.func304.trans (O J (by kernel_rfl))
 f338:=Tryz.func305.trans (O J (by kernel_rfl))
 t0:=Tryz.underlying0
 a0:=Tryz.isAgg0
 z0:=Tryz.sizeOf0
 v0:=Tryz.zeroValue0
 t2:=Tryz.underlying2
 a2:=Tryz.isAgg2
 z2:=Tryz.sizeOf2
 v2:=Tryz.zeroValue2
 t3:=Tryz.underlying3
 a3:=Tryz.isAgg3
 z3:=Tryz.sizeOf3
 v3:=Tryz.zeroValue3
 t4:=Tryz.underlying4
 a4:=Tryz.isAgg4
 z4:=Tryz.sizeOf4
 v4:=Tryz.zeroValue4
 t5:=Tryz.underlying5
 a5:=Tryz.isAgg5
 z5:=Tryz.sizeOf5
 v5:=Tryz.zeroValue5
 t9:=Tryz.underlying9
 a9:=Tryz.isAgg9
 z9:=Tryz.sizeOf9
 v9:=Tryz.zeroValue9
 t20:=Tryz.underlying20
 a20:=Tryz.isAgg20
 z20:=Tryz.sizeOf20
 v20:=Tryz.zeroValue20
 t37:=Tryz.underlying42
 a37:=Tryz.isAgg42
 z37:=Tryz.sizeOf42
 v37:=Tryz.zeroValue42
 t46:=Tryz.underlying135
 a46:=Tryz.isAgg135
 z46:=Tryz.sizeOf135
 v46:=Tryz.zeroValue135
 t51:=Tryz.underlying51
 a51:=Tryz.isAgg51
 z51:=Tryz.sizeOf51
 v51:=Tryz.zeroValue51
 t53:=Tryz.underlying247
 a53:=Tryz.isAgg247
 z53:=Tryz.sizeOf247
 v53:=Tryz.zeroValue247
 t75:=Tryz.underlying186
 a75:=Tryz.isAgg186
 z75:=Tryz.sizeOf186
 v75:=Tryz.zeroValue186
 t127:=Tryz.underlying239
 a127:=Tryz.isAgg239
 z127:=Tryz.sizeOf239
 v127:=Tryz.zeroValue239
 t143:=Tryz.underlying339
 a143:=Tryz.isAgg339
 z143:=Tryz.sizeOf339
 v143:=Tryz.zeroValue339
 t145:=Tryz.underlying341
 a145:=Tryz.isAgg341
 z145:=Tryz.sizeOf341
 v145:=Tryz.zeroValue341
 t167:=Tryz.underlying296
 a167:=Tryz.isAgg296
 z167:=Tryz.sizeOf296
 v167:=Tryz.zeroValue296
 t168:=Tryz.underlying298
 a168:=Tryz.isAgg298
 z168:=Tryz.sizeOf298
 v168:=Tryz.zeroValue298
 t171:=Tryz.underlying318
 a171:=Tryz.isAgg318
 z171:=Tryz.sizeOf318
 v171:=Tryz.zeroValue318
 t173:=Tryz.underlying320
 a173:=Tryz.isAgg320
 z173:=Tryz.sizeOf320
 v173:=Tryz.zeroValue320
 t210:=Tryz.underlying314
 a210:=Tryz.isAgg314
 z210:=Tryz.sizeOf314
 v210:=Tryz.zeroValue314
 t212:=Tryz.underlying343
 a212:=Tryz.isAgg343
 z212:=Tryz.sizeOf343
 v212:=Tryz.zeroValue343
 t213:=Tryz.underlying344
 a213:=Tryz.isAgg344
 z213:=Tryz.sizeOf344
 t232:=Tryz.underlying347
 a232:=Tryz.isAgg347
 z232:=Tryz.sizeOf347
 v232:=Tryz.zeroValue347
 t233:=Tryz.underlying348
 a233:=Tryz.isAgg348
 z233:=Tryz.sizeOf348
 v233:=Tryz.zeroValue348
 g15:=by kernel_rfl
 g16:=by kernel_rfl
 g17:=by kernel_rfl
 g18:=by kernel_rfl
 g19:=by kernel_rfl
 t80:=Tryz.underlying189
 a80:=Tryz.isAgg189
 z80:=Tryz.sizeOf189
 v80:=Tryz.zeroValue189
 i0:=by kernel_rfl
 i2:=by kernel_rfl
 i3:=by kernel_rfl
 i4:=by kernel_rfl
 i5:=by kernel_rfl
 i9:=by kernel_rfl
 i20:=by kernel_rfl
 i37:=by kernel_rfl
 i46:=by kernel_rfl
 i51:=by kernel_rfl
 i53:=by kernel_rfl
 i75:=by kernel_rfl
 i80:=by kernel_rfl
 i127:=by kernel_rfl
 i143:=by kernel_rfl
 i145:=by kernel_rfl
 i167:=by kernel_rfl
 i168:=by kernel_rfl
 i171:=by kernel_rfl
 i173:=by kernel_rfl
 i210:=by kernel_rfl
 i212:=by kernel_rfl
 i232:=by kernel_rfl
 i233:=by kernel_rfl
 m15:=by kernel_rfl
 m16:=by kernel_rfl
 m17:=by kernel_rfl
 m18:=by kernel_rfl
 m19:=by kernel_rfl
 c0:=by kernel_rfl
 c2:=by kernel_rfl
 c3:=by kernel_rfl
 c4:=by kernel_rfl
 c5:=by kernel_rfl
 c9:=by kernel_rfl
 c20:=by kernel_rfl
 c37:=by kernel_rfl
 c46:=by kernel_rfl
 c51:=by kernel_rfl
 c53:=by kernel_rfl
 c75:=by kernel_rfl
 c80:=by kernel_rfl
 c127:=by kernel_rfl
 c143:=by kernel_rfl
 c145:=by kernel_rfl
 c167:=by kernel_rfl
 c168:=by kernel_rfl
 c171:=by kernel_rfl
 c173:=by kernel_rfl
 c210:=by kernel_rfl
 c212:=by kernel_rfl
 c213:=by kernel_rfl
 c232:=by kernel_rfl
 c233:=by kernel_rfl }
open Go.RowKit in
theorem Tryz.strconv_toError_syntax(fn s:ByteArray)(base bits:Int)(ev:M)(w:Y)(hlim:s.size<=281474976710656)(hv:w.cell? ⟨5,0,X⟩=J ev)(hev:ev=.nilIface\/∃te pe,ev=.iface te pe) :
  Calls Tryz.prog 246 #[.string fn,.string s,.int .i64 base,.int .i64 bits,.iface 296 (.int .i64 2)] w λe w'=>∃N,e=.returned (.iface 298 (.pointer (J ⟨N,0,X⟩)))/\w.heap.size<=N/\w'.heap[N]?=J (.cells #[.string fn,.string s,ev] 314 (0,0))/\Below w.heap.size w w':=Any.strconv_toError_syntax Tryz.laysC245 fn s base bits ev w hlim hv hev
open Go.RowKit in
theorem Tryz.strconv_toError_range(fn s:ByteArray)(base bits:Int)(ev:M)(w:Y)(hlim:s.size<=281474976710656)(hv:w.cell? ⟨6,0,X⟩=J ev)(hev:ev=.nilIface\/∃te pe,ev=.iface te pe) :
  Calls Tryz.prog 246 #[.string fn,.string s,.int .i64 base,.int .i64 bits,.iface 296 (.int .i64 1)] w λe w'=>∃N,e=.returned (.iface 298 (.pointer (J ⟨N,0,X⟩)))/\w.heap.size<=N/\w'.heap[N]?=J (.cells #[.string fn,.string s,ev] 314 (0,0))/\Below w.heap.size w w':=Any.strconv_toError_range Tryz.laysC245 fn s base bits ev w hlim hv hev
def Tryz.lays143_ren:Go.Shelf.Ren:=⟨λ|143=>146|219=>199|217=>203|225=>241|224=>242|267=>243|266=>247|314=>266|n=>n,λ|9=>9|3=>3|4=>4|5=>5|46=>135|146=>294|51=>51|n=>n,λ|1=>0|n=>n⟩
theorem Tryz.lays143:Go.Proofs.Lays.n143 Tryz.prog Tryz.lays143_ren:={
 mixed:=by kernel_rfl
 f143:=Tryz.func146.trans (O J (by kernel_rfl))
 f217:=Tryz.func203.trans (O J (by kernel_rfl))
 f219:=Tryz.func199.trans (O J (by kernel_rfl))
 f224:=Tryz.func242.trans (O J (by kernel_rfl))
 f225:=Tryz.func241.trans (O J (by kernel_rfl))
 f266:=Tryz.func247.trans (O J (by kernel_rfl))
 f267:=Tryz.func243.trans (O J (by kernel_rfl))
 f314:=Tryz.func266.trans (O J (by kernel_rfl))
 t3:=Tryz.underlying3
 a3:=Tryz.isAgg3
 z3:=Tryz.sizeOf3
 v3:=Tryz.zeroValue3
 t4:=Tryz.underlying4
 a4:=Tryz.isAgg4
 z4:=Tryz.sizeOf4
 v4:=Tryz.zeroValue4
 t5:=Tryz.underlying5
 a5:=Tryz.isAgg5
 z5:=Tryz.sizeOf5
 v5:=Tryz.zeroValue5
 t9:=Tryz.underlying9
 a9:=Tryz.isAgg9
 z9:=Tryz.sizeOf9
 v9:=Tryz.zeroValue9
 t46:=Tryz.underlying135
 a46:=Tryz.isAgg135
 z46:=Tryz.sizeOf135
 v46:=Tryz.zeroValue135
 t51:=Tryz.underlying51
 a51:=Tryz.isAgg51
 z51:=Tryz.sizeOf51
 v51:=Tryz.zeroValue51
 t146:=Tryz.underlying294
 a146:=Tryz.isAgg294
 z146:=Tryz.sizeOf294
 v146:=Tryz.zeroValue294
 g1:=by kernel_rfl }
open Go.RowKit Go.Lib in
theorem Tryz.strings_Index(s sub:ByteArray)(m:Int)(w:Y)(hs:s.size<4294967281)(hm:w.cell? ⟨0,0,X⟩=J (.int .i64 m)) :
  Calls Tryz.prog 146 #[.string s,.string sub] w λe w'=>e=.returned (.int .i64 (Lib.index s.data.toList sub.data.toList))/\w'=w:=Any.strings_Index Tryz.lays143 s sub m w hs hm
def Tryz.lays138_ren:Go.Shelf.Ren:=⟨λ|138=>145|195=>196|218=>198|143=>146|219=>199|217=>203|225=>241|224=>242|267=>243|266=>247|314=>266|n=>n,λ|9=>9|3=>3|4=>4|5=>5|0=>0|46=>135|146=>294|51=>51|n=>n,λ|1=>0|n=>n⟩
theorem Tryz.lays138:Go.Proofs.Lays.n138 Tryz.prog Tryz.lays138_ren:={
 mixed:=by kernel_rfl
 f138:=Tryz.func145.trans (O J (by kernel_rfl))
 f143:=Tryz.func146.trans (O J (by kernel_rfl))
 f195:=Tryz.func196.trans (O J (by kernel_rfl))
 f217:=Tryz.func203.trans (O J (by kernel_rfl))
 f218:=Tryz.func198.trans (O J (by kernel_rfl))
 f219:=Tryz.func199.trans (O J (by kernel_rfl))
 f224:=Tryz.func242.trans (O J (by kernel_rfl))
 f225:=Tryz.func241.trans (O J (by kernel_rfl))
 f266:=Tryz.func247.trans (O J (by kernel_rfl))
 f267:=Tryz.func243.trans (O J (by kernel_rfl))
 f314:=Tryz.func266.trans (O J (by kernel_rfl))
 t0:=Tryz.underlying0
 a0:=Tryz.isAgg0
 z0:=Tryz.sizeOf0
 v0:=Tryz.zeroValue0
 t3:=Tryz.underlying3
 a3:=Tryz.isAgg3
 z3:=Tryz.sizeOf3
 v3:=Tryz.zeroValue3
 t4:=Tryz.underlying4
 a4:=Tryz.isAgg4
 z4:=Tryz.sizeOf4
 v4:=Tryz.zeroValue4
 t5:=Tryz.underlying5
 a5:=Tryz.isAgg5
 z5:=Tryz.sizeOf5
 v5:=Tryz.zeroValue5
 t9:=Tryz.underlying9
 a9:=Tryz.isAgg9
 z9:=Tryz.sizeOf9
 v9:=Tryz.zeroValue9
 t46:=Tryz.underlying135
 a46:=Tryz.isAgg135
 z46:=Tryz.sizeOf135
 v46:=Tryz.zeroValue135
 t51:=Tryz.underlying51
 a51:=Tryz.isAgg51
 z51:=Tryz.sizeOf51
 v51:=Tryz.zeroValue51
 t146:=Tryz.underlying294
 a146:=Tryz.isAgg294
 z146:=Tryz.sizeOf294
 v146:=Tryz.zeroValue294
 g1:=by kernel_rfl }
def Tryz.lays102_ren:Go.Shelf.Ren:=⟨λ|102=>226|209=>262|207=>281|n=>n,λ|9=>9|4=>4|3=>3|n=>n,λ|n=>n⟩
theorem Tryz.lays102:Go.Proofs.Lays.n102 Tryz.prog Tryz.lays102_ren:={
 mixed:=by kernel_rfl
 f102:=Tryz.func226.trans (O J (by kernel_rfl))
 f207:=Tryz.func281.trans (O J (by kernel_rfl))
 f209:=Tryz.func262.trans (O J (by kernel_rfl))
 t3:=Tryz.underlying3
 a3:=Tryz.isAgg3
 z3:=Tryz.sizeOf3
 v3:=Tryz.zeroValue3
 t4:=Tryz.underlying4
 a4:=Tryz.isAgg4
 z4:=Tryz.sizeOf4
 v4:=Tryz.zeroValue4
 t9:=Tryz.underlying9
 a9:=Tryz.isAgg9
 z9:=Tryz.sizeOf9
 v9:=Tryz.zeroValue9 }
open Go.RowKit Go.Lib in
theorem Tryz.strings_TrimSuffix(s p:ByteArray)(w:Y)(hs:s.size<=9223372036854775807) :
  Calls Tryz.prog 226 #[.string s,.string p] w λe w'=>e=.returned (.string ⟨(Lib.trimSuffix s.data.toList p.data.toList).toArray⟩)/\w'=w:=Any.strings_TrimSuffix Tryz.lays102 s p w hs
open Go.RowKit Go.Lib in
theorem Tryz.strings_Count_any(s sep:ByteArray)(m:Int)(w:Y)(hs:s.size<4294967281)(hm:w.cell? ⟨0,0,X⟩=J (.int .i64 m))(h1:1<=sep.size) :
  Calls Tryz.prog 145 #[.string s,.string sep] w λe w'=>e=.returned (.int .i64 (Lib.countB s sep))/\w'=w:=Any.strings_Count_any Tryz.lays138 s sep m w hs hm h1
def Tryz.laysM157_ren:Go.Shelf.Ren:=⟨λ|157=>225|229=>260|199=>261|261=>280|311=>294|312=>295|n=>n,λ|9=>9|31=>43|3=>3|5=>5|4=>4|119=>281|0=>0|40=>283|152=>307|21=>21|154=>309|51=>51|141=>311|196=>325|193=>322|198=>328|49=>326|194=>323|201=>331|226=>345|46=>135|227=>346|n=>n,λ|0=>1|6=>4|n=>n⟩
theorem Tryz.laysM157:Go.Proofs.LaysM.n157 Tryz.prog Tryz.laysM157_ren:={
 mixed:=by kernel_rfl
 f157:=Tryz.func225.trans (O J (by kernel_rfl))
 f199:=Tryz.func261.trans (O J (by kernel_rfl))
 f229:=Tryz.func260.trans (O J (by kernel_rfl))
 f261:=Tryz.func280.trans (O J (by kernel_rfl))
 f311:=Tryz.func294.trans (O J (by kernel_rfl))
 f312:=Tryz.func295.trans (O J (by kernel_rfl))
 t0:=Tryz.underlying0
 a0:=Tryz.isAgg0
 z0:=Tryz.sizeOf0
 v0:=Tryz.zeroValue0
 t3:=Tryz.underlying3
 a3:=Tryz.isAgg3
 z3:=Tryz.sizeOf3
 v3:=Tryz.zeroValue3
 t4:=Tryz.underlying4
 a4:=Tryz.isAgg4
 z4:=Tryz.sizeOf4
 v4:=Tryz.zeroValue4
 t5:=Tryz.underlying5
 a5:=Tryz.isAgg5
 z5:=Tryz.sizeOf5
 v5:=Tryz.zeroValue5
 t9:=Tryz.underlying9
 a9:=Tryz.isAgg9
 z9:=Tryz.sizeOf9
 v9:=Tryz.zeroValue9
 t21:=Tryz.underlying21
 a21:=Tryz.isAgg21
 z21:=Tryz.sizeOf21
 v21:=Tryz.zeroValue21
 t31:=Tryz.underlying43
 a31:=Tryz.isAgg43
 z31:=Tryz.sizeOf43
 v31:=Tryz.zeroValue43
 t40:=Tryz.underlying283
 a40:=Tryz.isAgg283
 z40:=Tryz.sizeOf283
 v40:=Tryz.zeroValue283
 t46:=Tryz.underlying135
 a46:=Tryz.isAgg135
 z46:=Tryz.sizeOf135
 v46:=Tryz.zeroValue135
 t49:=Tryz.underlying326
 a49:=Tryz.isAgg326
 z49:=Tryz.sizeOf326
 v49:=Tryz.zeroValue326
 t51:=Tryz.underlying51
 a51:=Tryz.isAgg51
 z51:=Tryz.sizeOf51
 v51:=Tryz.zeroValue51
 t119:=Tryz.underlying281
 a119:=Tryz.isAgg281
 z119:=Tryz.sizeOf281
 t141:=Tryz.underlying311
 a141:=Tryz.isAgg311
 z141:=Tryz.sizeOf311
 v141:=Tryz.zeroValue311
 t152:=Tryz.underlying307
 a152:=Tryz.isAgg307
 z152:=Tryz.sizeOf307
 v152:=Tryz.zeroValue307
 t154:=Tryz.underlying309
 a154:=Tryz.isAgg309
 z154:=Tryz.sizeOf309
 v154:=Tryz.zeroValue309
 t193:=Tryz.underlying322
 a193:=Tryz.isAgg322
 z193:=Tryz.sizeOf322
 v193:=Tryz.zeroValue322
 t194:=Tryz.underlying323
 a194:=Tryz.isAgg323
 z194:=Tryz.sizeOf323
 v194:=Tryz.zeroValue323
 t196:=Tryz.underlying325
 a196:=Tryz.isAgg325
 z196:=Tryz.sizeOf325
 v196:=Tryz.zeroValue325
 t198:=Tryz.underlying328
 a198:=Tryz.isAgg328
 z198:=Tryz.sizeOf328
 v198:=Tryz.zeroValue328
 t201:=Tryz.underlying331
 a201:=Tryz.isAgg331
 z201:=Tryz.sizeOf331
 v201:=Tryz.zeroValue331
 t226:=Tryz.underlying345
 a226:=Tryz.isAgg345
 z226:=Tryz.sizeOf345
 v226:=Tryz.zeroValue345
 t227:=Tryz.underlying346
 a227:=Tryz.isAgg346
 z227:=Tryz.sizeOf346
 v227:=Tryz.zeroValue346
 g0:=by kernel_rfl
 g6:=by kernel_rfl
 i0:=by kernel_rfl
 i3:=by kernel_rfl
 i4:=by kernel_rfl
 i5:=by kernel_rfl
 i9:=by kernel_rfl
 i21:=by kernel_rfl
 i31:=by kernel_rfl
 i40:=by kernel_rfl
 i46:=by kernel_rfl
 i49:=by kernel_rfl
 i51:=by kernel_rfl
 i141:=by kernel_rfl
 i152:=by kernel_rfl
 i154:=by kernel_rfl
 i193:=by kernel_rfl
 i194:=by kernel_rfl
 i196:=by kernel_rfl
 i198:=by kernel_rfl
 i201:=by kernel_rfl
 i226:=by kernel_rfl
 i227:=by kernel_rfl
 m0:=by kernel_rfl
 m6:=by kernel_rfl }
open Go.RowKit Go.Lib in
theorem Tryz.strings_Fields_laid(s:ByteArray)(w:Y)(hs:s.size<4294967281)(hascii:∀(j:G) b,s.data.toList[j]?=J b->b.toNat<128) (htab:Lib.TabIs Tryz.prog w "strings.asciiSpace" .u8 Lib.asciiSpaceTab) :
  Calls Tryz.prog 225 #[.string s] w λe w'=>
   e=.returned (.slice (J ⟨w.heap.size,0,X⟩) (Lib.fields s.data.toList).length (Lib.fields s.data.toList).length)/\w'=w.alloc (.cells ((Lib.fields s.data.toList).map λl=>Value.string ⟨l.toArray⟩).toArray 9):=Any.strings_Fields_laid Tryz.laysM157 s w hs hascii htab
end Go.Proofs
namespace Rv
open Go Go.RowKit Go.Proofs Go.Sort Go.Lib
noncomputable section
set_option maxRecDepth 100000
theorem holds_zero0(w:Y)(T:E)(nd:G)(hs:nd<=24):Holds (λ(b:UInt8)=>Value.int .u8 (b.toNat:Int)) (w.alloc (.cells zeros24 T)) w.heap.size 0 (Array.replicate nd (0:UInt8)):=λj hj=>by
 have hj':j<nd:=by simpa using hj
 refine⟨?_,World.frozen?_alloc_new _ _ _ _⟩;rw[World.cell?_alloc_new,zeros24_at _ (by omega),getElem!_pos _ j hj];simp
theorem IR(w:Y)(o:Obj)(dk:Array UInt8)(k:G):∃os,(putRow (λ(b:UInt8)=>Value.int .u8 (b.toNat:Int)) (w.alloc o) w.heap.size 0 dk).drewN k=grow (w.drewN k) os:=by
 rw[alloc_eq_grow];obtain⟨os',_,e⟩:=putRow_grow_new (λ(b:UInt8)=>Value.int .u8 (b.toNat:Int)) w #[o] w.heap.size 0 dk (NL _);exact⟨os',by rw[e];rfl⟩
set_option maxHeartbeats 6400000 in
theorem yG(u:G)(hu:u<=9223372036854775807)(w:Y) (htab:Lib.TabIs Tryz.prog w "internal/strconv.uint64pow10" .u64 Lib.pow10Tab) :
  Calls Tryz.prog 286 #[.int .u64 (u:Int),.int .i64 10] w λe w'=>e=.returned (.string ⟨(Lib.itoa (u:Int)).toArray⟩)/\Below w.heap.size w w':=by
 by_cases hs:u<100
 ·have hc:=Tryz.internal_strconv_small u hs w;have hw:IntKind.i64.wrap (u:Int)=(u:Int):=by rw[IntKind.wrap_i64];omega
  go_enter Tryz.func286,Tryz.ntmps286
  go_wp2_with (go_at_call 290;refine hc.mono ?_;rintro e w' ⟨rfl,rfl⟩)
  go_ret
  refine⟨?_,Below.refl _ _⟩;rw[Lib.itoa_nonneg];rfl
 ·have hu1:1<=u:=by omega
  have hu64:u<18446744073709551616:=by omega
  have hnd20:Lib.nDigits u<=20:=by have:=Lib.numDigits_eq u hu1 hu64;split at this<;>omega
  have hal:Tryz.prog.arrayLen 318=24:=by kernel_rfl
  have hsl1:∀W,(Instr.sliceAt 318 (.pointer (J ⟨w.heap.size,0,X⟩)) X (J (.int .i64 (Lib.nDigits u:Int))) X).run Tryz.prog W=.ok (.slice (J ⟨w.heap.size,0,X⟩) (Lib.nDigits u) 24) W:=λW=>by
   rw[run_sliceAt_array_h W 318 ⟨w.heap.size,0,X⟩ (by simp[Program.arrayLen,Program.elem,Tryz.underlying318]) .i64 (Lib.nDigits u:Int) (by omega) (by rw[hal];omega)]
   go_simp
  have hH0:=holds_zero0 w 318 (Lib.nDigits u) (by omega);have hfmt:=Tryz.internal_strconv_formatBase10 w.heap.size 0 24 u (Array.replicate (Lib.nDigits u) 0) (w.alloc (.cells Lib.zeros24 318)) hH0 (by rw[Array.size_replicate];exact Lib.lt_pow_nDigits u) hu64 (by rw[Array.size_replicate];omega);have hnum:=Tryz.internal_strconv_numDigits u hu1 hu64 (w.alloc (.cells Lib.zeros24 318)) (Lib.tabIs_alloc htab _);rw[Array.size_replicate] at hfmt;have HH0:=Lib.hid hH0;clear hH0 hal
  go_enter Tryz.func286,Tryz.ntmps286
  go_wp2_with (go_at_call 291;refine hnum.mono ?_;rintro e w' ⟨rfl,rfl⟩)
  go_at_call 292
  refine hfmt.mono ?_;rintro e w' ⟨rfl,k,v',dk,rfl,hF⟩;have hcv:(convert 42 9 (.slice (J ⟨w.heap.size,0,X⟩) (Lib.nDigits u) 24)).run Tryz.prog ((putRow (λ(b:UInt8)=>Value.int .u8 (b.toNat:Int)) (w.alloc (.cells Lib.zeros24 318)) w.heap.size 0 dk).drewN k)=.ok (.string ⟨(Lib.decDigits u).toArray⟩) ((putRow (λ(b:UInt8)=>Value.int .u8 (b.toNat:Int)) (w.alloc (.cells Lib.zeros24 318)) w.heap.size 0 dk).drewN k):=by
   have h:=run_convert_bytes_back (P:=Tryz.prog) ((putRow (λ(b:UInt8)=>Value.int .u8 (b.toNat:Int)) (w.alloc (.cells Lib.zeros24 318)) w.heap.size 0 dk).drewN k) 42 9 5 ⟨w.heap.size,0,X⟩ 24 (Lib.decDigits u) Tryz.underlying42 Tryz.underlying5 Tryz.underlying9 (λj hj=>by
    rw[Lib.row_is_numeral hF j hj,Lib.add_plain,World.cell?_drewN];exact cell?_putRow (λ(b:UInt8)=>Value.int .u8 (b.toNat:Int)) _ w.heap.size 0 _ dk HH0.out (by rw[hF.size,Array.size_replicate]) j (by rw[hF.size];rw[Lib.decDigits_length] at hj;exact hj))
   rw[Lib.decDigits_length] at h;exact h
  go_wp2
  go_ret
  obtain⟨os,eo⟩:=IR w (.cells Lib.zeros24 318) dk k;refine⟨?_,?_⟩;·rw[Lib.itoa_nonneg];rfl
  ·rw[eo];exact Lib.below_grow _ _ (NL _) _ _
end
end Rv
namespace Rv
open Go Go.RowKit
def CD.isArg:CD->zac
 | .int _ | .bool | .str | .ifo _ _ | .sl _=>Z
 |_=>zaa
def eD(w:Y)(t:Ty)(xs:U t.D)(v:M):Prop:=
 ∃A c,v=.slice A xs.length c/\xs.length<=c/\∀i x,xs[i]?=J x->∃g o ds,A=J ⟨g,o,X⟩/\g<w.heap.size/\Rd w (λ_=>True) t x ds/\∀j v,ds[j]?=J v->w.cell? ⟨g,o+i*t.size+j,X⟩=J v
def CD.argR(w:Y):(c:CD)->c.T->M->Prop
 | .sl t,xs,v=>eD w t xs v
 |c,x,v=>v=c.val x
def rX(w:Y):(l:U CD)->TL l->U M->Prop
 |[],_,vs=>vs=[]
 |_::_,_,[]=>False
 |c::l,x,v::vs=>c.argR w x.1 v/\rX w l x.2 vs
section
variable{P:Program}{C:Ctx}{γ:Gam}{h:Heap}{w:Y}
theorem wm{nm:Nm}:∀{l:U CD}{x:TL l}{m:G}{vs:U M},l.all CD.isArg=Z->aj (av C γ h w) (mkL nm l x m).1 vs->rX w l x vs
 |[],_,_,vs,_,ha=>by
  cases vs with
  |nil=>rfl
  |cons _ _=>exact ha.elim
 |c::r,x,m,vs,hl,ha=>by
  simp only[Oy,NJ] at hl;cases vs with
  |nil=>exact ha.elim
  |cons v vs=>
   simp only[mkL] at ha;obtain⟨h1,h2⟩:=ha;refine⟨?_,wm hl.2 h2⟩;cases c with
   |int k=>exact h1
   |bool=>exact h1
   |str=>exact h1
   |ifo t k=>
    obtain⟨o,x'⟩:=x;cases o with
    |none=>exact h1
    |some n=>exact h1
   |sl t=>
    obtain⟨_,A,c,hv,hc,hx⟩:=h1;refine⟨A,c,hv,hc,λi y hy=>?_⟩;obtain⟨g,o,ds,h3,_,h5,h6,h7⟩:=hx i y hy;exact⟨g,o,ds,h3,h5,h6.mono (NL _) (λ_ _ _=>⟨rfl,trivial⟩),h7⟩
   |_=>cases hl.1
theorem JP{L:Y->Prop}{f:FuncId}{sp:Spec}{la lr:U CD}(ea:sp.a=ak la)(er:sp.r=ak lr)(ha:la.all CD.isArg=Z)(hr:lr.all CD.isPlain=Z)
  (H:∀(x:TL la) (y:TL lr),sp.f (cast (by rw[ea];show TL la=TL (ak la).all;rw[bE]) x)=J (cast (by rw[er];show TL lr=TL (ak lr).all;rw[bE]) y)->∀w vs,L w->rX w la x vs ->
   Calls P f vs.toArray w λe w'=>Below w.heap.size w w'/\∃rs:Array M,e=.returned (if h:rs.size=1 then rs[0] else .tuple rs)/\wT lr y rs.toList):Sat P L f sp:=by
 obtain⟨a,r,g⟩:=sp;simp only at ea er H;subst ea er;intro x y hy C γ vals hCL hCn R;have hCn:C.nl=0:=hCn;have eqT:∀l:U CD,(ak l).T=TL l:=λl=>by show TL (ak l).all=TL l;rw[bE]
 have hsz:vals.size=la.length:=by
  rw[R.size];show(ax _ _ _).1.length=_;rw[bO];simp[ak,cu]
 have castmk:∀(l:U CD) (nm:Nm) (x:(ak l).T) (m:G),mkL nm (ak l).all x m=mkL nm l (cast (eqT l) x) m:=by
  intro l nm x m;have gen:∀(l':U CD) (e:l'=l) (x:TL l') (h:TL l'=TL l),mkL nm l' x m=mkL nm l (cast h x) m:=by
   intro l' e x h;subst e;rfl
  exact gen _ (bE l) x _
 have hvals:rX C.w0 la (cast (eqT la) x) vals.toList:=by
  have hnd:((ak la).slots.map (·.1)).Nodup:=by
   show((aD 0 la).map (·.1)).Nodup;rw[dA];exact List.nodup_range'
  have hlt:∀i,i∈(ak la).slots.map (·.1)->i<(List.replicate (ak la).slots.length V.dead).length:=λi hi=>by
   have hi:i∈(aD 0 la).map (·.1):=hi;rw[dA] at hi;simp only[List.mem_range'_1] at hi;simp[ak,cu];omega
  have hlen:(mkL nmJ (ak la).all x (ak la).boxes.length).1.length=((ak la).slots.flatMap λp=>p.2.cds).length:=by
   rw[(dB _ _ _ _).2.2,bE];show _=((aD 0 la).flatMap _).length;rw[gZ]
  have hb:=(kI (C:=C) (γ:=γ) (h:=((ak la).mk' nmJ (ak la).slots.length x).h) (w:=C.w0) (vals:=vals) hnd hlt hlen R.slot).1;rw[castmk] at hb;have hv:=wm ha hb;have hf:aV vals (ak la).slots=vals.toList:=by
   show aV vals (aD 0 la)=_;rw[fU,<- hsz,iI]
  rw[hf] at hv;exact hv
 have hw:=H (cast (eqT la) x) (cast (eqT lr) y) (by simp only[cast_cast,cast_eq];exact hy) C.w0 vals.toList (by rw[<- hCL];exact R.inv.laid) hvals;rw[Array.toArray_toList] at hw;refine hw.mono λe w' ⟨hb,rs,he,hres⟩=>⟨λ_=>X,rs,he,?_⟩
 have hrows:(mkL nmJ (ak lr).all y (ak lr).boxes.length).2.1=[]:=by rw[castmk];exact pK hr
 have hh:((ak lr).mk' nmJ (ak lr).slots.length y).h=Heap.ofList []:=by
  have:((ak lr).mk' nmJ (ak lr).slots.length y).h=Heap.ofList ([]++(mkL nmJ (ak lr).all y (ak lr).boxes.length).2.1):=rfl;rw[this,hrows];rfl
 have hlr:∀{l:U CD}{x:TL l}{vs:U M},wT l x vs->vs.length=l.length:=by
  intro l
  induction l with
  |nil=>intro x vs hr;cases vs with
   |nil=>rfl
   |cons _ _=>exact hr.elim
  |cons c l ih=>intro x vs hr;cases vs with
   |nil=>exact hr.elim
   |cons v vs=>simp[ih hr.2]
 have hrs:rs.size=lr.length:=by have:=hlr hres;simpa using this
 have hcells:=wU (C:=C) (γ:=λ_=>X) (h:=Heap.ofList []) (w:=w') (nm:=nmJ) (m:=(ak lr).boxes.length) hres;rw[<- castmk] at hcells;have hfv:aV rs (ak lr).slots=rs.toList:=by
  show aV rs (aD 0 lr)=_;rw[fU,<- hrs,iI]
 have hok:dF rs (ak lr).slots:=by
  intro i sd hm;have hm:(i,sd)∈aD 0 lr:=hm;have:∀(l:U CD) (j:G),(i,sd)∈aD j l->∃c,sd=.c c:=by
   intro l
   induction l with
   |nil=>intro j hj;simp[aD] at hj
   |cons c l ih=>
    intro j hj;simp only[aD,NT,NI] at hj;rcases hj with hj|hj;·exact⟨c,hj.2⟩
    ·exact ih _ hj
  obtain⟨c,rfl⟩:=this lr 0 hm;trivial
 obtain⟨h1,h2,_⟩:=bK (C:=C) (γ:=λ_=>X) (h:=Heap.ofList []) (w:=w') (vals:=rs) (sl:=(ak lr).slots) (l:=List.replicate (ak lr).slots.length V.dead) (rest:=[]) hok (λi v hi=>by
   rw[List.getElem?_replicate] at hi;split at hi;·simp only[ND] at hi;subst hi;trivial
   ·cases hi) (by rw[hfv,N9];exact hcells)
 refine⟨?_,?_,?_⟩;·show rs.size=(ax _ _ _).1.length;rw[h1,OH,hrs];simp[ak,cu]
 ·rw[hh];exact h2
 ·rw[hh];exact uk R.inv hCn hb
def CD.isFree:CD->zac
 | .sl _ | .fn=>Z
 |c=>c.isPlain
def CD.resF(w0 w:Y):(c:CD)->c.T->M->Prop
 | .sl t,xs,v=>v.oneCell'=Z/\Rd w (λg=>w0.heap.size<=g) (.sl t) xs [v]
 | .fn,x,v=>v.oneCell'=Z/\Rd w (λg=>w0.heap.size<=g) .fn x [v]
 |c,x,v=>c.res x v
def resF(w0 w:Y):(l:U CD)->TL l->U M->Prop
 |[],_,[]=>True
 |c::r,x,v::vs=>c.resF w0 w x.1 v/\resF w0 w r x.2 vs
 |_,_,_=>False
theorem xC{nm:Nm}:∀{l:U CD}{x:TL l}{m:G},l.all CD.isFree=Z->(mkL nm l x m).2.1=[]
 |[],_,_,_=>rfl
 |c::r,x,m,hl=>by
  simp only[Oy,NJ] at hl;simp only[mkL];rw[xC hl.2];cases c<;>first|rfl|cases hl.1
theorem Cy{w0:Y}(hrd:∀g,w0.heap.size<=g->C.rd g):∀g,w0.heap.size<=g->okb C (λ_=>X) (Heap.ofList []) X g:=λg hg=>⟨hrd g hg,λk e c hk=>by cases hk⟩
theorem zG{w0:Y}(hrd:∀g,w0.heap.size<=g->C.rd g){nm:Nm}:∀{l:U CD}{x:TL l}{m:G}{vs:U M},resF w0 w l x vs->aj (av C (λ_=>X) (Heap.ofList []) w) (mkL nm l x m).1 vs
 |[],_,_,[],_=>trivial
 |[],_,_,_::_,hr=>hr.elim
 |_::_,_,_,[],hr=>hr.elim
 |c::r,x,m,v::vs,hr=>by
  simp only[mkL];refine⟨?_,zG hrd hr.2⟩;have:=hr.1;cases c with
  |int k=>exact this
  |bool=>exact this
  |str=>exact this
  |err=>exact this
  |ifo t k=>
   obtain⟨o,x'⟩:=x;cases o with
   |none=>exact this
   |some n=>exact this
  |sl t=>exact⟨this.1,RdS.iff.2 (this.2.mono (NL _) λg hg _=>⟨rfl,Cy hrd g hg⟩)⟩
  |fn=>exact⟨this.1,this.2.mono (NL _) λg hg _=>⟨rfl,Cy hrd g hg⟩⟩
  |_=>exact this.elim
theorem JQ{L:Y->Prop}{f:FuncId}{sp:Spec}{la lr:U CD}(ea:sp.a=ak la)(er:sp.r=ak lr)(ha:la.all CD.isArg=Z)(hr:lr.all CD.isFree=Z)
  (H:∀(x:TL la) (y:TL lr),sp.f (cast (by rw[ea];show TL la=TL (ak la).all;rw[bE]) x)=J (cast (by rw[er];show TL lr=TL (ak lr).all;rw[bE]) y)->∀w vs,L w->rX w la x vs ->
   Calls P f vs.toArray w λe w'=>Below w.heap.size w w'/\∃rs:Array M,e=.returned (if h:rs.size=1 then rs[0] else .tuple rs)/\resF w w' lr y rs.toList):Sat P L f sp:=by
 obtain⟨a,r,g⟩:=sp;simp only at ea er H;subst ea er;intro x y hy C γ vals hCL hCn R;have hCn:C.nl=0:=hCn;have eqT:∀l:U CD,(ak l).T=TL l:=λl=>by show TL (ak l).all=TL l;rw[bE]
 have hsz:vals.size=la.length:=by
  rw[R.size];show(ax _ _ _).1.length=_;rw[bO];simp[ak,cu]
 have castmk:∀(l:U CD) (nm:Nm) (x:(ak l).T) (m:G),mkL nm (ak l).all x m=mkL nm l (cast (eqT l) x) m:=by
  intro l nm x m;have gen:∀(l':U CD) (e:l'=l) (x:TL l') (h:TL l'=TL l),mkL nm l' x m=mkL nm l (cast h x) m:=by
   intro l' e x h;subst e;rfl
  exact gen _ (bE l) x _
 have hvals:rX C.w0 la (cast (eqT la) x) vals.toList:=by
  have hnd:((ak la).slots.map (·.1)).Nodup:=by
   show((aD 0 la).map (·.1)).Nodup;rw[dA];exact List.nodup_range'
  have hlt:∀i,i∈(ak la).slots.map (·.1)->i<(List.replicate (ak la).slots.length V.dead).length:=λi hi=>by
   have hi:i∈(aD 0 la).map (·.1):=hi;rw[dA] at hi;simp only[List.mem_range'_1] at hi;simp[ak,cu];omega
  have hlen:(mkL nmJ (ak la).all x (ak la).boxes.length).1.length=((ak la).slots.flatMap λp=>p.2.cds).length:=by
   rw[(dB _ _ _ _).2.2,bE];show _=((aD 0 la).flatMap _).length;rw[gZ]
  have hb:=(kI (C:=C) (γ:=γ) (h:=((ak la).mk' nmJ (ak la).slots.length x).h) (w:=C.w0) (vals:=vals) hnd hlt hlen R.slot).1;rw[castmk] at hb;have hv:=wm ha hb;have hf:aV vals (ak la).slots=vals.toList:=by
   show aV vals (aD 0 la)=_;rw[fU,<- hsz,iI]
  rw[hf] at hv;exact hv
 have hw:=H (cast (eqT la) x) (cast (eqT lr) y) (by simp only[cast_cast,cast_eq];exact hy) C.w0 vals.toList (by rw[<- hCL];exact R.inv.laid) hvals;rw[Array.toArray_toList] at hw;refine hw.mono λe w' ⟨hb,rs,he,hres⟩=>⟨λ_=>X,rs,he,?_⟩
 have hrows:(mkL nmJ (ak lr).all y (ak lr).boxes.length).2.1=[]:=by rw[castmk];exact xC hr
 have hh:((ak lr).mk' nmJ (ak lr).slots.length y).h=Heap.ofList []:=by
  have:((ak lr).mk' nmJ (ak lr).slots.length y).h=Heap.ofList ([]++(mkL nmJ (ak lr).all y (ak lr).boxes.length).2.1):=rfl;rw[this,hrows];rfl
 have hlr:∀{l:U CD}{x:TL l}{vs:U M},resF C.w0 w' l x vs->vs.length=l.length:=by
  intro l
  induction l with
  |nil=>intro x vs hr;cases vs with
   |nil=>rfl
   |cons _ _=>exact hr.elim
  |cons c l ih=>intro x vs hr;cases vs with
   |nil=>exact hr.elim
   |cons v vs=>simp[ih hr.2]
 have hrs:rs.size=lr.length:=by have:=hlr hres;simpa using this
 have hcells:=zG (C:=C) (nm:=nmJ) (m:=(ak lr).boxes.length) (λg hg=>R.inv.rd g (R.inv.new g hg)) hres;rw[<- castmk] at hcells;have hfv:aV rs (ak lr).slots=rs.toList:=by
  show aV rs (aD 0 lr)=_;rw[fU,<- hrs,iI]
 have hok:dF rs (ak lr).slots:=by
  intro i sd hm;have hm:(i,sd)∈aD 0 lr:=hm;have:∀(l:U CD) (j:G),(i,sd)∈aD j l->∃c,sd=.c c:=by
   intro l
   induction l with
   |nil=>intro j hj;simp[aD] at hj
   |cons c l ih=>
    intro j hj;simp only[aD,NT,NI] at hj;rcases hj with hj|hj;·exact⟨c,hj.2⟩
    ·exact ih _ hj
  obtain⟨c,rfl⟩:=this lr 0 hm;trivial
 obtain⟨h1,h2,_⟩:=bK (C:=C) (γ:=λ_=>X) (h:=Heap.ofList []) (w:=w') (vals:=rs) (sl:=(ak lr).slots) (l:=List.replicate (ak lr).slots.length V.dead) (rest:=[]) hok (λi v hi=>by
   rw[List.getElem?_replicate] at hi;split at hi;·simp only[ND] at hi;subst hi;trivial
   ·cases hi) (by rw[hfv,N9];exact hcells)
 refine⟨?_,?_,?_⟩;·show rs.size=(ax _ _ _).1.length;rw[h1,OH,hrs];simp[ak,cu]
 ·rw[hh];exact h2
 ·rw[hh];exact uk R.inv hCn hb
end
end Rv
namespace Rv
open Go Go.RowKit Go.Proofs
noncomputable section
set_option maxRecDepth 100000
theorem zm:(Tryz.prog.info? 183).map (·.size)=J 2:=by kernel_rfl
theorem Ig:liesAt Tryz.prog Tryz.prog.depth 183 (2 / Tryz.prog.cellsOf 183) 0 183 1=Z:=by kernel_rfl
theorem ww(b:G)(w:Y)(h0:w.cell? ⟨b,0,X⟩=J (.pointer (J ⟨b,0,X⟩))) :
  Calls Tryz.prog 187 #[.pointer (J ⟨b,0,X⟩)] w λe w'=>e=.returned (.tuple #[])/\w'=w:=by
 obtain⟨j,hj,_⟩:=Option.map_eq_some_iff.1 zm
 go_enter Tryz.func187,Tryz.ntmps187
 go_wp2
 rw[Lib.run_neq_ptr_same w _ Tryz.underlying181 hj]
 go_wp2
 go_end0
 exact⟨rfl,rfl⟩
theorem ma(b:G)(w:Y)(h0:w.cell? ⟨b,0,X⟩=J (.pointer X))(hsh:w.shape? b=J (183,2))(hfz:w.frozen? ⟨b,0,X⟩=zaa) :
  Calls Tryz.prog 187 #[.pointer (J ⟨b,0,X⟩)] w λe w'=>e=.returned (.tuple #[])/\w'=w.setCell ⟨b,0,X⟩ (.pointer (J ⟨b,0,X⟩)):=by
 obtain⟨j,hj,hjs⟩:=Option.map_eq_some_iff.1 zm
 go_enter Tryz.func187,Tryz.ntmps187
 go_wp2
 rw[Lib.run_to_unsafe w ⟨b,0,X⟩ Tryz.underlying181 Tryz.underlying267 hj (by rw[hjs];decide) hsh (Nat.zero_lt_succ 1)];simp only[Result.andThen];rw[Oper.upon_value]
 go_wp2
 rw[run_callFunc_extern Tryz.func234 (by kernel_rfl) (by kernel_rfl) (by kernel_rfl) (e:=Extern.AbiNoEscape.same) (by kernel_rfl)];rw[Lib.run_noEscape];simp only[Result.andThen];rw[Oper.upon_value]
 go_wp2
 rw[Lib.run_from_unsafe w ⟨b,0,X⟩ Tryz.underlying267 Tryz.underlying181 hj hsh Ig];simp only[Result.andThen];rw[Oper.upon_value]
 go_wp2
 go_end0
 exact⟨rfl,rfl⟩
theorem BG(B b:G)(bs:U M)(w:Y)(h:Lib.IsBuilderF 183 5 B b bs w) :
  Calls Tryz.prog 187 #[.pointer (J ⟨b,0,X⟩)] w λe w'=>e=.returned (.tuple #[])/\(Lib.BuilderAtF 183 5 B b (.pointer (J ⟨b,0,X⟩)) bs w'/\Below B w w'/\Lib.OthersKept 5 (J b) w w'):=by
 rcases h with h|h;·refine(ma b w h.cell0 h.shape h.frozen0).mono ?_;rintro e w' ⟨rfl,rfl⟩;exact⟨rfl,h.used _,(Below.refl B w).setCell (p:=⟨b,0,X⟩) h.1 _,(Lib.OthersKept.refl _ _ w).setCell ⟨b,0,X⟩ rfl _⟩
 ·refine(ww b w h.cell0).mono ?_;rintro e w' ⟨rfl,rfl⟩;exact⟨rfl,h,Below.refl B _,Lib.OthersKept.refl _ _ _⟩
set_option maxHeartbeats 2000000 in
theorem yM(B b:G)(bs:U M)(s:ByteArray)(w:Y)(h:Lib.IsBuilderF 183 5 B b bs w)(hlen:bs.length+s.size<=140737488355328)(hBw:B<=w.heap.size) :
  Calls Tryz.prog 130 #[.pointer (J ⟨b,0,X⟩),.string s] w λe w'=>e=.returned (.tuple #[.int .i64 s.size,.nilIface])/\(Lib.BuilderAtF 183 5 B b (.pointer (J ⟨b,0,X⟩)) (bs++Lib.strCells s) w'/\Below B w w'/\Lib.OthersKept 5 (J b) w w'):=by
 obtain⟨i0,hi,hz0,hz1,hz2⟩:=info_parts (show(Tryz.prog.info? 5).map (λi=>(i.zero,i.size,i.bytes))=J (J (.int .u8 0),1,1) by kernel_rfl);have hcc:=BG B b bs w h
 go_enter Tryz.func130,Tryz.ntmps130
 go_wp2_with (go_at_call 187;refine hcc.mono ?_)
 rintro e w1 ⟨rfl,h1,hb1,hk1⟩;obtain⟨hB,v,hbk,hown,hne⟩:=h1;have c0:w1.cell? ⟨b,0,X⟩=J (.pointer (J ⟨b,0,X⟩)):=by rw[Lib.cell_of_heap hbk];rfl
 have c1:w1.cell? ⟨b,1,X⟩=J v:=by rw[Lib.cell_of_heap hbk];rfl
 go_wp2_with (at_builtin;refine Lib.wpList_append_own_stringF _ rfl _ _ 42 9 rfl B 5 i0 Tryz.underlying42 Tryz.underlying9 hi hz0 hz1 hz2 _ _ _ rfl hown s rfl ?c3 ?c4 ?c5 ?_)
 case c3=>unfold maxLen;omega
 case c4=>omega
 case c5=>have:=hb1.size;omega
 intro v' w2 hown' hgrow _;have hlt:b<w1.heap.size:=by
  rcases Nat.lt_or_ge b w1.heap.size with h'|h';·exact h'
  ·simp[Array.getElem?_eq_none h'] at hbk
 have hb2:w2.heap[b]?=J (.cells #[.pointer (J ⟨b,0,X⟩),v] 183 (0,0)):=by
  rw[hgrow.block b hlt (λe=>hne e.symm)];exact hbk
 have d0:w2.cell? ⟨b,0,X⟩=J (.pointer (J ⟨b,0,X⟩)):=by rw[Lib.cell_of_heap hb2];rfl
 have d1:w2.cell? ⟨b,1,X⟩=J v:=by rw[Lib.cell_of_heap hb2];rfl
 have f1:w2.frozen? ⟨b,1,X⟩=zaa:=Lib.frozen_of_heap hb2 1;obtain⟨ao,n',cap,rfl⟩:∃ao n' cap,v'=.slice ao n' cap:=by
  rcases hown'.2 with⟨hv,_⟩|⟨g,cap,cur,fz,hv,_⟩;·exact⟨_,_,_,hv⟩
  ·exact⟨_,_,_,hv⟩
 go_wp2
 go_ret2
 refine⟨rfl,?_,?_,(hk1.grown hgrow (Lib.ownsRowF_kind hown)).setCell ⟨b,1,X⟩ rfl _⟩;·exact Lib.BuilderAtF.put (T:=183) (e:=5) hB hb2 (bs':=bs++Lib.strCells s) (by simpa[Lib.strCells_length] using hown') (by decide)
 ·exact(hb1.grown hgrow (by have:=hb1.size;omega) (λk hk=>(hown.lt k hk).1)).setCell (p:=⟨b,1,X⟩) hB _
end
end Rv
