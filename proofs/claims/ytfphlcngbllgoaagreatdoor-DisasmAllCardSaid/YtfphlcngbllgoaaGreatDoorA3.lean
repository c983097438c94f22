/- Texts put together. -/
import Derived.Test.YtfphlcngbllgoaaGreatDoorA2
set_option linter.all false
open Option renaming some→J,none→Z
open _root_ renaming List→O,Nat→X,Option→F,if_neg→B,if_pos→zaa,congrArg→zab
open Go renaming Value→Y,TypeId→G,World→E
open Bool renaming true→M
namespace Rv
open Go
section
variable{P:Program}{C:Ctx}{γ:Gam}{h:Heap}{w:E}{R:Type}{r:R}
theorem bi.mono{w w':E}{ok ok':X->Prop}{t:Ty}{xs:O t.D}{cur:O Y}(hr:bi w ok t xs cur)(hs:w.heap.size<=w'.heap.size)(hb:∀g,ok g->g<w.heap.size->w'.heap[g]?=w.heap[g]?/\ok' g):bi w' ok' t xs cur:=
 λi x hx=>(hr i x hx).mono hs hb
theorem GR{st:St}{a:Act}(R':Rel C γ w st a.tmps){o:Oper}{e:G}{t:Ty}{xs:O t.D}{cur:Array Y}{c:X}{rd:O X}(hr:bi w (okb C γ st.h Z) t xs cur.toList)(hc:xs.length<=c)(hcm:c<=maxLen)(hcs:cur.size=c*t.size)(hsz:0<t.size)
  (hrun:(execOp a.eval o).run P w=.ok (.value (.slice (J ⟨w.heap.size,0,Z⟩) xs.length c)) (w.alloc (.cells cur e))) :
  eY P C w st a o ⟨.v (.c (.own (dk o.dst) (st.h.next (dk o.dst)))),rd,[(dk o.dst,⟨st.h.next (dk o.dst),0,.row e t xs⟩)]⟩:=by
 intro next Q hn
 have hE:=mi w (.cells cur e);have hv:∀g c',J (w.heap.size,c)=J (g,c')->w.heap.size<=g:=λg c' e=>by have:=dE e;omega
 have T':=ni R'.inv hE (dk o.dst) (.row e t xs) (J (w.heap.size,c)) hv;refine dM hrun (hn (iy γ (dk o.dst) (J (w.heap.size,c))) _ _ (R'.app T' (R'.inv.fresh hE (pV w _) (dk o.dst) (.row e t xs) (J (w.heap.size,c)) hv ?_) ?_));·exact .inr ⟨w.heap.size,c,cur,bz _ _ _,heap_alloc_new w _,hc,hcm,hcs,hsz,hr.mono T'.sz λg ho hg=>T'.okb (d:=Z) trivial ho hg⟩
 ·refine⟨rfl,aT (bH _ _ _) rfl λn hn'=>?_⟩;simp only[Box.len,ND] at hn';rw[bz,<- hn'];rfl
theorem yz{ok:X->Prop}{t:Ty}{z:t.D}{cs:Array Y}(hd:Rd w ok t z cs.toList)(n:X)(hsz:0<t.size):bi w ok t (List.replicate n z) ((Array.range (n*t.size)).map (cs[· % cs.size]!)).toList:=by
 intro i x hx;rw[List.getElem?_replicate] at hx;split at hx
 ·rename_i hi;simp only[ND] at hx;subst hx;have hl:=hd.length;have hl':cs.size=t.size:=by simpa using hl
  have:(((Array.range (n*t.size)).map (cs[· % cs.size]!)).toList.drop (i*t.size)).take t.size=cs.toList:=by
   apply List.ext_getElem?;intro m;rw[Oi];split
   ·rename_i hm;have hle:i*t.size+m<n*t.size:=by
     calc i*t.size+m<i*t.size+t.size:=by omega
      _=(i+1)*t.size:=by rw[Nat.add_mul,Nat.one_mul]
      _<=n*t.size:=Nat.mul_le_mul_right _ hi
    have hmod:(i*t.size+m) % t.size=m:=by rw[Nat.add_comm,Nat.mul_comm,Nat.add_mul_mod_self_left,Nat.mod_eq_of_lt hm]
    rw[Ov];have hms:m<cs.size:=by omega
    simp[hle,hl',hmod,hm]
   ·rw[List.getElem?_eq_none (by simp;omega)]
  rw[this];exact hd
 ·cases hx
theorem yC{te:G->F TI}(hte:∀t i,te t=J i->aN P t i){st:St}{a:Act}(R':Rel C γ w st a.tmps){o:Oper}{sT e:G}{n:X}{parts:Array (X×Operand)}(ho:o.op=.buildSlice sT n parts)
  (hs:(te sT).bind (·.elem)=J e) {ti:TI} (hti:te e=J ti) {ps:O (X×V1)} (hps:aj (λ(p:X×V1) (q:X×Y)=>p.1=q.1/\aj (av C γ st.h w) p.2.cells q.2.cells.toList) ps (parts.toList.map λ(p:X×Operand)=>(p.1,a.eval p.2))) {t:Ty} (ht:ti.ty=J t) {z:t.D} (hz:t.ofCells ti.zero=J z) (hn:n*ti.size<=16777216/\0<ti.size)
  {xs:O t.D} (hx:kZ t (List.replicate n z) ps=J xs) {rd:O X} :
  eY P C w st a o ⟨.v (.c (.own (dk o.dst) (st.h.next (dk o.dst)))),rd,[(dk o.dst,⟨st.h.next (dk o.dst),0,.row e t xs⟩)]⟩:=by
 have hi:=hte _ _ hti;have hsl:P.underlying sT=J (.slice e):=by
  cases h0:te sT with
  |none=>rw[h0] at hs;simp at hs
  |some i0=>rw[h0] at hs;exact(hte _ _ h0).elem e hs
 obtain⟨zv,hzr,hzs,hza⟩:=lX (C:=C) (γ:=γ) (h:=st.h) (w:=w) hi;have hts:=(hi.ty t ht).1;have hsz:0<t.size:=by omega
 have hzd:=Rd.ofCells hz hza;have hzero:=yz hzd n hsz;obtain⟨vs',h3,h4,h5,h6⟩:=qi (C:=C) (γ:=γ) (h:=st.h) (w:=w) (λh1 h2=>Rd.ofCells h1 h2) hx hzero (by simp) hps;have hlen:xs.length=n:=by rw[h6];simp
 have hnl:n<=16777216:=Og (Nat.le_mul_of_pos_right n hn.2) hn.1;refine GR R' h4 (Nat.le_of_eq hlen) (by simp only[maxLen];omega) (by rw[h5];simp) hsz ?_;have hno:¬n*ti.size>2 ^ 24:=by omega
 rw[<- Array.toList_map,hts] at h3;have hr0:Array.range 0=#[]:=rfl;have hbs:(Instr.buildSlice sT n (parts.map λ(p:X×Operand)=>(p.1,a.eval p.2))).run P w=.ok (.slice (J ⟨w.heap.size,0,Z⟩) n n) (w.alloc (.cells vs' e)):=by
  by_cases h0:n*ti.size=0;·rw[h0,hr0] at h3;simp only[List.map_toArray,List.map_nil] at h3;simp only[Instr.buildSlice,NR,run_underlying hsl,NG,hi.sizeOf,B hno,h0,if_true,NZ,hr0,List.map_toArray,List.map_nil,h3,newRow,run_newObj];simp
  ·simp only[Instr.buildSlice,NR,run_underlying hsl,NG,hi.sizeOf,B hno,B h0,hzr,NZ,h3,newRow,run_newObj];simp
 rw[hlen];simp only[execOp,ho,NR,hbs,NG,NZ]
theorem Rel.ext{st:St}{tmps:Array Y}(R':Rel C γ w st tmps){w':E}(hE:Ext w w')(S:Step C w w'):Rel C γ w' st tmps:=by
 have T:bP C γ st.h w C γ st.h w':=⟨hE.1,λk e hk=>⟨e,hk,.inr ⟨rfl,rfl,Alike.refl e⟩⟩,λg hg _=>hE.2 g hg,λk e c g hk hl hg _=>⟨k,e,c,hk,hl,hg,.inl rfl⟩,λ_ _ h=>h,λ_ h=>h⟩
 exact R'.step T (R'.inv.step S T (λk e hk=>dI.step T (R'.inv.box k e hk) rfl λhl g c hγ=>hE.2 g (ig R'.inv hk hl hγ)) R'.inv.inj R'.inv.own)
abbrev oJ(b:X)(f:FuncId):Y:=.func (.func f) #[] #[.pointer (J ⟨b,0,Z⟩)]
theorem qz{st:St}{a:Act}(R':Rel C γ w st a.tmps){k v:X}:∀{l:O (X×Operand)}{fs:O FuncId},fu st l=J (k,v,fs)->(∀f∈fs,f<fe)->∀{en:En}{cs:O Cell} (_:st.h k=J en) (_:en.ver=v) (_:en.box=.cells cs),
  ∃b c,γ k=J (b,c)/\l.map (λp=>a.eval p.2)=fs.map (oJ b)
 |[],fs,h=>by cases h
 |[(i,x)],fs,h=>by
  intro hfs _ _ hk hve hb;rw[fu] at h;split at h
  ·rename_i f k' v' hx;cases h;obtain⟨vs,hv,ha⟩:=iG R' hx
   match vs,ha with
   |[u],ha=>
    obtain⟨b,c,hγ,hu⟩:=ha.1.2.get hk hve _ hb;rw[lC (hfs f (by simp))] at hv;exact⟨b,c,hγ,by simp[hv,hu]⟩
  ·cases h
 |(i,x)::p::r,fs,h=>by
  intro hfs _ _ hk hve hb;rw[fu] at h;split at h
  ·rename_i f k' v' hx;split at h
   ·rename_i k2 v2 fs2 hr;obtain⟨⟨rfl,rfl⟩,h⟩:=aa h;cases h;obtain⟨vs,hv,ha⟩:=iG R' hx;obtain⟨b',c',hγ',hl⟩:=qz R' hr (λf hf=>hfs f (by simp[hf])) hk hve hb
    match vs,ha with
    |[u],ha=>
     obtain⟨b,c,hγ,hu⟩:=ha.1.2.get hk hve _ hb;rw[hγ] at hγ';obtain⟨rfl,rfl⟩:=dE hγ';refine⟨b,c,hγ,?_⟩;rw[lC (hfs f (by simp))] at hv;rw[NY,hl,NY,hv,hu]
   ·cases h
  ·cases h
  ·rintro⟨⟩
theorem zC:∀(vals:O Y),(∀u∈vals,u.cells=#[u])->∀(j:X) (acc:Array Y),acc.size=j+vals.length ->
  Instr.fill (λi=>J (i*1,1)) acc ((List.range' j vals.length).zip vals)=J (acc.toList.take j++vals).toArray
 |[],_,j,acc,h=>by
  simp only[Ol,Nat.add_zero] at h;subst h;show J acc=J (acc.toList.take acc.size++[]).toArray;rw[N9,List.take_of_length_le (by simp)]
 |u::vals,hu,j,acc,h=>by
  have h1:=hu u (by simp);simp only[N7] at h;rw[N7,List.range'_succ,List.zip_cons_cons];simp only[Instr.fill];rw[h1];rw[B (by simp;omega)];have e:((#[u]:Array Y).zipIdx.foldl (λ(cs:Array Y) (p:Y×X)=>cs.setIfInBounds (j*1+p.2) p.1) acc)=acc.setIfInBounds j u:=by simp
  rw[e,zC vals (λx hx=>hu x (by simp[hx])) (j+1) _ (by simp;omega)];congr 2;apply List.ext_getElem?;intro m;simp only[Array.toList_setIfInBounds];rcases Nat.lt_trichotomy m j with hm|rfl|hm;·rw[Ou (by simp;omega),Ou (by simp;omega),List.getElem?_take_of_lt (by omega),List.getElem?_take_of_lt hm,List.getElem?_set_ne (by omega)]
  ·rw[Ou (by simp;omega),List.getElem?_append_right (by simp;omega),List.getElem?_take_of_lt (by omega),List.getElem?_set_self (by simp;omega)];have:m-(acc.toList.take m).length=0:=by simp;omega
   rw[this];rfl
  ·rw[List.getElem?_append_right (by simp;omega),List.getElem?_append_right (by simp;omega)];have e1:m-(List.take (j+1) (acc.toList.set j u)).length=m-(j+1):=by simp;omega
   have e2:m-(List.take j acc.toList).length=(m-(j+1))+1:=by simp;omega
   rw[e1,e2,List.getElem?_cons_succ]
theorem BD{te:G->F TI}(hte:∀t i,te t=J i->aN P t i){st:St}{a:Act}(R':Rel C γ w st a.tmps){o:Oper}{sT e:G}{n:X}{parts:Array (X×Operand)}(ho:o.op=.buildSlice sT n parts)
  (hs:(te sT).bind (·.elem)=J e) {ti:TI} (hti:te e=J ti) {k v:X} {fs:O FuncId} (hc:fu st parts.toList=J (k,v,fs)) {cs:O Cell} (hat:st.h.at k v=J (.cells cs))
  (hq:ti.size=1/\ti.agg=false/\n=fs.length/\n<=1000/\parts.toList.map (·.1)=List.range n/\(fs.all λf=>decide (f<fe))=M):eY P C w st a o ⟨.v (.c (.clr k v fs)),[k],[]⟩:=by
 obtain⟨h1,h2,hn,h1000,hidx,hfs⟩:=hq;obtain⟨en,hk,hve,hbox⟩:=aH hat
 obtain⟨b,c,hγ,hvals⟩:=qz R' hc (λf hf=>by simpa using Oa.1 hfs f hf) hk hve hbox;have hi:=hte _ _ hti;have hsl:P.underlying sT=J (.slice e):=by
  cases h0:te sT with
  |none=>rw[h0] at hs;simp at hs
  |some i0=>rw[h0] at hs;exact(hte _ _ h0).elem e hs
 obtain⟨zv,hzr,hzs,hza⟩:=lX (C:=C) (γ:=γ) (h:=st.h) (w:=w) hi;have hqs:(parts.map λ(p:X×Operand)=>(p.1,a.eval p.2)).toList=(List.range' 0 (fs.map (oJ b)).length).zip (fs.map (oJ b)):=by
  rw[Ow,<- hn,<- List.range_eq_range',<- hidx,<- hvals,Array.toList_map];generalize parts.toList=l
  induction l with
  |nil=>rfl
  |cons p l ih=>simp only[NY,List.zip_cons_cons,ih]
 have hfill:=zC (fs.map (oJ b)) (λu hu=>by obtain⟨f,_,rfl⟩:=N8.1 hu;rfl) 0;have hno:¬n*ti.size>2 ^ 24:=by rw[h1];omega
 have hbs:(Instr.buildSlice sT n (parts.map λ(p:X×Operand)=>(p.1,a.eval p.2))).run P w=.ok (.slice (J ⟨w.heap.size,0,Z⟩) n n) (w.alloc (.cells (fs.map (oJ b)).toArray e)):=by
  have hn0:¬n*ti.size=0:=by
   intro h0;have:fs≠[]:=by
    rintro rfl;cases hl:parts.toList with
    |nil=>rw[hl] at hc;cases hc
    |cons p l=>rw[hl] at hvals;cases hvals
   have:=List.length_pos_iff.2 this;rw[h1] at h0;omega
  have hf:=hfill ((Array.range (n*ti.size)).map (zv.cells[· % zv.cells.size]!)) (by simp[h1,hn]);rw[<- hqs] at hf;simp only[List.take_zero,Oc] at hf;have hf:Instr.fill (λi=>J (i*ti.size,ti.size)) ((Array.range (n*ti.size)).map (zv.cells[· % zv.cells.size]!)) (parts.map λ(p:X×Operand)=>(p.1,a.eval p.2)).toList=J (fs.map (oJ b)).toArray:=by rw[h1] at hf⊢;exact hf
  simp only[Instr.buildSlice,NR,run_underlying hsl,NG,hi.sizeOf,B hno,B hn0,hzr,NZ,hf,newRow,run_newObj];simp
 intro next Q hn'
 have hE:=mi w (.cells (fs.map (oJ b)).toArray e);have hrep:aZ C γ st.h (w.alloc (.cells (fs.map (oJ b)).toArray e)) (.v (.c (.clr k v fs))) (.slice (J ⟨w.heap.size,0,Z⟩) n n):=by
  refine⟨rfl,aT hk hve λl' hl'=>⟨b,c,w.heap.size,hγ,by rw[hn],λj f hj=>⟨⟨R'.inv.rd _ (R'.inv.new _ R'.inv.size),λk' e' c' hk' hl'' hγ'=>?_⟩,by simp,?_⟩⟩⟩;·have:=ig R'.inv hk' hl'' hγ';omega
  ·rw[cell_of_row _ _ _ (fs.map (oJ b)).toArray e (0,0) (heap_alloc_new w _)];simp[hj]
 refine dM (val:=.slice (J ⟨w.heap.size,0,Z⟩) n n) ?_ (hn' γ _ _ ((R'.ext hE (pV w _)).put o.dst hrep));simp only[execOp,ho,NR,hbs,NG,NZ]
theorem fw(w:E)(g g':X)(cs:Array Y)(hne:g'≠g):(w.setRow g cs).heap[g']?=w.heap[g']?:=setRow_other w g g' cs (λe=>hne (by simpa using e))
theorem tJ(w:E){g:X}(cs:Array Y)(ho:C.own g):Step C w (w.setRow g cs):=
 ⟨by simp,λg' _ hno=>fw w g g' cs (λe=>hno (e ▸ ho)),rfl,rfl,rfl⟩
theorem rP{t:G}{ti:TI}(hi:aN P t ti){g off:X}{cur:Array Y}{T:G}(hg:w.heap[g]?=J (.cells cur T (0,0))){v:Y}(hv:v.cells.size=ti.size)(hle:off+ti.size<=cur.size)(h1:∀u∈v.cells.toList,u.oneCell'=M) :
  (Instr.storeAt t (.pointer (J ⟨g,off,Z⟩)) v).run P w=.ok () (w.setRow g (cur.toList.take off++v.cells.toList++cur.toList.drop (off+ti.size)).toArray):=by
 have:=run_storeCells_at P g off T v.cells.toList 0 cur w hg (by simp;omega) h1;simp only[Nat.add_zero,Array.length_toList,hv] at this;simp only[Instr.storeAt,Instr.sureAddr,NR,NZ,NG,storeVar,hi.sizeOf,hv,ne_eq,not_true_eq_false,if_false,this]
theorem p9{l:O Cell}{vs:O Y}(ha:aj (av C γ h w) l vs):∀u∈vs,u.oneCell'=M:=by
 induction vs generalizing l with
 |nil=>intro u hu;cases hu
 |cons v vs ih=>
  cases l with
  |nil=>exact ha.elim
  |cons c l=>
   intro u hu;rcases NT.1 hu with rfl|hu;·exact av.one ha.1
   ·exact ih ha.2 u hu
theorem Bi{st:St}{a:Act}(R':Rel C γ w st a.tmps){o:Oper}{t:G}{ti:TI}(hi:aN P t ti){xo vo:Operand}(ho:o.op=.store t xo vo)(hd:o.dst=Z){v:V1}(hvr:aI C γ st.h w v (a.eval vo)){k ver dver off g:X}{l:O Cell}
  (hk:st.h k=J ⟨ver,dver,.cells l⟩) (hγ:γ k=J (g,0)) (hpv:a.eval xo=.pointer (J ⟨g,off,Z⟩)) (hle:off+ti.size<=l.length) (hsz:v.cells.length=ti.size) {rd:O X} :
  eY P C w st a o ⟨.tup [],rd,[(k,⟨ver,dver,.cells (l.take off++v.cells++l.drop (off+ti.size))⟩)]⟩:=by
 have I:=R'.inv;have hvc:=hvr.cells;have hvl:=hvc.length;have hv1:=p9 hvc;have hb0:=I.box k _ hk;obtain⟨g',vs,U,hγ',hb,ha⟩:=hb0;rw[hγ] at hγ';obtain⟨rfl,_⟩:=dE hγ';have hlen:=ha.length;intro next Q hn
 have hrun:=rP hi hb (v:=a.eval vo) (off:=off) (by simp at hvl;omega) (by simp at hlen;omega) hv1;have hex:(execOp a.eval o).run P w=.ok .skip (w.setRow g (vs.toList.take off++(a.eval vo).cells.toList++vs.toList.drop (off+ti.size)).toArray):=by
  simp only[execOp,ho,hpv,NR,hrun,NG,NZ]
 have hset:(Heap.set st.h k ⟨ver,dver,.cells (l.take off++v.cells++l.drop (off+ti.size))⟩) k=J ⟨ver,dver,.cells (l.take off++v.cells++l.drop (off+ti.size))⟩:=bH _ _ _;have hown:=I.own k _ g 0 hk trivial hγ;have T:bP C γ st.h w C γ (Heap.set st.h k ⟨ver,dver,.cells (l.take off++v.cells++l.drop (off+ti.size))⟩) (w.setRow g (vs.toList.take off++(a.eval vo).cells.toList++vs.toList.drop (off+ti.size)).toArray):=by
  refine⟨by simp,λk' e hk'=>?_,λg' hg' hh=>?_,λk' e' c' g' hk' hl' hγ'' hg'=>?_,λ_ _ h=>h,λ_ h=>h⟩
  ·by_cases e1:k'=k
   ·subst e1;rw[hk] at hk';simp only[ND] at hk';subst hk';exact⟨_,hset,.inr ⟨rfl,rfl,rfl⟩⟩
   ·exact⟨e,by rw[aW _ _ e1];exact hk',.inr ⟨rfl,rfl,Alike.refl e⟩⟩
  ·refine fw w g g' _ λe=>?_
   subst e;exact(hh k _ 0 hk trivial hγ).1
  ·by_cases e1:k'=k
   ·subst e1;exact⟨k',_,c',hk,trivial,hγ'',.inl rfl⟩
   ·rw[aW _ _ e1] at hk';exact⟨k',e',c',hk',hl',hγ'',.inl rfl⟩
 refine Bw hex (hn γ _ undef (R'.app T (I.step (tJ w _ hown) T (λk' e hk'=>?_) (λk1 k2 e1 e2 g1 c1 c2 h1 hl1 h2 hl2 hg1 hg2=>?_) (λk' e' g1 c1 h1 hl1 hg1=>?_)) ⟨[],rfl,trivial⟩))
 ·by_cases e1:k'=k
  ·subst e1;have hk'':=hk';simp only[Oq,List.foldl_nil] at hk'';rw[hset] at hk'';simp only[ND] at hk'';subst hk'';refine⟨g,_,U,hγ,setRow_heap w g vs _ U _ hb,?_⟩;have:aj (av C γ st.h w) (l.take off++v.cells++l.drop (off+ti.size)) (vs.toList.take off++(a.eval vo).cells.toList++vs.toList.drop (off+ti.size)):=((ha.take off).append hvc).append (ha.drop _);exact this.mono λ_ _ hh=>av.step T hh
  ·simp only[Oq,List.foldl_nil] at hk';rw[aW _ _ e1] at hk';refine dI.step T (I.box k' e hk') rfl λhl g' c' hγ''=>fw w g g' _ λeg=>?_
   subst eg;exact e1 (I.inj k' k e _ g' c' 0 hk' hl hk trivial hγ'' hγ)
 ·have back:∀{kk ee},(Heap.set st.h k ⟨ver,dver,.cells (l.take off++v.cells++l.drop (off+ti.size))⟩) kk=J ee->ee.box.live->∃ee',st.h kk=J ee'/\ee'.box.live:=by
   intro kk ee h1 hl;by_cases e1:kk=k;·subst e1;exact⟨_,hk,trivial⟩
   ·rw[aW _ _ e1] at h1;exact⟨ee,h1,hl⟩
  obtain⟨e1',h1',hl1'⟩:=back h1 hl1;obtain⟨e2',h2',hl2'⟩:=back h2 hl2;exact I.inj k1 k2 e1' e2' g1 c1 c2 h1' hl1' h2' hl2' hg1 hg2
 ·by_cases e1:k'=k
  ·subst e1;exact I.own k' _ g1 c1 hk trivial hg1
  ·simp only[Oq,List.foldl_nil] at h1;rw[aW _ _ e1] at h1;exact I.own k' e' g1 c1 h1 hl1 hg1
theorem xG{k:IntKind}:∀{cs:O Cell}{l:O Int},iT k cs=J l->cs=l.map (Cell.int k)
 |[],l,he=>by
  simp only[iT,ND] at he;subst he;rfl
 |c::cs,l,he=>by
  cases c with
  |int j n=>
   simp only[iT] at he;obtain⟨hj,he⟩:=aa he;split at he;·rename_i l' hl;simp only[ND] at he;subst he;rw[NY,<- xG hl,hj]
   ·cases he
  |_=>cases he
theorem JR{k:IntKind}{l:O Cell}{ns:O Int}{base n i:X}{x:Int}(hns:iT k ((l.drop base).take n)=J ns)(hle:base+n<=l.length)(hi:i<n) :
  l.take base++sD k ns n i x++l.drop (base+n)=l.take (base+i)++[.int k x]++l.drop (base+i+1):=by
 have hc:=xG hns;have hl:ns.length=n:=by
  have:=zab List.length hc;simp at this;omega
 have hs:sD k ns n i x=(((l.drop base).take n).set i (.int k x)):=by
  rw[hc];unfold sD;apply List.ext_getElem;·simp[hl]
  ·intro j h1 h2;simp only[Ow,List.length_range] at h1;simp only[List.getElem_map,List.getElem_range,List.getElem_set,List.getElem_map];by_cases e:i=j
   ·subst e;simp[List.getD,hl,hi]
   ·simp[List.getD,e,show j<ns.length by omega,List.getElem?_set,List.getElem_set]
 rw[hs];apply List.ext_getElem?;intro j;simp only[List.getElem?_append,NP,OD,List.length_set,List.length_drop,N7,Ol,Oi,Ov,List.getElem?_set];by_cases h1:j<base
 ·have h2:j<min base l.length:=by omega
  have h3:j<min (base+i) l.length:=by omega
  have h4:j<min base l.length+min n (l.length-base):=by omega
  have h5:j<min (base+i) l.length+(0+1):=by omega
  simp[h1,h2,h3,h4,h5,show j<base+i by omega]
 ·by_cases h6:j<base+n
  ·have e1:min base l.length=base:=by omega
   have e2:min n (l.length-base)=n:=by omega
   have e3:min (base+i) l.length=base+i:=by omega
   simp only[e1,e2,e3,h6,if_true,show ¬j<base by omega,if_false];by_cases e:i=j-base
   ·have:j=base+i:=by omega
    subst this;simp[hi,show base+i<base+i+1 by omega]
   ·by_cases h7:j<base+i
    ·simp[e,h7,show j<base+i+1 by omega,show base+(j-base)=j by omega,show j-base<n by omega]
    ·simp[e,h7,show ¬j<base+i+1 by omega,show base+(j-base)=j by omega,show j-base<n by omega,show base+i+1+(j-(base+i+1))=j by omega]
  ·have e1:min base l.length=base:=by omega
   have e2:min n (l.length-base)=n:=by omega
   have e3:min (base+i) l.length=base+i:=by omega
   simp only[e1,e2,e3,h6,if_false];simp[show ¬j<base+i+1 by omega,show base+n+(j-(base+n))=j by omega,show base+i+1+(j-(base+i+1))=j by omega]
theorem JZ{te:G->F TI}(hte:∀t i,te t=J i->aN P t i){st:St}{a:Act}(R':Rel C γ w st a.tmps){o:Oper}{t:G}{xo vo:Operand}(ho:o.op=.store t xo vo)(hd:o.dst=Z){x v:V1}(hx:opd st xo=J x)(hvr:aI C γ st.h w v (a.eval vo)){K:O (X×En)->F R}
  (he:d9 te st t x v K=J r) {rd:O X}:∃up,K up=J r/\eY P C w st a o ⟨.tup [],rd,up⟩:=by
 have I:=R'.inv;have hxr:=(R'.opd hx).1;have hvc:=hvr.cells;have hvl:=hvc.length;have hv1:=p9 hvc;unfold d9 at he;split at he
 ·rename_i k kv off ti hti;have hi:=hte _ _ hti;split at he
  ·rename_i ver dver l hk;obtain⟨hve,he⟩:=aa he;obtain⟨⟨hle,hsz⟩,he⟩:=aa he;obtain⟨g,c,hγ,hpv⟩:=hxr.2.get hk hve l rfl;have hb0:=I.box k _ hk;obtain⟨g',vs,U,hγ',hb,ha⟩:=hb0;have hγ0:=hγ;rw[hγ] at hγ';obtain⟨rfl,rfl⟩:=dE hγ';exact⟨_,he,Bi R' hi ho hd hvr hk hγ0 hpv hle hsz⟩
  ·cases he
 ·rename_i k kv base n i ti hti;have hi:=hte _ _ hti;split at he
  ·rename_i ver dver l k0 y hk;obtain⟨hve,he⟩:=aa he;obtain⟨⟨hle,hsz⟩,he⟩:=aa he;split at he
   ·rename_i ns hns;obtain⟨hlt,g,c,hγ,hpv⟩:=hxr.2.get hk hve l rfl;have hb0:=I.box k _ hk;obtain⟨g',vs,U,hγ',hb,ha⟩:=hb0;have hγ0:=hγ;rw[hγ] at hγ';obtain⟨rfl,rfl⟩:=dE hγ';have hok:=Bi R' hi ho hd hvr hk hγ0 hpv (by omega) (by rw[hsz];rfl) (rd:=rd);rw[JR hns hle hlt,<- hsz] at he;exact⟨_,he,hok⟩
   ·cases he
  ·cases he
 ·rename_i k kv i off ti hti;have hi:=hte _ _ hti;split at he
  ·rename_i ver dver e t' xs hk;obtain⟨hve,he⟩:=aa he;obtain⟨⟨hle,hsz⟩,he⟩:=aa he;obtain⟨y,hy,he⟩:=ae he;obtain⟨hlt,g,c,hγ,hpv⟩:=hxr.2.get hk hve xs.length rfl;have hb0:=I.box k _ hk;rcases hb0 with⟨h0,_⟩|⟨g',c',cur,hγ',hb,hxc,hcm,hcs,hszt,hr⟩
   ·rw[h0] at hγ;cases hγ
   ·rw[hγ] at hγ';obtain⟨rfl,rfl⟩:=dE hγ';simp only[Box.tsize] at hpv;have hile:i*t'.size+t'.size<=cur.size:=by
     rw[hcs]
     calc i*t'.size+t'.size=(i+1)*t'.size:=by rw[Nat.add_mul,Nat.one_mul]
      _<=c*t'.size:=Nat.mul_le_mul_right _ (by omega)
    have hold:=hr i _ (nH t'.dflt hlt);have holdc:=hold.cells (h:=st.h);have hnew:aj (av C γ st.h w) ((t'.cells Z (xs.getD i t'.dflt)).take off++v.cells++(t'.cells Z (xs.getD i t'.dflt)).drop (off+ti.size))
      (((cur.toList.drop (i*t'.size)).take t'.size).take off++(a.eval vo).cells.toList++((cur.toList.drop (i*t'.size)).take t'.size).drop (off+ti.size)):=((holdc.take off).append hvc).append (holdc.drop _)
    have hyd:=Rd.ofCells hy hnew;refine⟨_,he,λnext Q hn=>?_⟩;have hrun:=rP hi hb (v:=a.eval vo) (off:=i*t'.size+off) (by simp at hvl;omega) (by omega) hv1;have hex:(execOp a.eval o).run P w=.ok .skip (w.setRow g (cur.toList.take (i*t'.size+off)++(a.eval vo).cells.toList++cur.toList.drop (i*t'.size+off+ti.size)).toArray):=by
     simp only[execOp,ho,hpv,NR,hrun,NG,NZ]
    have hset:(Heap.set st.h k ⟨ver,dver+1,.row e t' (xs.set i y)⟩) k=J ⟨ver,dver+1,.row e t' (xs.set i y)⟩:=bH _ _ _;have hown:=I.own k _ g c hk trivial hγ;have T:bP C γ st.h w C γ (Heap.set st.h k ⟨ver,dver+1,.row e t' (xs.set i y)⟩) (w.setRow g (cur.toList.take (i*t'.size+off)++(a.eval vo).cells.toList++cur.toList.drop (i*t'.size+off+ti.size)).toArray):=by
     refine⟨by simp,λk' e hk'=>?_,λg' hg' hh=>?_,λk' e' c' g' hk' hl' hγ'' hg'=>?_,λ_ _ h=>h,λ_ h=>h⟩
     ·by_cases e1:k'=k
      ·subst e1;rw[hk] at hk';simp only[ND] at hk';subst hk';exact⟨_,hset,.inr ⟨rfl,rfl,rfl,⟨rfl,by simp⟩,by simp⟩⟩
      ·exact⟨e,by rw[aW _ _ e1];exact hk',.inr ⟨rfl,rfl,Alike.refl e⟩⟩
     ·refine fw w g g' _ λeg=>?_
      subst eg;obtain⟨_,e',h1,_,h2⟩:=hh k _ c hk trivial hγ;rw[hset] at h1;simp only[ND] at h1;subst h1;simp at h2
     ·by_cases e1:k'=k
      ·subst e1;exact⟨k',_,c',hk,trivial,hγ'',.inl rfl⟩
      ·rw[aW _ _ e1] at hk';exact⟨k',e',c',hk',hl',hγ'',.inl rfl⟩
    refine Bw hex (hn γ _ undef (R'.app T (I.step (tJ w _ hown) T (λk' e' hk'=>?_) (λk1 k2 e1 e2 g1 c1 c2 h1 hl1 h2 hl2 hg1 hg2=>?_) (λk' e' g1 c1 h1 hl1 hg1=>?_)) ⟨[],rfl,trivial⟩))
    ·by_cases e1:k'=k
     ·subst e1;have hk'':=hk';simp only[Oq,List.foldl_nil] at hk'';rw[hset] at hk'';simp only[ND] at hk'';subst hk'';refine .inr ⟨g,c,_,hγ,setRow_heap w g cur _ _ _ hb,by simpa using hxc,hcm,?_,hszt,?_⟩
      ·simp at hvl⊢;omega
      ·obtain⟨m,hm⟩:∃m,c=xs.length+m:=⟨c-xs.length,by omega⟩
       have hpart:bi w (okb C γ st.h Z) t' (xs.set i y) (cur.toList.take (i*t'.size+off)++(a.eval vo).cells.toList++cur.toList.drop (i*t'.size+off+ti.size)):=by
        have hcurl:(cur.toList.take (xs.length*t'.size)).length=xs.length*t'.size:=by
         simp;rw[hcs,hm,Nat.add_mul];omega
        have hr0:bi w (okb C γ st.h Z) t' xs (cur.toList.take (xs.length*t'.size)):=λj x hj=>by
         have hjl:j<xs.length:=(NS.1 hj).1;have h1:=hr j x hj;have:((cur.toList.take (xs.length*t'.size)).drop (j*t'.size)).take t'.size=(cur.toList.drop (j*t'.size)).take t'.size:=by
          rw[List.drop_take,List.take_take,Nat.min_eq_left];rw[<- Nat.sub_mul]
          calc t'.size=1*t'.size:=by rw[Nat.one_mul]
           _<=(xs.length-j)*t'.size:=Nat.mul_le_mul_right _ (by omega)
         rw[this];exact h1
        have h2:=hr0.set hcurl hlt hyd;intro j x hj;have hjl:j<xs.length:=by have:=(NS.1 hj).1;simpa using this
        have h3:=h2 j x hj;have hjle:j*t'.size+t'.size<=xs.length*t'.size:=by
         calc j*t'.size+t'.size=(j+1)*t'.size:=by rw[Nat.add_mul,Nat.one_mul]
          _<=xs.length*t'.size:=Nat.mul_le_mul_right _ hjl
        have hixs:i*t'.size+t'.size<=xs.length*t'.size:=by
         calc i*t'.size+t'.size=(i+1)*t'.size:=by rw[Nat.add_mul,Nat.one_mul]
          _<=xs.length*t'.size:=Nat.mul_le_mul_right _ hlt
        have hxcs:xs.length*t'.size<=cur.size:=by rw[hcs];exact Nat.mul_le_mul_right _ hxc
        have:((cur.toList.take (i*t'.size+off)++(a.eval vo).cells.toList++cur.toList.drop (i*t'.size+off+ti.size)).drop (j*t'.size)).take t'.size =
          (((cur.toList.take (xs.length*t'.size)).take (i*t'.size)++(((cur.toList.drop (i*t'.size)).take t'.size).take off++(a.eval vo).cells.toList++((cur.toList.drop (i*t'.size)).take t'.size).drop (off+ti.size))++(cur.toList.take (xs.length*t'.size)).drop (i*t'.size+t'.size)).drop (j*t'.size)).take t'.size:=by
         have hvlen:(a.eval vo).cells.toList.length=ti.size:=by simp at hvl⊢;omega
         apply List.ext_getElem?;intro q;rw[Oi,Oi];split
         ·rename_i hq;rw[Ov,Ov];simp only[NW,List.getElem?_append,NP,OD,List.length_drop,Oi,Ov,hvlen,Array.length_toList];have e1:min (i*t'.size+off) cur.size=i*t'.size+off:=by omega
          have e2:min (xs.length*t'.size) cur.size=xs.length*t'.size:=by omega
          have e3:min (i*t'.size) (xs.length*t'.size)=i*t'.size:=by omega
          have e4:min t'.size (cur.size-i*t'.size)=t'.size:=by omega
          have e5:min off t'.size=off:=by omega
          simp only[e1,e2,e3,e4,e5]
          repeat' split
          all_goals first|rfl|(exfalso;omega)|(congr 1;omega)
         ·rfl
        rw[this];exact h3
       simp only[List.toList_toArray];exact hpart.mono T.sz λg' ho' hg'=>T.okb (d:=Z) trivial ho' hg'
     ·simp only[Oq,List.foldl_nil] at hk';rw[aW _ _ e1] at hk';refine dI.step T (I.box k' e' hk') rfl λhl g' c' hγ''=>fw w g g' _ λeg=>?_
      subst eg;exact e1 (I.inj k' k e' _ g' c' c hk' hl hk trivial hγ'' hγ)
    ·have back:∀{kk ee},(Heap.set st.h k ⟨ver,dver+1,.row e t' (xs.set i y)⟩) kk=J ee->ee.box.live->∃ee',st.h kk=J ee'/\ee'.box.live:=by
      intro kk ee h1 hl;by_cases e1:kk=k;·subst e1;exact⟨_,hk,trivial⟩
      ·rw[aW _ _ e1] at h1;exact⟨ee,h1,hl⟩
     obtain⟨e1',h1',hl1'⟩:=back h1 hl1;obtain⟨e2',h2',hl2'⟩:=back h2 hl2;exact I.inj k1 k2 e1' e2' g1 c1 c2 h1' hl1' h2' hl2' hg1 hg2
    ·by_cases e1:k'=k
     ·subst e1;exact I.own k' _ g1 c1 hk trivial hg1
     ·simp only[Oq,List.foldl_nil] at h1;rw[aW _ _ e1] at h1;exact I.own k' e' g1 c1 h1 hl1 hg1
  ·cases he
 ·cases he
end
end Rv
namespace Rv
open Go
section
variable{P:Program}{C:Ctx}{γ:Gam}{h:Heap}{w:E}{R:Type}{r:R}
theorem uK{t ty e:G}{i:TypeInfo}{z:Y}(ht:P.underlying t=J (.slice e))(hi:P.info? e=J i)(hz:i.zero=J z)(hzs:z.cells.size=i.size)(hsz:0<i.size)(hb0:0<i.bytes)
  {v:Y} {n:X} {xs:O Y} (hown:w.ownsRow 0 e i.size v n xs) {A:F Addr} {m c:X} {news:O Y} (hl:news.length=m*i.size)
  (hnews:m=0\/∃a,A=J a/\∀j u,news[j]?=J u->w.cell? (a.add j)=J u) (h1:∀u∈news,u.oneCell'=M) (hbytes:(n+m)*i.bytes<=140737488355328) :
  ∃v' w',(Builtin.append_ #[t,t] ty #[v,.slice A m c]).run P w=.ok v' w'/\w'.ownsRow 0 e i.size v' (n+m) (xs++news)/\w.grownBy w' v.ownBlock/\∀k,v'.ownBlock=J k->v.ownBlock=J k\/w.heap.size<=k:=by
 have h63:n+m<=140737488355328:=Og (Nat.le_mul_of_pos_right _ hb0) hbytes;have h63m:n+m<=maxLen:=by simp only[maxLen];omega
 have hlen:(xs++news).length=(n+m)*i.size:=by rw[NP,hown.1,hl,Nat.add_mul]
 have hgr:∀row,w.grownBy w row:=λrow=>⟨rfl,rfl,rfl,NL _,λ_ _ _=>rfl⟩
 have grown:∀(old:X),old<n+m->∀(row:F X),
   (w.drew.alloc (.cells (xs.toArray++news.toArray++Builtin.zeroCells z.cells (grownCap w (n+m) old e-(n+m))) e)).ownsRow 0 e i.size
    (.slice (J ⟨w.heap.size,0,Z⟩) (n+m) (grownCap w (n+m) old e)) (n+m) (xs++news) /\
   w.grownBy (w.drew.alloc (.cells (xs.toArray++news.toArray++Builtin.zeroCells z.cells (grownCap w (n+m) old e-(n+m))) e)) row:=by
  intro old ho row;have hge:=grownCap_ge w (n+m) old e;have hcm:grownCap w (n+m) old e<=maxLen:=grownCap_le_maxLen w (n+m) old e h63m;refine⟨⟨hlen,.inr ⟨w.heap.size,_,_,rfl,Nat.zero_le _,heap_alloc_new w.drew _,hge,hcm,?_,?_⟩⟩,⟨rfl,rfl,rfl,by simp,λk hk _=>Go.RowKit.Below.heap_alloc w.drew _ k hk⟩⟩;·simp only[Array.size_append,List.size_toArray,size_zeroCells,hzs,hown.1,hl,<- Nat.add_mul];congr 1;omega
  ·simp only[Array.toList_append,NW];rw[<- NW,<- hlen];exact List.take_left
 by_cases hm:m=0
 ·subst hm;have hn0:news=[]:=List.eq_nil_of_length_eq_zero (by simpa using hl);subst hn0;refine⟨v,w,?_,by simpa using hown,hgr _,λk hk=>.inl hk⟩;have hfc:∀A,(Builtin.firstCells i.size 0 (.slice A 0 c)).run P w=.ok #[] w:=by intro A;cases A<;>simp[Builtin.firstCells,loadCells,loadCellsFrom]
  rcases hown.2 with⟨rfl,rfl⟩|⟨g,cap,cur,rfl,hbg,hg,hnc,hcm,hcs,htake⟩;·simp[Builtin.append_,run_underlying ht,Go.sizeOf,typeInfo,hi,Builtin.lenOf,hfc]
  ·simp[Builtin.append_,run_underlying ht,Go.sizeOf,typeInfo,hi,Builtin.lenOf,hfc,hnc,storeCells]
 ·obtain⟨a,hA,hnw⟩:=hnews.resolve_left hm;subst hA;clear hnews;have hnews:=hnw;rcases hown.2 with⟨rfl,rfl⟩|⟨g,cap,cur,rfl,hbg,hg,hnc,hcm,hcs,htake⟩
  ·have hx:xs=[]:=List.eq_nil_of_length_eq_zero (by simpa using hown.1);subst hx;have hr:=run_append_nil (P:=P) w t ty e i z ht hi hz a m c news hl hnews (by omega) (by omega) (by have hb:=hbytes;simp only[Nat.zero_add] at hb;omega);have hgw:=grown 0 (by omega) (Value.ownBlock (.slice Z 0 0));simp only[Nat.zero_add,Oc,Array.empty_append] at hgw⊢;exact⟨_,_,hr,hgw.1,hgw.2,λk hk=>.inr (by simp only[Value.ownBlock,ND] at hk;omega)⟩
  ·by_cases hroom:n+m<=cap
   ·obtain⟨w',h2,h3,h4⟩:=run_append_fits (P:=P) w 0 t ty e i i.size ht hi rfl g n cap xs hown a m c news hl hnews h1 hroom;exact⟨_,w',h2,h3,h4,λk hk=>.inl hk⟩
   ·have holds:∀j u,xs[j]?=J u->w.cell? ((⟨g,0,Z⟩:Addr).add j)=J u:=hown.cells (g:=g) rfl;have hr:=run_append_grow (P:=P) w t ty e i z ht hi hz ⟨g,0,Z⟩ n cap xs hown.1 holds a m c news hl hnews (by omega) (by omega) (growslice_fits (by omega) hbytes);have hgw:=grown cap (by omega) (Value.ownBlock (.slice (J ⟨g,0,Z⟩) n cap));exact⟨_,_,hr,hgw.1,hgw.2,λk hk=>.inr (by simp only[Value.ownBlock,ND] at hk;omega)⟩
theorem bi.snoc{ok:X->Prop}{t:Ty}{xs:O t.D}{cur ds:O Y}{x:t.D}(hr:bi w ok t xs cur)(hl:cur.length=xs.length*t.size)(hd:Rd w ok t x ds):bi w ok t (xs++[x]) (cur++ds):=by
 have hlen:=hd.length;intro j y hj;by_cases hjl:j<xs.length
 ·rw[Ou hjl] at hj;have:=hr j y hj;have hjle:j*t.size+t.size<=cur.length:=by
   rw[hl]
   calc j*t.size+t.size=(j+1)*t.size:=by rw[Nat.add_mul,Nat.one_mul]
    _<=xs.length*t.size:=Nat.mul_le_mul_right _ hjl
  rw[List.drop_append_of_le_length (by omega),List.take_append_of_le_length (by simp;omega)];exact this
 ·rw[List.getElem?_append_right (by omega)] at hj;have hj0:j=xs.length:=by
   have:=(NS.1 hj).1;simp at this;omega
  subst hj0;simp at hj;subst hj;rw[<- hl,List.drop_left,List.take_of_length_le (by omega)];exact hd
theorem bi.append{ok:X->Prop}{t:Ty}{xs ys:O t.D}{cur news:O Y}(hr:bi w ok t xs cur)(hl:cur.length=xs.length*t.size)(hr':bi w ok t ys news)(hl':news.length=ys.length*t.size):bi w ok t (xs++ys) (cur++news):=by
 intro j y hj;by_cases hjl:j<xs.length
 ·rw[Ou hjl] at hj;have:=hr j y hj;have hjle:j*t.size+t.size<=cur.length:=by
   rw[hl]
   calc j*t.size+t.size=(j+1)*t.size:=by rw[Nat.add_mul,Nat.one_mul]
    _<=xs.length*t.size:=Nat.mul_le_mul_right _ hjl
  rw[List.drop_append_of_le_length (by omega),List.take_append_of_le_length (by simp;omega)];exact this
 ·rw[List.getElem?_append_right (by omega)] at hj;have:=hr' _ y hj;have hle:cur.length<=j*t.size:=by rw[hl];exact Nat.mul_le_mul_right _ (by omega)
  have he:(cur++news).drop (j*t.size)=news.drop ((j-xs.length)*t.size):=by
   rw[List.drop_append,List.drop_of_length_le hle,Oc,hl,<- Nat.sub_mul]
  rw[he];exact this
theorem zD{ok:X->Prop}{t:Ty}{ys:O t.D}{g o:X}(hx:∀i x,ys[i]?=J x->∃ds,Rd w ok t x ds/\∀j v,ds[j]?=J v->w.cell? ⟨g,o+i*t.size+j,Z⟩=J v) :
  ∀m,m<=ys.length->∃news:O Y,news.length=m*t.size/\bi w ok t (ys.take m) news/\(∀u∈news,u.oneCell'=M)/\∀j u,news[j]?=J u->w.cell? ⟨g,o+j,Z⟩=J u
 |0,_=>⟨[],by simp,λi x e=>by simp at e,(λu hu=>by cases hu),λj u e=>by simp at e⟩
 |m+1,hm=>by
  obtain⟨news,h1,h2,h3,h4⟩:=zD hx m (by omega);obtain⟨ds,h5,h6⟩:=hx m ys[m] (by simp);have hlen:=h5.length;refine⟨news++ds,by rw[NP,h1,hlen,Nat.add_mul,Nat.one_mul],?_,λu hu=>?_,λj u e=>?_⟩;·rw[List.take_succ_eq_append_getElem (by omega)];exact h2.snoc (by rw[h1];congr 1;simp;omega) h5
  ·rcases NV.1 hu with hu|hu
   ·exact h3 u hu
   ·exact h5.one u hu
  ·by_cases hj:j<news.length
   ·rw[Ou hj] at e;exact h4 j u e
   ·rw[List.getElem?_append_right (by omega)] at e;have:=h6 _ _ e;rw[h1] at this;rw[show o+j=o+m*t.size+(j-m*t.size) by omega];exact this
theorem flat{d:Dep}{t:Ty}{ys:O t.D}{v:Y}(hr:RdS C γ h w d t ys v):∃A c news,v=.slice A ys.length c/\news.length=ys.length*t.size/\bi w (okb C γ h Z) t ys news/\(∀u∈news,u.oneCell'=M) /\
  (ys.length=0\/∃a,A=J a/\∀j u,news[j]?=J u->w.cell? (a.add j)=J u):=by
 obtain⟨A,c,hA,hle,hx⟩:=hr;cases ys with
 |nil=>exact⟨A,c,[],hA,by simp,(λi x e=>by simp at e),(λu hu=>by cases hu),.inl rfl⟩
 |cons y ys=>
  obtain⟨g,o,ds0,rfl,_⟩:=hx 0 y rfl;obtain⟨news,h1,h2,h3,h4⟩:=zD (w:=w) (ok:=okb C γ h Z) (ys:=y::ys) (g:=g) (o:=o) (λi x e=>by
   obtain⟨g',o',ds,hA',_,_,h5,h6⟩:=hx i x e;simp only[ND,Addr.mk.injEq,and_true] at hA';obtain⟨rfl,rfl⟩:=hA';exact⟨ds,h5,h6⟩) _ (NL _)
  rw[List.take_length] at h2;exact⟨_,c,news,hA,h1,h2,h3,.inr ⟨⟨g,o,Z⟩,rfl,λj u e=>by rw[gu];exact h4 j u e⟩⟩
theorem bS{t t':Ty}{xs:O t.D}{ys:O t'.D}(hc:gP t t' xs=J ys):∃e:t=t',e ▸ xs=ys:=by
 unfold gP at hc;split at hc;·rename_i e;exact⟨e,by simpa using hc⟩
 ·cases hc
theorem zl(I:Inv C γ h w){e:G}{t:Ty}(hsz:0<t.size){s:V1}{xs:O t.D}{k:F X}(hb:ji h e t s=J (xs,k)){v:Y}(hv:aI C γ h w s v) :
  ∃cs:O Y,w.ownsRow 0 e t.size v xs.length cs/\bi w (okb C γ h Z) t xs cs /\
   ((k=Z/\v.ownBlock=Z)\/∃k0 en,k=J k0/\h k0=J en/\en.box.live/\en.box.isRow/\((γ k0=Z/\v.ownBlock=Z)\/∃g c,γ k0=J (g,c)/\v.ownBlock=J g)):=by
 have own:∀{kk ver n:X}{e':G}{t':Ty}{zs:O t'.D},h.at kk ver=J (.row e' t' zs)->e'=e->∀(et:t'=t),n<=zs.length->eX (γ kk) n v ->
   ∃cs:O Y,w.ownsRow 0 e t.size v n cs/\bi w (okb C γ h Z) t ((et ▸ zs:O t.D).take n) cs/\∃en,h kk=J en/\en.box.live/\en.box.isRow/\((γ kk=Z/\v.ownBlock=Z)\/∃g c,γ kk=J (g,c)/\v.ownBlock=J g):=by
  intro kk ver n e' t' zs hat he' et hn ho;subst et;subst he';obtain⟨en,hk,hve,hbox⟩:=aH hat
  have hb0:=I.box kk en hk;rw[hbox] at hb0;rcases hb0 with⟨h0,hz⟩|⟨g,c,cur,hγ,hbl,hxc,hcm,hcs,hszt,hr⟩;·rw[h0] at ho;obtain⟨rfl,rfl⟩:=ho;exact⟨[],World.ownsRow_nil w 0 _ _,λi x e=>by simp at e,en,hk,by rw[hbox];trivial,by rw[hbox];trivial,.inl ⟨h0,rfl⟩⟩
  ·rw[hγ] at ho;rw[show v=_ from ho];refine⟨cur.toList.take (n*t'.size),⟨(by rw[OD,Array.length_toList,hcs];exact Nat.min_eq_left (Nat.mul_le_mul_right _ (Og hn hxc))),.inr ⟨g,c,cur,rfl,Nat.zero_le _,hbl,Og hn hxc,hcm,hcs,rfl⟩⟩,λj x hj=>?_,en,hk,by rw[hbox];trivial,by rw[hbox];trivial,.inr ⟨g,c,hγ,rfl⟩⟩;rw[Oi] at hj;split at hj
   ·rename_i hjn;have:=hr j x hj;have he:((cur.toList.take (n*t'.size)).drop (j*t'.size)).take t'.size=(cur.toList.drop (j*t'.size)).take t'.size:=by
     rw[List.drop_take,List.take_take,Nat.min_eq_left];rw[<- Nat.sub_mul]
     calc t'.size=1*t'.size:=by rw[Nat.one_mul]
      _<=(n-j)*t'.size:=Nat.mul_le_mul_right _ (by omega)
    rw[he];exact this
   ·cases hj
 unfold ji at hb;split at hb;·simp only[ND,NI] at hb;obtain⟨rfl,rfl⟩:=hb;rw[show v=_ from hv];exact⟨[],World.ownsRow_nil w 0 _ _,λi x e=>by simp at e,.inl ⟨rfl,rfl⟩⟩
 ·rename_i kk ver;split at hb
  ·rename_i e' t' zs hat
   split at hb
   ·rename_i he';simp only[Option.map_eq_some_iff,NI] at hb;obtain⟨ys,hc,rfl,rfl⟩:=hb;obtain⟨et,hys⟩:=bS hc;obtain⟨en,hk,hve,hbox⟩:=aH hat
    have ho:=hv.2.get hk hve zs.length (by rw[hbox];rfl);obtain⟨cs,h1,h2,h3⟩:=own hat he' et (NL _) ho;subst et;simp only at hys;subst hys;rw[List.take_length] at h2;exact⟨cs,h1,h2,.inr ⟨kk,h3.choose,rfl,h3.choose_spec⟩⟩
   ·cases hb
  ·cases hb
 ·rename_i kk ver n;split at hb
  ·rename_i e' t' zs hat
   split at hb
   ·rename_i he';simp only[Option.map_eq_some_iff,NI] at hb;obtain⟨ys,hc,rfl,rfl⟩:=hb;obtain⟨et,hys⟩:=bS hc;obtain⟨en,hk,hve,hbox⟩:=aH hat
    obtain⟨hn,ho⟩:=hv.2.get hk hve zs.length (by rw[hbox];rfl);obtain⟨cs,h1,h2,h3⟩:=own hat he' et hn ho;subst et;simp only at hys;subst hys;refine⟨cs,?_,h2,.inr ⟨kk,h3.choose,rfl,h3.choose_spec⟩⟩;rw[show(zs.take n).length=n by simp;omega];exact h1
   ·cases hb
  ·cases hb
 ·cases hb
theorem bi.of_take{ok:X->Prop}{t:Ty}{xs:O t.D}{cur:O Y}(hr:bi w ok t xs (cur.take (xs.length*t.size))):bi w ok t xs cur:=by
 intro j x hj;have hjl:j<xs.length:=(NS.1 hj).1;have:=hr j x hj;have he:((cur.take (xs.length*t.size)).drop (j*t.size)).take t.size=(cur.drop (j*t.size)).take t.size:=by
  rw[List.drop_take,List.take_take,Nat.min_eq_left];rw[<- Nat.sub_mul]
  calc t.size=1*t.size:=by rw[Nat.one_mul]
   _<=(xs.length-j)*t.size:=Nat.mul_le_mul_right _ (by omega)
 rw[<- he];exact this
theorem lI(I:Inv C γ h w){t:Ty}{x:V1}{ys:O t.D}(hm:jr h t x=J ys){v:Y}(hv:aI C γ h w x v):∃d,RdS C γ h w d t ys v:=by
 unfold jr at hm;split at hm;·simp only[ND] at hm;subst hm;rw[show v=_ from hv];exact⟨Z,Z,0,by simp,by simp,λi x e=>by simp at e⟩
 ·rename_i c _;split at hm
  ·rename_i rr hrr;obtain⟨et,hys⟩:=bS hm;have h1:=jP I hrr hv;obtain⟨t',zs⟩:=rr;simp only at et hys h1;subst et;simp only at hys;subst hys;exact⟨_,h1⟩
  ·cases hm
 ·cases hm
def FW(h:Heap):F X->O (X×En)
 |some k=>[(k,(⟨h.next k,0,.gone⟩:En))]
 |none=>[]
def dw(h:Heap)(k:F X)(KK:X)(b:Box):Heap:=(FW h k++[(KK,(⟨h.next KK,0,b⟩:En))]).foldl (λh p=>h.set p.1 p.2) h
theorem jS(h:Heap)(k:F X)(KK:X)(b:Box):dw h k KK b KK=J ⟨h.next KK,0,b⟩:=by
 unfold dw;rw[List.foldl_append];exact bH _ _ _
theorem lq(h:Heap){k KK:X}(b:Box)(hne:k≠KK):dw h (J k) KK b k=J ⟨h.next k,0,.gone⟩:=by
 unfold dw FW;simp only[List.cons_append,Oc,Oq,List.foldl_nil];rw[aW _ _ hne,bH]
theorem mO(h:Heap){k:F X}{KK j:X}(b:Box)(hne:j≠KK)(hk:k≠J j):dw h k KK b j=h j:=by
 unfold dw;rw[List.foldl_append];simp only[Oq,List.foldl_nil];rw[aW _ _ hne];cases k with
 |none=>rfl
 |some k0=>exact aW _ _ (λe=>hk (e ▸ rfl))
theorem mP(I:Inv C γ h w){k:F X}{KK:X}{e:G}{t:Ty}{zs:O t.D}{v v':Y}{w':E}(hgrow:w.grownBy w' v.ownBlock)(hblk:∀g,v'.ownBlock=J g->v.ownBlock=J g\/w.heap.size<=g)
  (hkey:(k=Z/\v.ownBlock=Z)\/∃k0 en,k=J k0/\h k0=J en/\en.box.live/\en.box.isRow/\((γ k0=Z/\v.ownBlock=Z)\/∃g c,γ k0=J (g,c)/\v.ownBlock=J g))
  (V:F (X×X)) (hV:∀g c,V=J (g,c)->v'.ownBlock=J g) :
  bP C γ h w C (iy γ KK V) (dw h k KK (.row e t zs)) w'/\(dI C (iy γ KK V) (dw h k KK (.row e t zs)) w' KK (.row e t zs)->Inv C (iy γ KK V) (dw h k KK (.row e t zs)) w'):=by
 have base:∀g,v.ownBlock=J g->∃k0 en c,k=J k0/\h k0=J en/\en.box.live/\en.box.isRow/\γ k0=J (g,c):=by
  intro g hg;rcases hkey with⟨_,h0⟩|⟨k0,en,h1,h2,h3,h4,h5⟩;·rw[h0] at hg;cases hg
  ·rcases h5 with⟨_,h5⟩|⟨g',c,h5,h6⟩
   ·rw[h5] at hg;cases hg
   ·rw[h6] at hg;simp only[ND] at hg;subst hg;exact⟨k0,en,c,h1,h2,h3,h4,h5⟩
 have after:∀j ee,h j=J ee->∃ee',dw h k KK (.row e t zs) j=J ee'/\(ee.ver<ee'.ver\/(j≠KK/\k≠J j/\ee'=ee)):=by
  intro j ee hj;by_cases e1:j=KK;·subst e1;exact⟨_,jS _ _ _ _,.inl (jO hj)⟩
  ·by_cases e2:k=J j
   ·subst e2;exact⟨_,lq _ _ e1,.inl (jO hj)⟩
   ·exact⟨ee,by rw[mO _ _ e1 e2];exact hj,.inr ⟨e1,e2,rfl⟩⟩
 have bump:∀j ee,h j=J ee->k=J j->∃ee',dw h k KK (.row e t zs) j=J ee'/\ee.ver<ee'.ver:=by
  intro j ee hj hk;obtain⟨ee',h1,h2⟩:=after j ee hj;exact⟨ee',h1,h2.resolve_right λh=>h.2.1 hk⟩
 have other:∀j ee',dw h k KK (.row e t zs) j=J ee'->ee'.box.live->j≠KK->k≠J j/\h j=J ee':=by
  intro j ee' hj hl hne;by_cases e2:k=J j;·subst e2;rw[lq _ _ hne] at hj;simp only[ND] at hj;subst hj;exact hl.elim
  ·rw[mO _ _ hne e2] at hj;exact⟨e2,hj⟩
 have T:bP C γ h w C (iy γ KK V) (dw h k KK (.row e t zs)) w':=by
  refine⟨hgrow.size,λj ee hj=>?_,λg hg hh=>?_,λj ee' c g hj hl hγ hg=>?_,λ_ _ h=>h,λ_ h=>h⟩;·obtain⟨ee',h1,h2⟩:=after j ee hj;refine⟨ee',h1,h2.imp id λ⟨e1,_,e3⟩=>?_⟩;subst e3;exact⟨rfl,cZ _ _ e1,Alike.refl _⟩
  ·refine hgrow.block g hg λhb=>?_
   obtain⟨k0,en,c,h1,h2,h3,h4,h5⟩:=base g hb.symm;obtain⟨_,e',he',hv,_⟩:=hh k0 en c h2 h3 h5;obtain⟨ee',h6,h7⟩:=bump k0 en h2 h1;rw[he'] at h6;simp only[ND] at h6;subst h6;omega
  ·by_cases e1:j=KK
   ·subst e1;rw[bz] at hγ;rcases hblk g (hV g c hγ) with hb|hb
    ·obtain⟨k0,en,c0,h1,h2,h3,h4,h5⟩:=base g hb;exact⟨k0,en,c0,h2,h3,h5,.inr (bump k0 en h2 h1)⟩
    ·omega
   ·rw[cZ _ _ e1] at hγ;obtain⟨_,h2⟩:=other j ee' hj hl e1;exact⟨j,ee',c,h2,hl,hγ,.inl rfl⟩
 refine⟨T,λhB=>I.step ⟨hgrow.size,λg hg hno=>hgrow.block g hg λhb=>?_,hgrow.os,hgrow.tape,hgrow.output⟩ T (λj ee hj=>?_) (λj j' ee ee' g c c' hj hl hj' hl' h1 h2=>?_) (λj ee g c hj hl h1=>?_)⟩;·obtain⟨k0,en,c,h1,h2,h3,h4,h5⟩:=base g hb.symm;exact hno (I.own k0 en g c h2 h3 h5)
 ·by_cases e1:j=KK
  ·subst e1;rw[jS] at hj;simp only[ND] at hj;subst hj;exact hB
  ·by_cases e2:k=J j
   ·subst e2;rw[lq _ _ e1] at hj;simp only[ND] at hj;subst hj;trivial
   ·rw[mO _ _ e1 e2] at hj;refine dI.step T (I.box j ee hj) (cZ _ _ e1) λhl g c hγ=>hgrow.block g (ig I hj hl hγ) λhb=>?_
    obtain⟨k0,en,c0,h1,h2,h3,h4,h5⟩:=base g hb.symm;exact e2 (by rw[h1,I.inj j k0 ee en g c c0 hj hl h2 h3 hγ h5])
 ·have side:∀{j' ee' g c c'},V=J (g,c)->h j'=J ee'->ee'.box.live->γ j'=J (g,c')->k≠J j'->False:=by
   intro j' ee' g c c' hVg hj' hl' hγ' hk';rcases hblk g (hV g c hVg) with hb|hb;·obtain⟨k0,en,c0,h1,h2,h3,h4,h5⟩:=base g hb;exact hk' (by rw[h1,I.inj j' k0 ee' en g c' c0 hj' hl' h2 h3 hγ' h5])
   ·have:=ig I hj' hl' hγ';omega
  by_cases e1:j=KK<;>by_cases e2:j'=KK
  ·rw[e1,e2]
  ·subst e1;rw[bz] at h1;rw[cZ _ _ e2] at h2;obtain⟨h3,h4⟩:=other j' ee' hj' hl' e2;exact(side h1 h4 hl' h2 h3).elim
  ·subst e2;rw[bz] at h2;rw[cZ _ _ e1] at h1;obtain⟨h3,h4⟩:=other j ee hj hl e1;exact(side h2 h4 hl h1 h3).elim
  ·rw[cZ _ _ e1] at h1;rw[cZ _ _ e2] at h2;exact I.inj j j' ee ee' g c c' (other j ee hj hl e1).2 hl (other j' ee' hj' hl' e2).2 hl' h1 h2
 ·by_cases e1:j=KK
  ·subst e1;rw[bz] at h1;rcases hblk g (hV g c h1) with hb|hb
   ·obtain⟨k0,en,c0,h1,h2,h3,h4,h5⟩:=base g hb;exact I.own k0 en g c0 h2 h3 h5
   ·exact I.new g (Og I.size hb)
  ·rw[cZ _ _ e1] at h1;exact I.own j ee g c (other j ee hj hl e1).2 hl h1
theorem Fj{te:G->F TI}(hte:∀t i,te t=J i->aN P t i){st:St}{a:Act}(R':Rel C γ w st a.tmps){o:Oper}{sT:G}{so xo:Operand}{argTypes:Array G}{args:Array Operand}(ho:o.op=.call { callee:=.builtin .append,args,argTypes })(hargs:args.toList=[so,xo])(hat:argTypes.toList=[sT,sT])
  {s x:V1} (hs:opd st so=J s) (hx:opd st xo=J x) {K:Dl->F R} (he:gG te st o.dst sT s x K=J r):∃d,K d=J r/\eY P C w st a o d:=by
 have I:=R'.inv;have hsr:=(R'.opd hs).1;have hxr:=(R'.opd hx).1;unfold gG at he;split at he;·cases he
 ·rename_i e hel;split at he
  ·cases he
  ·rename_i ti hti;split at he
   ·cases he
   ·rename_i t ht;split at he
    ·rename_i xs k ys hb hm;obtain⟨⟨hbytes,hb0,hs0⟩,he⟩:=aa he;refine⟨_,he,λnext Q hn=>?_⟩;have hi:=hte _ _ hti;have hsl:P.underlying sT=J (.slice e):=by
      cases h0:te sT with
      |none=>rw[h0] at hel;simp at hel
      |some i0=>rw[h0] at hel;exact(hte _ _ h0).elem e hel
     have hts:=(hi.ty t ht).1;obtain⟨inf,hinf,hisz,hiby,z,hz,hzs,_⟩:=hi.info;obtain⟨cs,hown,hrow,hkey⟩:=zl I (by omega) hb hsr;obtain⟨d,hrd⟩:=lI I hm hxr;obtain⟨A,c,news,hxv,hnl,hnr,hn1,hnc⟩:=flat hrd;rw[<- hiby] at hbytes hb0;rw[hts,<- hisz] at hown hnl;obtain⟨v',w',hrun,hown',hgrow,hblk⟩:=uK (P:=P) (t:=sT) (ty:=o.type) hsl hinf hz (by omega) (by omega) hb0 hown hnl hnc hn1 hbytes;have hex:(execOp a.eval o).run P w=.ok (.value v') w':=by
      have e1:args=#[so,xo]:=Array.ext' hargs;have e2:argTypes=#[sT,sT]:=Array.ext' hat
      subst e1;subst e2;simp only[execOp,ho,resolve,invoke,builtin,NR,NZ,NG,List.map_toArray,NY,List.map_nil,hxv];rw[hrun];rfl
     have hV:∀(V:F (X×X)) (_:∀g c,V=J (g,c)->v'.ownBlock=J g) (_:dI C (iy γ (dk o.dst) V) (dw st.h k (dk o.dst) (.row e t (xs++ys))) w' (dk o.dst) (.row e t (xs++ys))) (_:eX V (xs++ys).length v') (_:v'.oneCell'=M),next (a.put o.dst v') w':=by
      intro V hV hB hO h1';obtain⟨T,hI⟩:=mP (e:=e) (t:=t) (zs:=xs++ys) I hgrow hblk hkey V hV;refine hn (iy γ (dk o.dst) V) w' v' (R'.app (x:=⟨.v (.c (.own (dk o.dst) (st.h.next (dk o.dst)))),s.keys++x.keys++[dk o.dst],_⟩) T (hI hB) ⟨h1',aT (jS _ _ _ _) rfl λn hn'=>?_⟩);simp only[Box.len,ND] at hn';rw[bz,<- hn'];exact hO
     refine dM hex ?_;rcases hown'.2 with⟨rfl,h0⟩|⟨g,cap,cur,rfl,hbg,hg,hnc',hcm,hcs,htake⟩;·refine hV Z (λg c e=>by cases e) (.inl ⟨bz _ _ _,?_⟩) ⟨by simpa using h0,rfl⟩ rfl;exact List.eq_nil_of_length_eq_zero (by simpa using h0)
     ·refine hV (J (g,cap)) (λg' c' e=>by obtain⟨rfl,rfl⟩:=dE e;rfl) ?_ (by simp[eX]) rfl;obtain⟨T,_⟩:=mP (e:=e) (t:=t) (zs:=xs++ys) (KK:=dk o.dst) I hgrow hblk hkey (J (g,cap)) (λg' c' e=>by obtain⟨rfl,rfl⟩:=dE e;rfl);refine .inr ⟨g,cap,cur,bz _ _ _,hg,by simpa using hnc',hcm,by rw[hcs,hts,hisz],by omega,?_⟩;refine bi.of_take ?_;rw[show(xs++ys).length*t.size=(xs.length+ys.length)*inf.size by rw[NP,hts,hisz],htake];exact(hrow.append (by rw[hown.1,hts,hisz]) hnr (by rw[hnl,hts,hisz])).mono T.sz λg' ho' hg'=>T.okb (d:=Z) trivial ho' hg'
    ·cases he
theorem xE{t e:G}{i:TypeInfo}{z:Y}(hzs:z.cells.size=i.size){n m old:X}{xs news:O Y}(hx:xs.length=n*i.size)(hl:news.length=m*i.size)(h63m:n+m<=maxLen)(row:F X) :
  (w.drew.alloc (.cells (xs.toArray++news.toArray++Builtin.zeroCells z.cells (grownCap w (n+m) old e-(n+m))) e)).ownsRow 0 e i.size (.slice (J ⟨w.heap.size,0,Z⟩) (n+m) (grownCap w (n+m) old e)) (n+m) (xs++news) /\
   w.grownBy (w.drew.alloc (.cells (xs.toArray++news.toArray++Builtin.zeroCells z.cells (grownCap w (n+m) old e-(n+m))) e)) row:=by
 have hlen:(xs++news).length=(n+m)*i.size:=by rw[NP,hx,hl,Nat.add_mul]
 have hge:=grownCap_ge w (n+m) old e;have hcm:grownCap w (n+m) old e<=maxLen:=grownCap_le_maxLen w (n+m) old e h63m;refine⟨⟨hlen,.inr ⟨w.heap.size,_,_,rfl,Nat.zero_le _,heap_alloc_new w.drew _,hge,hcm,?_,?_⟩⟩,⟨rfl,rfl,rfl,by simp,λk hk _=>Go.RowKit.Below.heap_alloc w.drew _ k hk⟩⟩;·simp only[Array.size_append,List.size_toArray,size_zeroCells,hzs,hx,hl,<- Nat.add_mul];congr 1;omega
 ·simp only[Array.toList_append,NW];rw[<- NW,<- hlen];exact List.take_left
theorem IU{t ty e:G}{i:TypeInfo}{z:Y}(ht:P.underlying t=J (.slice e))(hi:P.info? e=J i)(hz:i.zero=J z)(hzs:z.cells.size=i.size)(hsz:0<i.size)(hb0:0<i.bytes)
  {A0:F Addr} {n:X} {xs:O Y} (hx:xs.length=n*i.size) (hxs:n=0\/∃a,A0=J a/\∀j u,xs[j]?=J u->w.cell? (a.add j)=J u) {A:F Addr} {m c:X} {news:O Y} (hl:news.length=m*i.size)
  (hnews:m=0\/∃a,A=J a/\∀j u,news[j]?=J u->w.cell? (a.add j)=J u) (hm:0<m) (hbytes:(n+m)*i.bytes<=140737488355328) :
  ∃v' w',(Builtin.append_ #[t,t] ty #[.slice A0 n n,.slice A m c]).run P w=.ok v' w'/\w'.ownsRow 0 e i.size v' (n+m) (xs++news)/\w.grownBy w' Z/\∀k,v'.ownBlock=J k->w.heap.size<=k:=by
 have h63:n+m<=140737488355328:=Og (Nat.le_mul_of_pos_right _ hb0) hbytes;have h63m:n+m<=maxLen:=by simp only[maxLen];omega
 obtain⟨a,hA,hnw⟩:=hnews.resolve_left (by omega);subst hA;have some_:∀a0,(∀j u,xs[j]?=J u->w.cell? (a0.add j)=J u)->∃v' w',(Builtin.append_ #[t,t] ty #[.slice (J a0) n n,.slice (J a) m c]).run P w=.ok v' w'/\w'.ownsRow 0 e i.size v' (n+m) (xs++news)/\w.grownBy w' Z/\∀k,v'.ownBlock=J k->w.heap.size<=k:=λa0 holds=>by
  have hr:=run_append_grow (P:=P) w t ty e i z ht hi hz a0 n n xs hx holds a m c news hl hnw (by omega) (by omega) (growslice_fits (by omega) hbytes);have hgw:=xE (w:=w) (t:=t) (e:=e) (old:=n) hzs hx hl h63m Z;exact⟨_,_,hr,hgw.1,hgw.2,λk hk=>by simp only[Value.ownBlock,ND] at hk;omega⟩
 rcases hxs with rfl|⟨a0,rfl,holds⟩
 ·have h0:xs=[]:=List.eq_nil_of_length_eq_zero (by simpa using hx);subst h0;cases A0 with
  |some a0=>exact some_ a0 (λj u e=>by simp at e)
  |none=>
   have hr:=run_append_nil (P:=P) w t ty e i z ht hi hz a m c news hl hnw (by omega) (by omega) (by have hb:=hbytes;simp only[Nat.zero_add] at hb;omega);have hgw:=xE (w:=w) (t:=t) (e:=e) (n:=0) (old:=0) (xs:=[]) hzs (by simp) hl h63m Z;simp only[Nat.zero_add,Oc,Array.empty_append] at hgw⊢;exact⟨_,_,hr,hgw.1,hgw.2,λk hk=>by simp only[Value.ownBlock,ND] at hk;omega⟩
 ·exact some_ a0 holds
theorem DI{te:G->F TI}(hte:∀t i,te t=J i->aN P t i){st:St}{a:Act}(R':Rel C γ w st a.tmps){o:Oper}{sT:G}{so xo:Operand}{argTypes:Array G}{args:Array Operand}(ho:o.op=.call { callee:=.builtin .append,args,argTypes })(hargs:args.toList=[so,xo])(hat:argTypes.toList=[sT,sT])
  {s x:V1} (hs:opd st so=J s) (hx:opd st xo=J x) {K:Dl->F R} (he:eZ te st o.dst sT s x K=J r):∃d,K d=J r/\eY P C w st a o d:=by
 have I:=R'.inv;have hsr:=(R'.opd hs).1;have hxr:=(R'.opd hx).1;unfold eZ at he;split at he
 ·rename_i dp t' xs';split at he
  ·cases he
  ·rename_i e hel;split at he
   ·cases he
   ·rename_i ti hti;split at he
    ·cases he
    ·rename_i t ht;split at he
     ·rename_i xs ys hb hm;obtain⟨⟨hdp,hpos⟩,he⟩:=aa he;obtain⟨⟨hbytes,hb0,hs0⟩,he⟩:=aa he;refine⟨_,he,λnext Q hn=>?_⟩;obtain⟨rfl,hy⟩:=bS hb;simp only at hy;subst hy;have hi:=hte _ _ hti;have hsl:P.underlying sT=J (.slice e):=by
       cases h0:te sT with
       |none=>rw[h0] at hel;simp at hel
       |some i0=>rw[h0] at hel;exact(hte _ _ h0).elem e hel
      have hts:=(hi.ty t' ht).1;obtain⟨inf,hinf,hisz,hiby,z,hz,hzs,_⟩:=hi.info;obtain⟨hrds,A1,hv1⟩:=hsr.2.get hdp;obtain⟨A0,c0,cs,hv0,hcl,hrow,hc1,hcc⟩:=flat hrds;rw[hv1] at hv0;simp only[Value.slice.injEq] at hv0;obtain⟨rfl,_,rfl⟩:=hv0;obtain⟨d,hrd⟩:=lI I hm hxr;obtain⟨A,c,news,hxv,hnl,hnr,hn1,hnc⟩:=flat hrd;rw[<- hiby] at hbytes hb0;rw[hts,<- hisz] at hcl hnl;obtain⟨v',w',hrun,hown',hgrow,hblk⟩:=IU (P:=P) (t:=sT) (ty:=o.type) hsl hinf hz (by omega) (by omega) hb0 hcl hcc hnl hnc hpos hbytes;have hex:(execOp a.eval o).run P w=.ok (.value v') w':=by
       have e1:args=#[so,xo]:=Array.ext' hargs;have e2:argTypes=#[sT,sT]:=Array.ext' hat
       subst e1;subst e2;simp only[execOp,ho,resolve,invoke,builtin,NR,NZ,NG,List.map_toArray,NY,List.map_nil,hxv,hv1];rw[hrun];rfl
      have hblk':∀g,v'.ownBlock=J g->(Value.slice Z 0 0).ownBlock=J g\/w.heap.size<=g:=λg hg=>.inr (hblk g hg)
      refine dM hex ?_;rcases hown'.2 with⟨rfl,h0⟩|⟨g,cap,cur,rfl,hbg,hg,hnc',hcm,hcs,htake⟩;·omega
      ·obtain⟨T,hI⟩:=mP (e:=e) (t:=t') (zs:=xs'++ys) (KK:=dk o.dst) (k:=Z) (v:=.slice Z 0 0) I hgrow hblk' (.inl ⟨rfl,rfl⟩) (J (g,cap)) (λg' c' e=>by obtain⟨rfl,rfl⟩:=dE e;rfl);have hB:dI C (iy γ (dk o.dst) (J (g,cap))) (dw st.h Z (dk o.dst) (.row e t' (xs'++ys))) w' (dk o.dst) (.row e t' (xs'++ys)):=by
        refine .inr ⟨g,cap,cur,bz _ _ _,hg,by simpa using hnc',hcm,by rw[hcs,hts,hisz],by omega,?_⟩;refine bi.of_take ?_;rw[show(xs'++ys).length*t'.size=(xs'.length+ys.length)*inf.size by rw[NP,hts,hisz],htake];exact(hrow.append (by rw[hcl,hts,hisz]) hnr (by rw[hnl,hts,hisz])).mono T.sz λg' ho' hg'=>T.okb (d:=Z) trivial ho' hg'
       refine hn (iy γ (dk o.dst) (J (g,cap))) w' _ (R'.app (x:=⟨.v (.c (.own (dk o.dst) (st.h.next (dk o.dst)))),(V1.c (.slc dp t' xs')).keys++x.keys++[dk o.dst],_⟩) T (hI hB) ⟨rfl,aT (jS _ _ _ _) rfl λn hn'=>?_⟩);simp only[Box.len,ND] at hn';rw[bz,<- hn'];simp[eX]
     ·cases he
 ·exact Fj hte R' ho hargs hat hs hx he
end
end Rv
namespace Rv
open Go
section
variable{P:Program}{C C':Ctx}{γ γ':Gam}{h h':Heap}{w:E}{R:Type}{r:R}
theorem uB{a b:Y}(he:vM a b=M):a=b:=by
 unfold vM at he;split at he;·rfl
 ·rfl
 ·rfl
 ·rename_i f a b g c d;simp only[NJ,beq_iff_eq,Array.isEmpty_iff] at he;obtain⟨⟨⟨⟨rfl,rfl⟩,rfl⟩,rfl⟩,rfl⟩:=he;rfl
 ·cases he
structure Ren (C:Ctx) (γ:Gam) (h:Heap) (w:E) (C':Ctx) (γ':Gam) (h':Heap) (keys deps:O X):Prop where
 back:∀k' e' g c,h' k'=J e'->e'.box.live->γ' k'=J (g,c)->∃k0 e0 c0,k0∈keys/\h k0=J e0/\e0.box.live/\γ k0=J (g,c0)
 apart:∀k,k∈deps->k ∉ keys
 rd:∀d g,okb C γ h d g->g<w.heap.size->(∀x,d=J x->x.1∈deps)->C'.rd g
 rdb:∀k e g c l,k∈deps->h k=J e->e.box=.cells l->γ k=J (g,c)->C'.rd g
theorem Ren.okb{keys deps:O X}(N:Ren C γ h w C' γ' h' keys deps){d:Dep}{g:X}(ho:Rv.okb C γ h d g)(hg:g<w.heap.size)(hd:∀x,d=J x->x.1∈deps):Rv.okb C' γ' h' Z g:=by
 refine⟨N.rd d g ho hg hd,λk' e' c hk hl hγ=>?_⟩;obtain⟨k0,e0,c0,hk0,he0,hl0,hγ0⟩:=N.back k' e' g c hk hl hγ;have:=(ho.2 k0 e0 c0 he0 hl0 hγ0).1;exact absurd hk0 (N.apart k0 (by have:=hd _ this;simpa using this))
theorem Ren.okbb{keys deps:O X}(N:Ren C γ h w C' γ' h' keys deps)(I:Inv C γ h w){k:X}{e:En}{g c:X}{l:O Cell}(hk:h k=J e)(hb:e.box=.cells l)(hg:γ k=J (g,c))(hd:k∈deps):Rv.okb C' γ' h' Z g:=by
 refine⟨N.rdb k e g c l hd hk hb hg,λk' e' c' hk' hl hγ=>?_⟩;obtain⟨k0,e0,c0,hk0,he0,hl0,hγ0⟩:=N.back k' e' g c' hk' hl hγ;have:=I.inj k k0 e e0 g c c0 hk (by rw[hb];trivial) he0 hl0 hg hγ0;exact absurd (this ▸ hk0) (N.apart k hd)
theorem Ren.rdm{keys deps:O X}(N:Ren C γ h w C' γ' h' keys deps){t:Ty}{x:t.D}{cs:O Y}(hr:Rd w (Rv.okb C γ h Z) t x cs):Rd w (Rv.okb C' γ' h' Z) t x cs:=
 hr.mono (NL _) λg ho hg=>⟨rfl,N.okb ho hg (λx e=>by cases e)⟩
theorem Ren.rds{keys deps:O X}(N:Ren C γ h w C' γ' h' keys deps){d:Dep}{t:Ty}{xs:O t.D}{v:Y}(hr:RdS C γ h w d t xs v)(hd:∀x,d=J x->x.1∈deps):RdS C' γ' h' w Z t xs v:=by
 obtain⟨A,c,hv,hle,hx⟩:=hr;refine⟨A,c,hv,hle,λi x e=>?_⟩;obtain⟨g,o,ds,hA,ho,hg,hrd,hc⟩:=hx i x e;exact⟨g,o,ds,hA,N.okb ho hg hd,hg,N.rdm hrd,hc⟩
theorem uN{t:Ty}{b:Box}{ys:O t.D}(hc:yO h t b=J ys):b.len=J ys.length/\((∃e,b=.row e t ys)\/b=.pub t ys):=by
 unfold yO at hc;split at hc;·rename_i e t' xs;obtain⟨rfl,hy⟩:=bS hc;simp only at hy;subst hy;exact⟨rfl,.inl ⟨e,rfl⟩⟩
 ·rename_i t' xs;obtain⟨rfl,hy⟩:=bS hc;simp only at hy;subst hy;exact⟨rfl,.inr rfl⟩
 ·cases hc
theorem AP{k v:X}{t:Ty}{b:Box}{ys:O t.D}(ha:h.at k v=J b)(hb:(∃e,b=.row e t ys)\/b=.pub t ys):rowOf h (.own k v)=J ⟨t,ys⟩/\∀n,rowOf h (.ownP k v n)=J ⟨t,ys.take n⟩:=by
 rcases hb with⟨e,rfl⟩|rfl;·simp[rowOf,ha]
 ·simp[rowOf,ha]
theorem IA(I:Inv C γ h w){keys deps bm:O X}(N:Ren C γ h w C' γ' h' keys deps){nm:Nm}{cd:CD}{c:Cell}{y:cd.T}{met:Met}(ha:cd.abs h bm c=J (y,met)){v:Y}(hv:av C γ h w c v){m:X}
  (hdeps:∀k,k∈met.deps->k∈deps) (hrows:∀k,J k∈met.rows->k∈keys)
  (hent:∀p,p∈(cd.mk nm y m).2.1->h' p.1=J p.2) (hγr:∀j q,met.rows[j]?=J q->γ' (nm (m+j)).1=q.elim Z γ)
  (hbox:∀i k,bm[i]?=J k->(∃e l,h' (nm i).1=J e/\e.ver=(nm i).2/\e.box=.cells l)/\γ' (nm i).1=γ k) :
  av C' γ' h' w (cd.mk nm y m).1 v/\(cd.mk nm y m).2.2=m+met.rows.length/\(cd.mk nm y m).2.1.map (·.1)=(List.range met.rows.length).map (λj=>(nm (m+j)).1) /\
   ∀p,p∈(cd.mk nm y m).2.1->dI C' γ' h' w p.1 p.2.box:=by
 have h1:=av.one hv;unfold CD.abs at ha;split at ha;·rename_i k j n;obtain⟨hk,ha⟩:=aa ha;simp only[NI,ND] at ha;obtain⟨rfl,rfl⟩:=ha;subst hk;exact⟨hv,by simp[CD.mk],by simp[CD.mk],λp hp=>by simp[CD.mk] at hp⟩
 ·simp only[NI,ND] at ha;obtain⟨rfl,rfl⟩:=ha;exact⟨hv,by simp[CD.mk],by simp[CD.mk],λp hp=>by simp[CD.mk] at hp⟩
 ·simp only[NI,ND] at ha;obtain⟨rfl,rfl⟩:=ha;exact⟨hv,by simp[CD.mk],by simp[CD.mk],λp hp=>by simp[CD.mk] at hp⟩
 ·simp only[NI,ND] at ha;obtain⟨rfl,rfl⟩:=ha;refine⟨⟨h1,?_⟩,by simp[CD.mk],by simp[CD.mk],λp hp=>by simp[CD.mk] at hp⟩;rw[show v=_ from hv];exact⟨Z,0,by simp,by simp,λi x e=>by simp at e⟩
 ·rename_i t d t' xs;obtain⟨hd,ha⟩:=aa ha;split at ha
  ·rename_i ys hc;obtain⟨rfl,hy⟩:=bS hc;simp only at hy;subst hy;simp only[NI,ND] at ha;obtain⟨rfl,rfl⟩:=ha;refine⟨⟨h1,N.rds (hv.2.get hd) λx e=>hdeps _ ?_⟩,by simp[CD.mk],by simp[CD.mk],λp hp=>by simp[CD.mk] at hp⟩;subst e;simp
  ·cases ha
 ·rename_i t k kv;split at ha
  ·rename_i b hat
   split at ha
   ·rename_i ys hc;simp only[NI,ND] at ha;obtain⟨rfl,rfl⟩:=ha;obtain⟨_,hb⟩:=uN hc;have hr:=(AP hat hb).1;have:=jP I hr hv;obtain⟨e,he,hve,_⟩:=aH hat
    refine⟨⟨h1,N.rds this λx ex=>hdeps _ ?_⟩,by simp[CD.mk],by simp[CD.mk],λp hp=>by simp[CD.mk] at hp⟩;simp only[eB,he,OC,ND] at ex;subst ex;simp
   ·cases ha
  ·cases ha
 ·rename_i t k kv n;split at ha
  ·rename_i b hat
   split at ha
   ·rename_i ys hc;simp only[NI,ND] at ha;obtain⟨rfl,rfl⟩:=ha;obtain⟨_,hb⟩:=uN hc;have hr:=(AP hat hb).2 n;have:=jP I hr hv;obtain⟨e,he,hve,_⟩:=aH hat
    refine⟨⟨h1,N.rds this λx ex=>hdeps _ ?_⟩,by simp[CD.mk],by simp[CD.mk],λp hp=>by simp[CD.mk] at hp⟩;simp only[eB,he,OC,ND] at ex;subst ex;simp
   ·cases ha
  ·cases ha
 ·rename_i e t;simp only[NI,ND] at ha;obtain⟨rfl,rfl⟩:=ha;have hg:=hγr 0 Z rfl;simp only[Nat.add_zero,Option.elim_none] at hg;refine⟨⟨h1,aT (hent ((nm m).1,⟨(nm m).2,0,.row e t []⟩) (by simp[CD.mk])) rfl λn hn=>?_⟩,by simp[CD.mk],by simp[CD.mk],λp hp=>?_⟩
  ·simp only[Box.len,Ol,ND] at hn;subst hn;rw[hg,show v=_ from hv];exact⟨rfl,rfl⟩
  ·simp only[CD.mk,Ob] at hp;subst hp;exact .inl ⟨hg,rfl⟩
 ·rename_i e t k kv;split at ha
  ·rename_i e' t' xs hat
   split at ha
   ·rename_i hee;split at ha
    ·rename_i ys hc;obtain⟨rfl,hy⟩:=bS hc;simp only at hy;subst hy;subst hee;simp only[NI,ND] at ha;obtain⟨rfl,rfl⟩:=ha;have hg:=hγr 0 (J k) rfl;simp only[Nat.add_zero,Option.elim_some] at hg;obtain⟨en,he,hve,hbx⟩:=aH hat
     refine⟨⟨h1,aT (hent ((nm m).1,⟨(nm m).2,0,.row e' t' xs⟩) (by simp[CD.mk])) rfl λn hn=>?_⟩,by simp[CD.mk],by simp[CD.mk],λp hp=>?_⟩;·simp only[Box.len,ND] at hn;subst hn;rw[hg];exact hv.2.get he hve _ (by rw[hbx];rfl)
     ·simp only[CD.mk,Ob] at hp;subst hp;have hb0:=I.box k en he;rw[hbx] at hb0;rcases hb0 with⟨h0,hx⟩|⟨g,c,cur,hγ,hb,hc,hcm,hcs,hsz,hr⟩
      ·exact .inl ⟨by rw[hg];exact h0,hx⟩
      ·exact .inr ⟨g,c,cur,by rw[hg];exact hγ,hb,hc,hcm,hcs,hsz,λi x hx=>N.rdm (hr i x hx)⟩
    ·cases ha
   ·cases ha
  ·cases ha
 ·rename_i e t k kv n0;split at ha
  ·rename_i e' t' xs hat
   split at ha
   ·rename_i hee;split at ha
    ·rename_i ys hc;obtain⟨rfl,hy⟩:=bS hc;simp only at hy;subst hy;subst hee;simp only[NI,ND] at ha;obtain⟨rfl,rfl⟩:=ha;have hg:=hγr 0 (J k) rfl;simp only[Nat.add_zero,Option.elim_some] at hg;obtain⟨en,he,hve,hbx⟩:=aH hat
     obtain⟨hle,hO⟩:=hv.2.get he hve _ (by rw[hbx];rfl);refine⟨⟨h1,aT (hent ((nm m).1,⟨(nm m).2,0,.row e' t' (xs.take n0)⟩) (by simp[CD.mk])) rfl λn hn=>?_⟩,by simp[CD.mk],by simp[CD.mk],λp hp=>?_⟩
     ·simp only[Box.len,ND,OD] at hn;have:n=n0:=by omega
      subst this;rw[hg];exact hO
     ·simp only[CD.mk,Ob] at hp;subst hp;have hb0:=I.box k en he;rw[hbx] at hb0;rcases hb0 with⟨h0,hx⟩|⟨g,c,cur,hγ,hb,hc,hcm,hcs,hsz,hr⟩
      ·exact .inl ⟨by rw[hg];exact h0,by rw[hx];simp⟩
      ·refine .inr ⟨g,c,cur,by rw[hg];exact hγ,hb,by rw[OD];omega,hcm,hcs,hsz,λi x hx=>N.rdm (hr i x ?_)⟩;rw[Oi] at hx;split at hx
       ·exact hx
       ·cases hx
    ·cases ha
   ·cases ha
  ·cases ha
 ·rename_i i off k kv o;obtain⟨hbk,ha⟩:=aa ha;obtain⟨hoff,ha⟩:=aa ha;split at ha
  ·rename_i l hat
   have ha:=(Prod.mk.inj (NF ha)).2;subst ha;subst hoff;obtain⟨en,he,hve,hbx⟩:=aH hat
   obtain⟨⟨e,l',he',hve',hbx'⟩,hg⟩:=hbox i k hbk;refine⟨⟨h1,aT he' hve' λl'' _=>?_⟩,by simp[CD.mk],by simp[CD.mk],λp hp=>by simp[CD.mk] at hp⟩;rw[hg];exact hv.2.get he hve l hbx
  ·cases ha
 ·rename_i u u';obtain⟨hr,ha⟩:=aa ha;have ha:=(Prod.mk.inj (NF ha)).2;subst ha;have:=uB hr;subst this;exact⟨hv,by simp[CD.mk],by simp[CD.mk],λp hp=>by simp[CD.mk] at hp⟩
 ·have ha2:=(Prod.mk.inj (NF ha))
  obtain⟨rfl,rfl⟩:=ha2;exact⟨hv,by simp[CD.mk],by simp[CD.mk],λp hp=>by simp[CD.mk] at hp⟩
 ·rename_i u;obtain⟨hr,ha⟩:=aa ha;have ha2:=(Prod.mk.inj (NF ha))
  obtain⟨rfl,rfl⟩:=ha2;have:=uB hr;subst this;exact⟨⟨h1,λ_=>hv.1,λe=>by cases e⟩,by simp[CD.mk],by simp[CD.mk],λp hp=>by simp[CD.mk] at hp⟩
 ·rename_i t k o;have ha2:=(Prod.mk.inj (NF ha))
  obtain⟨rfl,rfl⟩:=ha2;exact⟨⟨h1,wI hv⟩,by simp[CD.mk],by simp[CD.mk],λp hp=>by simp[CD.mk] at hp⟩
 ·rename_i t k t' k' o;obtain⟨⟨rfl,rfl⟩,ha⟩:=aa ha;have ha2:=(Prod.mk.inj (NF ha))
  obtain⟨rfl,rfl⟩:=ha2;exact⟨hv,by simp[CD.mk],by simp[CD.mk],λp hp=>by simp[CD.mk] at hp⟩
 ·rename_i t k u;obtain⟨hr,ha⟩:=aa ha;have ha2:=(Prod.mk.inj (NF ha))
  obtain⟨rfl,rfl⟩:=ha2;have:=uB hr;subst this;exact⟨hv.1,by simp[CD.mk],by simp[CD.mk],λp hp=>by simp[CD.mk] at hp⟩
 ·have ha2:=(Prod.mk.inj (NF ha))
  obtain⟨rfl,rfl⟩:=ha2;exact⟨⟨h1,N.rdm hv.2⟩,by simp[CD.mk],by simp[CD.mk],λp hp=>by simp[CD.mk] at hp⟩
 ·rename_i t t' xs i off;obtain⟨hoff,ha⟩:=aa ha;split at ha
  ·rename_i ys hc;obtain⟨rfl,hy⟩:=bS hc;simp only at hy;subst hy;split at ha
   ·rename_i z hz;have ha2:=(Prod.mk.inj (NF ha))
    obtain⟨rfl,rfl⟩:=ha2;obtain⟨g,p,x,ds,hvv,hx,ho,hg,hrd,hcc⟩:=hv.2;rw[hz] at hx;obtain rfl:=NF hx;subst hoff;exact⟨⟨h1,g,p,_,ds,hvv,rfl,N.okb ho hg (λx e=>by cases e),hg,N.rdm hrd,hcc⟩,by simp[CD.mk],by simp[CD.mk],λp hp=>by simp[CD.mk] at hp⟩
   ·cases ha
  ·cases ha
 ·rename_i t k kv off;split at ha
  ·rename_i l hat
   obtain⟨hle,ha⟩:=aa ha;split at ha
   ·rename_i z hz;have ha2:=(Prod.mk.inj (NF ha))
    obtain⟨rfl,rfl⟩:=ha2;obtain⟨en,he,hve,hbx⟩:=aH hat
    obtain⟨g,c,hγ,hvv⟩:=hv.2.get he hve l hbx;have hb0:=I.box k en he;rw[hbx] at hb0;obtain⟨g',vs,U,hγ',hb,hall⟩:=hb0;have hgg:=dE (hγ.symm.trans hγ');obtain⟨rfl,rfl⟩:=hgg;have hds:=(hall.drop off).take t.size;have hrd:=N.rdm (Rd.ofCells hz hds);refine⟨⟨h1,g,off,_,_,hvv,rfl,N.okbb I he hbx hγ (hdeps k (by simp)),(Array.getElem?_eq_some_iff.1 hb).1,hrd,λj u hj=>?_⟩,by simp[CD.mk],by simp[CD.mk],λp hp=>by simp[CD.mk] at hp⟩;rw[cell_of_row w g _ vs U (0,0) hb];rw[Oi] at hj;split at hj;·rw[Ov] at hj;simpa using hj
    ·cases hj
   ·cases ha
  ·cases ha
 ·rename_i i fs k kv gs;obtain⟨hbk,ha⟩:=aa ha;obtain⟨hfs,ha⟩:=aa ha;split at ha
  ·rename_i l hat
   have ha:=(Prod.mk.inj (NF ha)).2;subst ha;subst hfs;obtain⟨⟨e2,l2,he2,hve2,hb2⟩,hγ2⟩:=hbox i k hbk;obtain⟨en,hk,hve,hbx⟩:=aH hat
   obtain⟨b,c,g,hγ,hvv,hcl⟩:=hv.2.get hk hve l hbx;exact⟨⟨h1,aT he2 hve2 λl' hl'=>⟨b,c,g,by rw[hγ2];exact hγ,hvv,λj f hj=>⟨N.okb (hcl j f hj).1 (hcl j f hj).2.1 (λx e=>by cases e),(hcl j f hj).2⟩⟩⟩,by simp[CD.mk],by simp[CD.mk],λp hp=>by simp[CD.mk] at hp⟩
  ·cases ha
 ·rename_i t d t' xs;obtain⟨hd,ha⟩:=aa ha;split at ha
  ·rename_i ys hc;obtain⟨rfl,hy⟩:=bS hc;simp only at hy;subst hy;simp only[NI,ND] at ha;obtain⟨rfl,rfl⟩:=ha;obtain⟨hr1,hr2⟩:=hv.2.get hd;refine⟨⟨h1,N.rds hr1 λx e=>hdeps _ ?_,hr2⟩,by simp[CD.mk],by simp[CD.mk],λp hp=>by simp[CD.mk] at hp⟩;subst e;simp
  ·cases ha
 ·rename_i t d t' xs;obtain⟨hd,ha⟩:=aa ha;split at ha
  ·rename_i ys hc;obtain⟨rfl,hy⟩:=bS hc;simp only at hy;subst hy;simp only[NI,ND] at ha;obtain⟨rfl,rfl⟩:=ha;refine⟨⟨h1,N.rds (hv.2.get hd).1 λx e=>hdeps _ ?_⟩,by simp[CD.mk],by simp[CD.mk],λp hp=>by simp[CD.mk] at hp⟩;subst e;simp
  ·cases ha
 ·have ha:=(Prod.mk.inj (NF ha)).2;subst ha;exact⟨h1,by simp[CD.mk],by simp[CD.mk],λp hp=>by simp[CD.mk] at hp⟩
 ·cases ha
end
end Rv
namespace Rv
open Go
section
variable{P:Program}{C C':Ctx}{γ γ':Gam}{h h':Heap}{w:E}{R:Type}{r:R}
theorem uJ(I:Inv C γ h w){keys deps bm:O X}(N:Ren C γ h w C' γ' h' keys deps){nm:Nm}
  (hbox:∀i k,bm[i]?=J k->(∃e l,h' (nm i).1=J e/\e.ver=(nm i).2/\e.box=.cells l)/\γ' (nm i).1=γ k) :
  ∀{l:O CD}{cs:O Cell}{y:TL l}{met:Met}{vs:O Y}{m:X},eF h bm l cs=J (y,met)->aj (av C γ h w) cs vs ->
  (∀k,k∈met.deps->k∈deps)->(∀k,J k∈met.rows->k∈keys)->(∀p,p∈(mkL nm l y m).2.1->h' p.1=J p.2)->(∀j q,met.rows[j]?=J q->γ' (nm (m+j)).1=q.elim Z γ) ->
  aj (av C' γ' h' w) (mkL nm l y m).1 vs/\(mkL nm l y m).2.1.map (·.1)=(List.range met.rows.length).map (λj=>(nm (m+j)).1)/\∀p,p∈(mkL nm l y m).2.1->dI C' γ' h' w p.1 p.2.box
 |[],[],y,met,vs,m,he,ha,_,_,_,_=>by
  simp only[eF,ND,NI] at he;obtain⟨_,rfl⟩:=he;cases vs with
  |nil=>exact⟨trivial,by simp[mkL],λp hp=>by simp[mkL] at hp⟩
  |cons _ _=>exact ha.elim
 |c::l,x::cs,y,met,vs,m,he,ha,hd,hr,hent,hγ=>by
  simp only[eF] at he;split at he
  ·rename_i y1 m1 h1;split at he
   ·rename_i y2 m2 h2;simp only[ND,NI] at he;obtain⟨rfl,rfl⟩:=he;cases vs with
    |nil=>exact ha.elim
    |cons v vs=>
     simp only[mkL,NV] at hent;obtain⟨g1,g2,g3,g4⟩:=IA I N (nm:=nm) (m:=m) h1 ha.1 (λk hk=>hd k (by simp[hk])) (λk hk=>hr k (by simp[hk])) (λp hp=>hent p (.inl hp))
      (λj q hq=>hγ j q (by grind)) hbox
     obtain⟨g5,g6,g7⟩:=uJ I N (nm:=nm) (m:=m+m1.rows.length) hbox h2 ha.2 (λk hk=>hd k (by simp[hk])) (λk hk=>hr k (by simp[hk])) (λp hp=>hent p (.inr (by grind)))
      (λj q hq=>by simp_all [List.getElem?_append_right,OE])
     simp only[mkL,g2];refine⟨⟨g1,g5⟩,?_,λp hp=>?_⟩;·simp_all [List.range_add,OE]
     grind
   ·cases he
  ·cases he
 |[],_::_,_,_,_,_,he,_,_,_,_,_=>by simp[eF] at he
 |_::_,[],_,_,_,_,he,_,_,_,_,_=>by simp[eF] at he
def zq:Y->O Y
 | .func _ b c=>b.toList++c.toList
 |_=>[]
theorem oH(f:FuncId)(us:O Y):zq (kL f us.toArray)=us:=by
 grind [kL,zq]
def aV(vals:Array Y):O (X×SD)->O Y
 |[]=>[]
 |(i,.c _)::r=>vals.getD i undef::aV vals r
 |(i,.agg _)::r=>(vals.getD i undef).cells.toList++aV vals r
 |(i,.clo _ _)::r=>zq (vals.getD i undef)++aV vals r
def Me(v:Y):SD->Prop
 | .c _=>True
 | .agg ds=>∃us:O Y,v=.agg us.toArray/\us.length=ds.length
 | .clo f ds=>∃us:O Y,v=kL f us.toArray/\us.length=ds.length
def dF(vals:Array Y)(sl:O (X×SD)):Prop:=∀i sd,(i,sd)∈sl->Me (vals.getD i undef) sd
theorem dF.cons{vals:Array Y}{i:X}{sd:SD}{sl:O (X×SD)}(h1:Me (vals.getD i undef) sd)(h2:dF vals sl):dF vals ((i,sd)::sl):=λj sd' hm=>by
 rcases NT.1 hm with hm|hm;·grind
 ·exact h2 j sd' hm
theorem dF.tail{vals:Array Y}{p:X×SD}{sl:O (X×SD)}(h:dF vals (p::sl)):dF vals sl:=λj sd hm=>h j sd (NU _ hm)
theorem iZ{l:O V}{vals:Array Y}(hs:∀i v,l[i]?=J v->aZ C γ h w v (vals.getD i undef)):∀{sl:O (X×SD)}{cs:O Cell},dx l sl=J cs ->
  aj (av C γ h w) cs (aV vals sl)/\dF vals sl
 |[],cs,he=>by
  simp only[dx,ND] at he;subst he;exact⟨trivial,λi ds hm=>by simp at hm⟩
 |(i,.c d)::sl,cs,he=>by
  simp only[dx] at he;split at he
  ·rename_i x hx;split at he
   ·rename_i cs' h1;simp only[ND] at he;subst he;obtain⟨g1,g2⟩:=iZ hs h1;exact⟨⟨hs i _ hx,g1⟩,g2.cons trivial⟩
   ·cases he
  ·cases he
 |(i,.agg d)::sl,cs,he=>by
  simp only[dx] at he;split at he
  ·rename_i xs hx;obtain⟨hl,he⟩:=aa he;split at he
   ·rename_i cs' h1;simp only[ND] at he;subst he;obtain⟨g1,g2⟩:=iZ hs h1;obtain⟨us,hu,hau⟩:=hs i _ hx;have hul:=hau.length;refine⟨?_,g2.cons ⟨us,hu,by omega⟩⟩;simp only[aV,hu,Value.cells];exact hau.append g1
   ·cases he
  ·cases he
 |(i,.clo f d)::sl,cs,he=>by
  simp only[dx] at he;split at he
  ·rename_i f' xs hx;obtain⟨⟨hf,hl⟩,he1⟩:=aa he;subst hf;split at he1
   ·rename_i cs' h1;simp only[ND] at he1;subst he1;obtain⟨g1,g2⟩:=iZ hs h1;obtain⟨us,hu,hau⟩:=hs i _ hx;have hul:=hau.length;refine⟨?_,g2.cons ⟨us,hu,by omega⟩⟩;simp only[aV,hu,oH];exact hau.append g1
   ·cases he1
  ·cases he
theorem bK{vals:Array Y}:∀{sl:O (X×SD)}{l:O V}{cs:O Cell}{rest:O Y},dF vals sl->(∀i v,l[i]?=J v->aZ C γ h w v (vals.getD i undef))->aj (av C γ h w) cs (aV vals sl++rest) ->
  (ax l sl cs).1.length=l.length/\(∀i v,(ax l sl cs).1[i]?=J v->aZ C γ h w v (vals.getD i undef))/\aj (av C γ h w) (ax l sl cs).2 rest
 |[],l,cs,rest,_,hl,ha=>⟨rfl,hl,ha⟩
 |(i,.c d)::sl,l,cs,rest,hok,hl,ha=>by
  cases cs with
  |nil=>exact ha.elim
  |cons c cs=>
   simp only[ax,List.headD_cons,List.tail_cons];have:=bK (sl:=sl) (l:=l.set i (.v (.c c))) (cs:=cs) (rest:=rest) hok.tail (λj v hj=>?_) ha.2;·grind
   ·rw[List.getElem?_set] at hj;split at hj
    ·rename_i e;subst e;split at hj
     ·simp only[ND] at hj;subst hj;exact ha.1
     ·cases hj
    grind
 |(i,.agg d)::sl,l,cs,rest,hok,hl,ha=>by
  obtain⟨us,hu,hul⟩:=hok i (.agg d) (by simp);simp only[aV,hu,Value.cells,NW] at ha;have hlen:=ha.length;simp only[ax];have h1:aj (av C γ h w) (cs.take d.length) us:=by
   have:=ha.take d.length
   grind
  have h2:aj (av C γ h w) (cs.drop d.length) (aV vals sl++rest):=by
   have:=ha.drop d.length
   grind
  have:=bK (sl:=sl) (l:=l.set i (.v (.agg (cs.take d.length)))) (cs:=cs.drop d.length) (rest:=rest) hok.tail (λj v hj=>?_) h2;·grind
  ·rw[List.getElem?_set] at hj;split at hj
   ·rename_i e;subst e;split at hj
    ·simp only[ND] at hj;subst hj;exact⟨us,hu,h1⟩
    ·cases hj
   grind
 |(i,.clo f d)::sl,l,cs,rest,hok,hl,ha=>by
  obtain⟨us,hu,hul⟩:=hok i (.clo f d) (by simp);simp only[aV,hu,oH,NW] at ha;have hlen:=ha.length;simp only[ax];have h1:aj (av C γ h w) (cs.take d.length) us:=by
   have:=ha.take d.length
   grind
  have h2:aj (av C γ h w) (cs.drop d.length) (aV vals sl++rest):=by
   have:=ha.drop d.length
   grind
  have:=bK (sl:=sl) (l:=l.set i (.clo f (cs.take d.length))) (cs:=cs.drop d.length) (rest:=rest) hok.tail (λj v hj=>?_) h2;·grind
  ·rw[List.getElem?_set] at hj;split at hj
   ·rename_i e;subst e;split at hj
    ·simp only[ND] at hj;subst hj;exact⟨us,hu,h1⟩
    ·cases hj
   grind
def gF(γ:Gam)(h:Heap)(w:E):O (F X×O CD)->O X->O (O Y)->Prop
 |[],[],[]=>True
 |(_,ds)::r,k::ks,v::vs=>(∃e l g T,h k=J e/\e.box=.cells l/\γ k=J (g,0)/\w.heap[g]?=J (.cells v.toArray T (0,0))/\v.length=ds.length)/\gF γ h w r ks vs
 |_,_,_=>False
theorem kH(I:Inv C γ h w):∀{bl:O (F X×O CD)}{cs all:O Cell}{bm0 bm:O X}{vs:O Y},bq h bl cs bm0=J (all,bm)->aj (av C γ h w) cs vs ->
  ∃ks more,bm=bm0++ks/\gF γ h w bl ks more/\aj (av C γ h w) all (vs++more.flatten)
 |[],cs,all,bm0,bm,vs,he,ha=>by
  simp only[bq,ND,NI] at he;obtain⟨rfl,rfl⟩:=he;exact⟨[],[],by simp,trivial,by simpa using ha⟩
 |(Z,ds)::bl,cs,all,bm0,bm,vs,he,ha=>by
  simp only[bq] at he;split at he
  ·rename_i l hat
   obtain⟨hl,he⟩:=aa he;obtain⟨e,hk,hve,hbx⟩:=aH hat
   have hb:=I.box _ e hk;rw[hbx] at hb;obtain⟨g,us,T,hγ,hbl,hau⟩:=hb;obtain⟨ks,more,h1,h2,h3⟩:=kH I he (ha.append hau);refine⟨_::ks,us.toList::more,by grind,⟨⟨e,l,g,T,hk,hbx,hγ,by simpa using hbl,by rw[<- hau.length,hl]⟩,h2⟩,?_⟩
   grind
  ·cases he
 |(J p,ds)::bl,cs,all,bm0,bm,vs,he,ha=>by
  simp only[bq] at he;split at he
  ·rename_i k kv o hp;split at he
   ·rename_i l hat
    obtain⟨hl,he⟩:=aa he;obtain⟨e,hk,hve,hbx⟩:=aH hat
    have hb:=I.box k e hk;rw[hbx] at hb;obtain⟨g,us,T,hγ,hbl,hau⟩:=hb;obtain⟨ks,more,h1,h2,h3⟩:=kH I he (ha.append hau);refine⟨k::ks,us.toList::more,by simp[h1],⟨⟨e,l,g,T,hk,hbx,hγ,by simpa using hbl,by rw[<- hau.length,hl]⟩,h2⟩,?_⟩
    grind
   ·cases he
  ·cases he
theorem gF.len:∀{bl:O (F X×O CD)}{ks:O X}{more:O (O Y)},gF γ h w bl ks more->ks.length=bl.length
 |[],[],[],_=>rfl
 |_::bl,_::ks,_::more,hb=>by simp[gF.len hb.2]
theorem gF.get:∀{bl:O (F X×O CD)}{ks:O X}{more:O (O Y)}{i k:X},gF γ h w bl ks more->ks[i]?=J k->∃e l g,h k=J e/\e.box=.cells l/\γ k=J (g,0)
 |_::bl,_::ks,_::more,0,k,hb,he=>by
  simp only[Oh,ND] at he;subst he;obtain⟨e,l,g,T,h1,h2,h3,_⟩:=hb.1
  grind
 |_::bl,_::ks,_::more,i+1,k,hb,he=>gF.get hb.2 (by simpa using he)
 |[],[],[],_,_,_,he=>by simp at he
theorem gz(nm:Nm):∀(i:X) (bl:O (F X×O CD)) (cs:O Cell),(aR nm i bl cs).map (·.1)=(List.range bl.length).map λj=>(nm (i+j)).1
 |i,[],cs=>rfl
 |i,(p,ds)::bl,cs=>by
  simp only[aR,NY,gz nm (i+1) bl,N7,List.range_succ_eq_map,List.map_map];simp only[Nat.add_zero,List.cons.injEq,true_and]
  grind [List.map_congr_left]
theorem lM{nm:Nm}:∀{i:X}{bl:O (F X×O CD)}{ks:O X}{more:O (O Y)}{cs:O Cell}{rest:O Y},gF γ h w bl ks more->(∀j k,ks[j]?=J k->γ' (nm (i+j)).1=γ k) ->
  aj (av C' γ' h' w) cs (more.flatten++rest)->∀p,p∈aR nm i bl cs->dI C' γ' h' w p.1 p.2.box
 |i,[],[],[],cs,rest,_,_,_,p,hp=>by simp[aR] at hp
 |i,(q,ds)::bl,k::ks,v::more,cs,rest,hb,hk,ha,p,hp=>by
  obtain⟨⟨e,l,g,T,h1,h2,h3,h4,h5⟩,hb⟩:=hb;simp only[List.flatten_cons,NW] at ha;simp only[aR,NT] at hp;rcases hp with rfl|hp
  ·refine⟨g,v.toArray,T,(hk 0 k rfl).trans h3,h4,?_⟩;have:=ha.take ds.length
   grind
  ·have h6:=ha.drop ds.length;rw[List.drop_append_of_le_length (by omega),<- h5,OG,Oc,h5] at h6;exact lM (i:=i+1) hb (λj k' hj=>by have:=hk (j+1) k' (by simpa using hj);grind) h6 p hp
theorem gp:∀{l:O (X×En)}{p:X×En},(l.map (·.1)).Nodup->p∈l->Heap.ofList l p.1=J p.2
 |(k,e)::r,p,hn,hp=>by
  simp only[NY,List.nodup_cons] at hn;simp only[Heap.ofList];rcases NT.1 hp with rfl|hp;·simp
  ·by_cases hk:p.1=k
   ·grind
   ·rw[B hk];exact gp hn.2 hp
theorem mY:∀{l:O (X×En)}{k:X}{e:En},Heap.ofList l k=J e->(k,e)∈l
 |(j,e')::r,k,e,he=>by
  simp only[Heap.ofList] at he;split at he;·grind
  ·exact NU _ (mY he)
theorem uV{α:Type}(f:X->X)(hf:∀i j,f i=f j->i=j)(src:X->α)(d:α)(n:X):∃g:X->α,(∀i,i<n->g (f i)=src i)/\∀k,(∀i,i<n->f i≠k)->g k=d:=by
 induction n with
 |zero=>exact⟨λ_=>d,λi hi=>by omega,λ_ _=>rfl⟩
 |succ n ih=>
  obtain⟨g,h1,h2⟩:=ih;refine⟨λk=>if k=f n then src n else g k,λi hi=>?_,λk hk=>?_⟩;·grind
  grind
theorem lK:∀{l:O X},nodupB l=M->l.Nodup
 |[],_=>by simp
 |a::r,he=>by
  simp only[nodupB,NJ,Bool.not_eq_true'] at he;rw[List.nodup_cons];exact⟨by grind,lK he.2⟩
theorem xP:∀{l:O X}{i j:X},l.Nodup->(hi:i<l.length)->(hj:j<l.length)->l[i]=l[j]->i=j
 |a::l,0,0,_,_,_,_=>rfl
 |a::l,0,j+1,hn,_,hj,e=>by
  grind
 |a::l,i+1,0,hn,hi,_,e=>by
  grind
 |a::l,i+1,j+1,hn,hi,hj,e=>by
  simp only[List.getElem_cons_succ] at e;rw[List.nodup_cons] at hn;exact zab _ (xP hn.2 (by simpa using hi) (by simpa using hj) e)
theorem Fg{sh:Shape}{st:St}{a:Abs sh.T}(he:sh.abs st=J a):a.keys.Nodup/\∀k,k∈a.m.deps->k ∉ a.keys:=by
 unfold Shape.abs at he;split at he
 ·split at he
  ·split at he
   ·split at he
    ·rename_i hcond;simp only[ND] at he;subst he;simp_all [lK,Abs.keys]
    ·cases he
   ·cases he
  ·cases he
 ·cases he
theorem qG:∀{bl:O (F X×O CD)}{cs all:O Cell}{bm0 bm:O X}{n:X},bq h bl cs bm0=J (all,bm)->n<=bl.length->((bl.take n).all λp=>p.1.isNone)=M ->
  (∀i,i<bm0.length->bm[i]?=bm0[i]?)/\∀i,i<n->bm[bm0.length+i]?=J (nmJ (bm0.length+i)).1/\∃e,h (nmJ (bm0.length+i)).1=J e/\e.ver=0
 |[],cs,all,bm0,bm,n,he,hn,_=>by
  simp_all [bq]
 |(q,ds)::bl,cs,all,bm0,bm,n,he,hn,hp=>by
  have step:∀{k:X}{cs':O Cell},bq h bl cs' (bm0++[k])=J (all,bm)->∀m,m<=bl.length->((bl.take m).all λp=>p.1.isNone)=M ->
    (∀i,i<bm0.length->bm[i]?=bm0[i]?)/\bm[bm0.length]?=J k/\∀i,i<m->bm[bm0.length+(i+1)]?=J (nmJ (bm0.length+(i+1))).1/\∃e,h (nmJ (bm0.length+(i+1))).1=J e/\e.ver=0:=λ{k cs'} he' m hm hp'=>by
   obtain⟨g1,g2⟩:=qG he' hm hp'
   grind
  cases n with
  |zero=>
   have:∃k cs',bq h bl cs' (bm0++[k])=J (all,bm):=by
    cases q with
    |none=>
     simp only[bq] at he
     grind
    |some p=>
     simp only[bq] at he
     grind
   obtain⟨k,cs',he'⟩:=this;exact⟨(step he' 0 (Nat.zero_le _) (by simp)).1,λi hi=>by omega⟩
  |succ n=>
   simp only[List.take_succ_cons,Oy,NJ] at hp;cases q with
   |some p=>simp at hp
   |none=>
    simp only[bq] at he;split at he
    ·rename_i l hat
     obtain⟨_,he⟩:=aa he;obtain⟨e,hk,hve,_⟩:=aH hat
     obtain⟨g1,g2,g3⟩:=step he n (by simpa using hn) hp.2;refine⟨g1,λi hi=>?_⟩;cases i with
     |zero=>grind
     |succ i=>grind
    ·cases he
theorem zi{sh:Shape}{st:St}{a:Abs sh.T}(he:sh.abs st=J a){n:X}(hp:sh.pins n=M):∀i,i<n->a.bm[i]?=J (nmJ i).1/\∃e,st.h (nmJ i).1=J e/\e.ver=0:=by
 unfold Shape.pins at hp;simp only[NJ,NH] at hp
 grind [Shape.abs,qG]
structure H6 (C:Ctx) (w:E):Prop where
 frame:∀g,g<C.w0.heap.size->¬C.own g->w.heap[g]?=C.w0.heap[g]?
 size:C.w0.heap.size<=w.heap.size
 os:w.os=C.w0.os
 tape:w.tape=C.w0.tape
 output:w.output=C.w0.output
 new:∀g,C.w0.heap.size<=g->C.own g
 rd:∀g,C.own g->C.rd g
 laid:C.L w
 stable:∀a b:E,C.L a->(∀g,¬C.own g->b.heap[g]?=a.heap[g]?)->C.L b
theorem Inv.invW(I:Inv C γ h w):H6 C w:=⟨I.frame,I.size,I.os,I.tape,I.output,I.new,I.rd,I.laid,I.stable⟩
theorem qm{sh:Shape}{st:St}{a:Abs sh.T}(he:sh.abs st=J a){vals:Array Y}(R':Rel C γ w st vals){nm:Nm}(hnm:∀i j,(nm i).1=(nm j).1->i=j)
  (W:H6 C' w) (hrd:∀d g,okb C γ st.h d g->g<w.heap.size->(∀x,d=J x->x.1∈a.m.deps)->C'.rd g) (hrdb:∀k e g c l,k∈a.m.deps->st.h k=J e->e.box=.cells l->γ k=J (g,c)->C'.rd g) (hown:∀k e g c,k∈a.keys->st.h k=J e->e.box.live->γ k=J (g,c)->C'.own g)
  (hlent:∀i,i<C'.nl->nm i=nmJ i/\∃k,a.bm[i]?=J k/\γ k=C'.lent i) :
  ∃γ',Rel C' γ' w (sh.mk' nm st.s.length a.x) vals/\a.bm.length=sh.boxes.length/\(∀i k,a.bm[i]?=J k->γ' (nm i).1=γ k/\∃e l,st.h k=J e/\e.box=.cells l)/\(∀j q,a.m.rows[j]?=J q->γ' (nm (sh.boxes.length+j)).1=q.elim Z γ):=by
 have I:=R'.inv;unfold Shape.abs at he;split at he
 ·rename_i cs h1;split at he
  ·rename_i all bm h2;split at he
   ·rename_i x met h3;split at he
    ·rename_i hcond;simp only[ND] at he;subst he;simp only[NJ] at hcond;have hnd:=lK hcond.1;have hap:∀k,k∈met.deps->k ∉ bm++met.rows.filterMap id:=λk hk=>by
      have:=Oa.1 hcond.2 k hk;simpa using this
     obtain⟨hg1,hok⟩:=iZ R'.slot h1;obtain⟨ks,more,hbm,hbx,hall⟩:=kH I h2 hg1;simp only[Oc] at hbm;obtain rfl:ks=bm:=hbm.symm;have hkl:=hbx.len
     let nb:=sh.boxes.length
     let src:X->F (X×X):=λi=>if i<nb then(ks[i]?).elim Z γ else(met.rows[i-nb]?).elim Z (λq=>q.elim Z γ)
     obtain⟨γ',hγ1,hγ2⟩:=uV (λi=>(nm i).1) hnm src Z (nb+met.rows.length);have hγb:∀i k,ks[i]?=J k->γ' (nm i).1=γ k:=λi k hi=>by
      have hlt:i<nb:=by have:=(NS.1 hi).1;omega
      rw[hγ1 i (by omega)];simp only[src,zaa hlt,hi,Option.elim_some]
     have hγr:∀j q,met.rows[j]?=J q->γ' (nm (nb+j)).1=q.elim Z γ:=λj q hj=>by
      have hlt:=(NS.1 hj).1;rw[hγ1 (nb+j) (by omega)];simp only[src];rw[B (by omega),Nat.add_sub_cancel_left,hj];rfl
     let ml:=mkL nm sh.all x nb
     let ps:=ax (List.replicate st.s.length V.dead) sh.slots ml.1
     let bs:=aR nm 0 sh.boxes ps.2
     let h':=Heap.ofList (bs++ml.2.1)
     have hmk:sh.mk' nm st.s.length x=⟨ps.1,h'⟩:=rfl;have hkeysM:∀(l:O CD) (cs:O Cell) (y:TL l) (mt:Met) (m:X),eF st.h ks l cs=J (y,mt)->(mkL nm l y m).2.1.map (·.1)=(List.range mt.rows.length).map (λj=>(nm (m+j)).1)/\(mkL nm l y m).2.2=m+mt.rows.length:=by
      intro l
      induction l with
      |nil=>
       intro cs y mt m ha;cases cs with
       |nil=>
        simp only[eF,ND,NI] at ha;obtain⟨_,rfl⟩:=ha;simp[mkL]
       |cons _ _=>simp[eF] at ha
      |cons c l ih=>
       intro cs y mt m ha;cases cs with
       |nil=>simp[eF] at ha
       |cons z cs=>
        simp only[eF] at ha;split at ha
        ·rename_i y1 m1 h1';split at ha
         ·rename_i y2 m2 h2';simp only[ND,NI] at ha;obtain⟨rfl,rfl⟩:=ha;have hone:(c.mk nm y1 m).2.1.map (·.1)=(List.range m1.rows.length).map (λj=>(nm (m+j)).1)/\(c.mk nm y1 m).2.2=m+m1.rows.length:=by
           unfold CD.abs at h1'
           (repeat' split at h1')<;>first|(cases h1';done)|(have e:=(Prod.mk.inj (NF h1')).2;subst e;simp[CD.mk])
          obtain⟨g1,g2⟩:=ih cs y2 m2 (m+m1.rows.length) h2';simp only[mkL,hone.2];refine⟨?_,by rw[g2,NP];omega⟩;rw[OA,hone.1,g1,NP,List.range_add,OA,List.map_map];congr 1;apply List.map_congr_left;intro j _;simp[OE]
         ·cases ha
        ·cases ha
     obtain⟨hkr,_⟩:=hkeysM sh.all all x met nb h3;have hkb:=gz nm 0 sh.boxes ps.2;have hkeys:(bs++ml.2.1).map (·.1)=(List.range (nb+met.rows.length)).map λi=>(nm i).1:=by
      rw[OA,show bs.map (·.1)=_ from hkb,show ml.2.1.map (·.1)=_ from hkr,List.range_add,OA,List.map_map];simp only[Nat.zero_add];rfl
     have hnd':((bs++ml.2.1).map (·.1)).Nodup:=by
      rw[hkeys];exact List.Pairwise.map _ (λi j e e'=>e (hnm i j e')) List.nodup_range
     have hent:∀p,p∈bs++ml.2.1->h' p.1=J p.2:=λp hp=>gp hnd' hp
     have origin:∀k' e',h' k'=J e'->∃i,i<nb+met.rows.length/\k'=(nm i).1:=λk' e' hk=>by
      have hm:=mY hk;have:k'∈(bs++ml.2.1).map (·.1):=N8.2 ⟨_,hm,rfl⟩;rw[hkeys] at this;obtain⟨i,hi,rfl⟩:=N8.1 this;exact⟨i,by simpa using hi,rfl⟩
     have rowLive:∀k,J k∈met.rows->∃e,st.h k=J e/\e.box.live:=by
      have:∀(l:O CD) (cs:O Cell) (y:TL l) (mt:Met),eF st.h ks l cs=J (y,mt)->∀k,J k∈mt.rows->∃e,st.h k=J e/\e.box.live:=by
       intro l
       induction l with
       |nil=>
        intro cs y mt ha k hk;cases cs with
        |nil=>
         simp only[eF,ND,NI] at ha;obtain⟨_,rfl⟩:=ha;simp at hk
        |cons _ _=>simp[eF] at ha
       |cons c l ih=>
        intro cs y mt ha k hk;cases cs with
        |nil=>simp[eF] at ha
        |cons z cs=>
         simp only[eF] at ha;split at ha
         ·rename_i y1 m1 h1';split at ha
          ·rename_i y2 m2 h2';simp only[ND,NI] at ha;obtain⟨rfl,rfl⟩:=ha;rcases NV.1 hk with hk|hk
           ·unfold CD.abs at h1'
            (repeat' split at h1')<;>first
             |(cases h1';done)
             |(have e:=(Prod.mk.inj (NF h1')).2;subst e;simp at hk;done)
             |(
              rename_i hat _ _ _ _;have e:=(Prod.mk.inj (NF h1')).2;subst e;simp only[Ob,ND] at hk;subst hk;obtain⟨en,hen,_,hbx'⟩:=aH hat
              exact⟨en,hen,by rw[hbx'];trivial⟩)
           ·exact ih cs y2 m2 h2' k hk
          ·cases ha
         ·cases ha
      exact this sh.all all x met h3
     have back:∀i g c,i<nb+met.rows.length->γ' (nm i).1=J (g,c)->∃k0 e0,k0∈ks++met.rows.filterMap id/\st.h k0=J e0/\e0.box.live/\γ k0=J (g,c)/\(if i<nb then ks[i]?=J k0 else met.rows[i-nb]?=J (J k0)):=by
      intro i g c hi hγ;by_cases hlt:i<nb
      ·have hki:ks[i]?=J ks[i]:=by simp
       rw[hγb i _ hki] at hγ;obtain⟨e,l,g',h4,h5,h6⟩:=hbx.get hki;exact⟨ks[i],e,by simp,h4,by rw[h5];trivial,hγ,by rw[zaa hlt];exact hki⟩
      ·have hj:i-nb<met.rows.length:=by omega
       have hq:met.rows[i-nb]?=J met.rows[i-nb]:=by simp[hj]
       have:=hγr (i-nb) _ hq;rw[show nb+(i-nb)=i by omega] at this;rw[this] at hγ;cases hqq:met.rows[i-nb] with
       |none=>rw[hqq] at hγ;simp at hγ
       |some k0=>
        rw[hqq] at hγ hq;obtain⟨e,h4,h5⟩:=rowLive k0 (List.mem_of_getElem? hq);exact⟨k0,e,by simp only[NV,List.mem_filterMap];exact .inr ⟨J k0,List.mem_of_getElem? hq,rfl⟩,h4,h5,hγ,by rw[B hlt];exact hq⟩
     have N:Ren C γ st.h w C' γ' h' (ks++met.rows.filterMap id) met.deps:=by
      refine⟨λk' e' g c hk hl hγ=>?_,hap,hrd,hrdb⟩;obtain⟨i,hi,rfl⟩:=origin k' e' hk;obtain⟨k0,e0,h4,h5,h6,h7,_⟩:=back i g c hi hγ;exact⟨k0,e0,c,h4,h5,h6,h7⟩
     have hboxN:∀i k,ks[i]?=J k->(∃e l,h' (nm i).1=J e/\e.ver=(nm i).2/\e.box=.cells l)/\γ' (nm i).1=γ k:=λi k hi=>by
      refine⟨?_,hγb i k hi⟩;have hlt:i<sh.boxes.length:=by have:=(NS.1 hi).1;omega
      have:∀(i0:X) (bl:O (F X×O CD)) (cs:O Cell) (j:X),j<bl.length->∃l,((nm (i0+j)).1,(⟨(nm (i0+j)).2,0,.cells l⟩:En))∈aR nm i0 bl cs:=by
       intro i0 bl
       induction bl generalizing i0 with
       |nil=>intro cs j hj;simp at hj
       |cons b bl ih=>
        intro cs j hj;obtain⟨p,ds⟩:=b;cases j with
        |zero=>exact⟨_,by simp only[aR,Nat.add_zero];exact OB⟩
        |succ j=>
         obtain⟨l,hl⟩:=ih (i0+1) (cs.drop ds.length) j (by simpa using hj);exact⟨l,by simp only[aR];rw[show i0+(j+1)=i0+1+j by omega];exact NU _ hl⟩
      obtain⟨l,hl⟩:=this 0 sh.boxes ps.2 i hlt;rw[Nat.zero_add] at hl;exact⟨_,l,hent _ (List.mem_append_left _ hl),rfl,rfl⟩
     obtain⟨hcells,_,hboxes⟩:=uJ I N (nm:=nm) hboxN (m:=nb) h3 hall (λk hk=>hk) (λk hk=>by simp only[NV,List.mem_filterMap];exact .inr ⟨J k,hk,rfl⟩) (λp hp=>hent p (List.mem_append_right _ hp)) hγr;obtain⟨hl1,hl2,hl3⟩:=bK (C:=C') (γ:=γ') (h:=h') (w:=w) (sl:=sh.slots) (l:=List.replicate st.s.length V.dead) hok (λi v hv=>by
      rw[List.getElem?_replicate] at hv;split at hv;·simp only[ND] at hv;subst hv;trivial
      ·cases hv) hcells
     refine⟨γ',?_,hkl,λi k hi=>⟨hγb i k hi,?_⟩,hγr⟩
     ·rw[hmk];refine⟨by rw[R'.size];simpa using hl1.symm,hl2,⟨λk e hk=>?_,λk k' e e' g c c' hk hl hk' hl' h4 h5=>?_,λk e g c hk hl h4=>?_,W.frame,W.size,W.os,W.tape,W.output,W.new,W.rd,W.laid,W.stable,λi hi=>?_⟩⟩
      ·have hm:=mY hk;rcases NV.1 hm with hm|hm
       ·exact lM (C':=C') (γ':=γ') (h':=h') (rest:=[]) (i:=0) hbx (λj k' hj=>by rw[Nat.zero_add];exact hγb j k' hj) (by simpa using hl3) _ hm
       ·exact hboxes _ hm
      ·obtain⟨i,hi,rfl⟩:=origin k e hk;obtain⟨j,hj,rfl⟩:=origin k' e' hk';obtain⟨k0,e0,_,h6,h7,h8,h9⟩:=back i g c hi h4;obtain⟨k1,e1,_,h10,h11,h12,h13⟩:=back j g c' hj h5;have hkk:=I.inj k0 k1 e0 e1 g c c' h6 h7 h10 h11 h8 h12;subst hkk;have hfm:∀(l:O (F X)) (i j:X) (k:X),(l.filterMap id).Nodup->l[i]?=J (J k)->l[j]?=J (J k)->i=j:=by
        intro l
        induction l with
        |nil=>intro i j k _ hi;simp at hi
        |cons q l ih=>
         intro i j k hn hi hj;cases i with
         |zero=>
          cases j with
          |zero=>rfl
          |succ j=>
           simp only[Oh,ND] at hi;subst hi;simp only[List.filterMap_cons,id,List.nodup_cons] at hn;exact absurd ((List.mem_filterMap (f:=id)).2 ⟨J k,List.mem_of_getElem? (i:=j) (by simpa using hj),rfl⟩) hn.1
         |succ i=>
          have hn':(l.filterMap id).Nodup:=by
           cases q with
           |none=>simpa using hn
           |some q=>simp only[List.filterMap_cons,id,List.nodup_cons] at hn;exact hn.2
          cases j with
          |zero=>
           simp only[Oh,ND] at hj;subst hj;simp only[List.filterMap_cons,id,List.nodup_cons] at hn;exact absurd ((List.mem_filterMap (f:=id)).2 ⟨J k,List.mem_of_getElem? (i:=i) (by simpa using hi),rfl⟩) hn.1
          |succ j=>exact zab _ (ih i j k hn' (by simpa using hi) (by simpa using hj))
       rw[List.nodup_append] at hnd;by_cases hi':i<nb<;>by_cases hj':j<nb
       ·rw[zaa hi'] at h9;rw[zaa hj'] at h13;have:i=j:=by
         have e1:=NS.1 h9;have e2:=NS.1 h13;obtain⟨b1,e1⟩:=e1;obtain⟨b2,e2⟩:=e2;exact xP hnd.1 b1 b2 (e1.trans e2.symm)
        rw[this]
       ·rw[zaa hi'] at h9;rw[B hj'] at h13;exact absurd rfl (hnd.2.2 k0 (List.mem_of_getElem? h9) k0 (List.mem_filterMap.2 ⟨J k0,List.mem_of_getElem? h13,rfl⟩))
       ·rw[B hi'] at h9;rw[zaa hj'] at h13;exact absurd rfl (hnd.2.2 k0 (List.mem_of_getElem? h13) k0 (List.mem_filterMap.2 ⟨J k0,List.mem_of_getElem? h9,rfl⟩))
       ·rw[B hi'] at h9;rw[B hj'] at h13;have:=hfm met.rows _ _ k0 hnd.2.1 h9 h13;rw[show i=j by omega]
      ·obtain⟨i,hi,rfl⟩:=origin k e hk;obtain⟨k0,e0,h5,h6,h7,h8,_⟩:=back i g c hi h4;exact hown k0 e0 g c h5 h6 h7 h8
      ·obtain⟨hn,k,hk,hγk⟩:=hlent i hi;obtain⟨⟨e,l,h4,_,_⟩,h5⟩:=hboxN i k hk;rw[hn] at h4 h5;exact⟨e,h4,λ_=>h5.trans hγk⟩
     ·obtain⟨e,l,g,h4,h5,_⟩:=hbx.get hi;exact⟨e,l,h4,h5⟩
    ·cases he
   ·cases he
  ·cases he
 ·cases he
end
end Rv
namespace Rv
open Go
def Sat(P:Program)(L:E->Prop)(f:FuncId)(sp:Spec):Prop:=
 ∀x y,sp.f x=J y->∀(C:Ctx) (γ:Gam) (vals:Array Y),C.L=L->C.nl=sp.a.boxes.length->Rel C γ C.w0 (sp.a.mk' nmJ sp.a.slots.length x) vals ->
  Calls P f vals C.w0 λe w'=>∃(γ':Gam) (rs:Array Y),e=.returned (if h:rs.size=1 then rs[0] else .tuple rs)/\Rel C γ' w' (sp.r.mk' nmJ sp.r.slots.length y) rs
def aC(P:Program)(f:FuncId):Prop:=∃fn,P.funcs[f]?=J fn/\fn.body.isSome=M/\(fn.name == "runtime.NumGoroutine")=false
section
variable{P:Program}{C C':Ctx}{γ γ':Gam}{h h':Heap}{w:E}{R:Type}{r:R}
theorem Rd.free{ok ok':X->Prop}:∀{t:Ty}{x:t.D}{cs:O Y},t.hasSl=false->Rd w ok t x cs->Rd w ok' t x cs
 | .int _,_,_,_,h=>h
 | .bool,_,_,_,h=>h
 | .str,_,_,_,h=>h
 | .sl _,_,_,hs,_=>by simp[Ty.hasSl] at hs
 | .nil,_,_,_,h=>h
 | .fn,_,_,hs,_=>by simp[Ty.hasSl] at hs
 | .pair a b,_,_,hs,⟨c1,c2,h,h1,h2⟩=>by
  simp only[Ty.hasSl,Bool.or_eq_false_iff] at hs;exact⟨c1,c2,h,h1.free hs.1,h2.free hs.2⟩
theorem Lc{nm nm':Nm}{cd:CD}{y:cd.T}{m m':X}{v:Y}(hv:av C γ h w (cd.mk nm y m).1 v)(tr:cd.shares=M->∀g,okb C γ h Z g->g<w.heap.size->okb C' γ' h' Z g)
  (he:∀p,p∈(cd.mk nm y m).2.1->h p.1=J p.2) (he':∀p,p∈(cd.mk nm' y m').2.1->h' p.1=J p.2) (hg:cd.isRow=M->γ' (nm' m').1=γ (nm m).1)
  (hb:∀i,cd.boxN=J i->(∃e l,h (nm i).1=J e/\e.ver=(nm i).2/\e.box=.cells l)/\(∃e l,h' (nm' i).1=J e/\e.ver=(nm' i).2/\e.box=.cells l)/\γ' (nm' i).1=γ (nm i).1)
  (hbr:∀p,p∈(cd.mk nm y m).2.1->dI C γ h w p.1 p.2.box) :
  av C' γ' h' w (cd.mk nm' y m').1 v/\∀p,p∈(cd.mk nm' y m').2.1->dI C' γ' h' w p.1 p.2.box:=by
 cases cd with
 |int k=>exact⟨hv,λp hp=>by simp[CD.mk] at hp⟩
 |bool=>exact⟨hv,λp hp=>by simp[CD.mk] at hp⟩
 |str=>exact⟨hv,λp hp=>by simp[CD.mk] at hp⟩
 |raw u=>exact⟨hv,λp hp=>by simp[CD.mk] at hp⟩
 |err=>exact⟨hv,λp hp=>by simp[CD.mk] at hp⟩
 |ifo t k=>exact⟨hv,λp hp=>by simp[CD.mk] at hp⟩
 |any=>exact⟨hv,λp hp=>by simp[CD.mk] at hp⟩
 |fn=>exact⟨⟨hv.1,hv.2.mono (NL _) λg ho hgs=>⟨rfl,tr rfl g ho hgs⟩⟩,λp hp=>by simp[CD.mk] at hp⟩
 |pp t=>
  obtain⟨g,p,x,ds,hvv,hx,ho,hg,hrd,hcc⟩:=hv.2;exact⟨⟨hv.1,g,p,x,ds,hvv,hx,tr rfl g ho hg,hg,hrd.mono (NL _) λg ho hgs=>⟨rfl,tr rfl g ho hgs⟩,hcc⟩,λp hp=>by simp[CD.mk] at hp⟩
 |sl t=>
  refine⟨⟨hv.1,RdS.iff.2 ((RdS.iff.1 hv.2).mono (NL _) λg ho hgs=>⟨rfl,tr rfl g ho hgs⟩)⟩,λp hp=>by simp[CD.mk] at hp⟩
 |slc t=>
  refine⟨⟨hv.1,RdS.iff.2 ((RdS.iff.1 hv.2.1).mono (NL _) λg ho hgs=>⟨rfl,tr rfl g ho hgs⟩),hv.2.2⟩,λp hp=>by simp[CD.mk] at hp⟩
 |row e t=>
  have h1:=he _ (List.mem_singleton_self _);have h2:=he' _ (List.mem_singleton_self _);have hgg:=hg rfl;refine⟨⟨hv.1,aT h2 rfl λn hn=>?_⟩,λp hp=>?_⟩;·simp only[Box.len] at hn;rw[hgg];exact hv.2.get h1 rfl n hn
  ·simp only[CD.mk,Ob] at hp;subst hp;have:=hbr _ (List.mem_singleton_self _);rcases this with⟨h0,hx⟩|⟨g,c,cur,hγ,hb,hc,hcm,hcs,hsz,hr⟩
   ·exact .inl ⟨by rw[hgg];exact h0,hx⟩
   ·refine .inr ⟨g,c,cur,by rw[hgg];exact hγ,hb,hc,hcm,hcs,hsz,λi x hx=>?_⟩;cases hsl:t.hasSl with
    |false=>exact(hr i x hx).free hsl
    |true=>exact(hr i x hx).mono (NL _) λg ho hgs=>⟨rfl,tr hsl g ho hgs⟩
 |ptr i off=>
  obtain⟨⟨e,l,h1,h2,h3⟩,⟨e',l',h1',h2',h3'⟩,hgg⟩:=hb i rfl;refine⟨⟨hv.1,aT h1' h2' λl'' _=>?_⟩,λp hp=>by simp[CD.mk] at hp⟩;rw[hgg];exact hv.2.get h1 h2 l h3
 |clr i fs=>
  obtain⟨⟨e,l,h1,h2,h3⟩,⟨e',l',h1',h2',h3'⟩,hgg⟩:=hb i rfl;refine⟨⟨hv.1,aT h1' h2' λl'' _=>?_⟩,λp hp=>by simp[CD.mk] at hp⟩;obtain⟨b,c,g,hγ,hvv,hcl⟩:=hv.2.get h1 h2 l h3;exact⟨b,c,g,by rw[hgg];exact hγ,hvv,λj f hj=>⟨tr rfl g (hcl j f hj).1 (hcl j f hj).2.1,(hcl j f hj).2⟩⟩
theorem dB(nm:Nm):∀(l:O CD) (y:TL l) (m:X),(mkL nm l y m).2.2=m+(l.filter CD.isRow).length/\(mkL nm l y m).2.1.map (·.1)=(List.range (l.filter CD.isRow).length).map (λj=>(nm (m+j)).1)/\(mkL nm l y m).1.length=l.length
 |[],_,m=>by simp[mkL]
 |c::l,y,m=>by
  have hc:(c.mk nm y.1 m).2.2=m+([c].filter CD.isRow).length/\(c.mk nm y.1 m).2.1.map (·.1)=(List.range ([c].filter CD.isRow).length).map (λj=>(nm (m+j)).1):=by
   cases c<;>simp[CD.mk,CD.isRow,List.filter]
  obtain⟨h1,h2,h3⟩:=dB nm l y.2 (m+([c].filter CD.isRow).length);have hf:((c::l).filter CD.isRow).length=([c].filter CD.isRow).length+(l.filter CD.isRow).length:=by
   rw[show c::l=[c]++l from rfl,List.filter_append,NP]
  simp only[mkL,hc.1];refine⟨by rw[h1,hf];omega,?_,by simp[h3]⟩;rw[OA,hc.2,h2,hf,List.range_add,OA,List.map_map];congr 1;apply List.map_congr_left;intro j _;simp[OE]
theorem CO{nm nm':Nm}:∀{l:O CD}{y:TL l}{m m':X}{vs:O Y},aj (av C γ h w) (mkL nm l y m).1 vs->(l.any CD.shares=M->∀g,okb C γ h Z g->g<w.heap.size->okb C' γ' h' Z g) ->
  (∀p,p∈(mkL nm l y m).2.1->h p.1=J p.2)->(∀p,p∈(mkL nm' l y m').2.1->h' p.1=J p.2)->(∀j,j<(l.filter CD.isRow).length->γ' (nm' (m'+j)).1=γ (nm (m+j)).1) ->
  (∀i c,c∈l->c.boxN=J i->(∃e l,h (nm i).1=J e/\e.ver=(nm i).2/\e.box=.cells l)/\(∃e l,h' (nm' i).1=J e/\e.ver=(nm' i).2/\e.box=.cells l)/\γ' (nm' i).1=γ (nm i).1) ->
  (∀p,p∈(mkL nm l y m).2.1->dI C γ h w p.1 p.2.box) ->
  aj (av C' γ' h' w) (mkL nm' l y m').1 vs/\∀p,p∈(mkL nm' l y m').2.1->dI C' γ' h' w p.1 p.2.box
 |[],_,_,_,vs,ha,_,_,_,_,_,_=>by
  cases vs with
  |nil=>exact⟨trivial,λp hp=>by simp[mkL] at hp⟩
  |cons _ _=>exact ha.elim
 |c::l,y,m,m',vs,ha,tr,he,he',hg,hb,hbr=>by
  cases vs with
  |nil=>exact ha.elim
  |cons v vs=>
   have hc1:(c.mk nm y.1 m).2.2=m+([c].filter CD.isRow).length:=by cases c<;>simp[CD.mk,CD.isRow,List.filter]
   have hc2:(c.mk nm' y.1 m').2.2=m'+([c].filter CD.isRow).length:=by cases c<;>simp[CD.mk,CD.isRow,List.filter]
   have hf:((c::l).filter CD.isRow).length=([c].filter CD.isRow).length+(l.filter CD.isRow).length:=by
    rw[show c::l=[c]++l from rfl,List.filter_append,NP]
   simp only[mkL,NV] at he he' hbr;obtain⟨g1,g2⟩:=Lc (nm:=nm) (nm':=nm') (cd:=c) (y:=y.1) (m:=m) (m':=m') ha.1 (λhs=>tr (by simp[hs])) (λp hp=>he p (.inl hp)) (λp hp=>he' p (.inl hp))
    (λhr=>by have:=hg 0 (by rw[hf];simp[hr];omega);simpa using this) (λi e=>hb i c (by simp) e) (λp hp=>hbr p (.inl hp))
   obtain⟨g3,g4⟩:=CO (nm:=nm) (nm':=nm') (l:=l) (y:=y.2) (m:=m+([c].filter CD.isRow).length) (m':=m'+([c].filter CD.isRow).length) (vs:=vs) (by have:=ha.2;rw[hc1] at this;exact this) (λhs=>tr (by simp[hs])) (λp hp=>he p (.inr (by rw[hc1];exact hp))) (λp hp=>he' p (.inr (by rw[hc2];exact hp)))
    (λj hj=>by have:=hg (([c].filter CD.isRow).length+j) (by omega);rwa [<- OE,<- OE] at this) (λi c hm e=>hb i c (by simp[hm]) e) (λp hp=>hbr p (.inr (by rw[hc1];exact hp)))
   simp only[mkL,hc2];exact⟨⟨g1,g3⟩,λp hp=>(NV.1 hp).elim (g2 p) (g4 p)⟩
theorem aO:∀{l:O (X×En)}{h:Heap}{k:X},k ∉ l.map (·.1)->l.foldl (λh p=>Heap.set h p.1 p.2) h k=h k
 |[],_,_,_=>rfl
 |p::l,h,k,hk=>by
  simp only[NY,NT,not_or] at hk;simp only[Oq];rw[aO hk.2,aW _ _ hk.1]
theorem qf:∀{l:O (X×En)}{h:Heap}{p:X×En},(l.map (·.1)).Nodup->p∈l->l.foldl (λh p=>Heap.set h p.1 p.2) h p.1=J p.2
 |q::l,h,p,hn,hp=>by
  simp only[NY,List.nodup_cons] at hn;simp only[Oq];rcases NT.1 hp with rfl|hp;·rw[aO hn.1,bH]
  ·exact qf hn.2 hp
theorem dU:∀{l:O (X×En)}{h:Heap}{k:X},k∈l.map (·.1)->∃p,p∈l/\p.1=k/\l.foldl (λh p=>Heap.set h p.1 p.2) h k=J p.2
 |q::l,h,k,hk=>by
  simp only[Oq];by_cases hm:k∈l.map (·.1);·obtain⟨p,h1,h2,h3⟩:=dU (h:=Heap.set h q.1 q.2) hm;exact⟨p,by simp[h1],h2,h3⟩
  ·simp only[NY,NT] at hk;have:=hk.resolve_right hm;subst this;exact⟨q,by simp,rfl,by rw[aO hm,bH]⟩
end
end Rv
namespace Rv
open Go
section
variable{P:Program}{C C':Ctx}{γ γ':Gam}{h h':Heap}{w w':E}{R:Type}{r:R}
def callee(C:Ctx)(γ:Gam)(h:Heap)(w:E)(bm keys deps:O X):Ctx where
 w0:=w
 own:=λg=>w.heap.size<=g\/∃k e c,k∈keys/\h k=J e/\e.box.live/\γ k=J (g,c)
 rd:=λg=>w.heap.size<=g\/(∃k e c,k∈keys/\h k=J e/\e.box.live/\γ k=J (g,c))\/(∃d,okb C γ h d g/\∀x,d=J x->x.1∈deps)\/∃k e c l,k∈deps/\h k=J e/\e.box=.cells l/\γ k=J (g,c)
 L:=C.L
 nl:=bm.length
 lent:=λi=>(bm[i]?).bind γ
theorem Iw(I:Inv C γ h w)(bm keys deps:O X):H6 (callee C γ h w bm keys deps) w where
 frame:=λ_ _ _=>rfl
 size:=NL _
 os:=rfl
 tape:=rfl
 output:=rfl
 new:=λ_ hg=>.inl hg
 rd:=λ_ hg=>hg.elim .inl (λh=>.inr (.inl h))
 laid:=I.laid
 stable:=λa b ha hab=>I.stable a b ha λg hno=>hab g λho=>hno (by
  rcases ho with ho|⟨k,e,c,_,hk,hl,hg⟩;·exact I.new g (Og I.size ho)
  ·exact I.own k e g c hk hl hg)
theorem jY{st:St}{a:Act}(R':Rel C γ w st a.tmps):∀{l:O Operand}{vs:O V},gU st l=J vs->aj (aZ C γ st.h w) vs (l.map a.eval)
 |[],vs,he=>by simp only[gU,ND] at he;subst he;trivial
 |x::l,vs,he=>by
  simp only[gU] at he;split at he
  ·rename_i v hv;split at he
   ·rename_i l' hl;simp only[ND] at he;subst he;exact⟨iG R' hv,jY R' hl⟩
   ·cases he
  ·cases he
theorem EJ{st:St}{tmps:Array Y}(R':Rel C γ w st tmps){vs:O V}{us:O Y}(ha:aj (aZ C γ st.h w) vs us):Rel C γ w ⟨vs,st.h⟩ us.toArray:=by
 refine⟨by simp[ha.length],λi v hi=>?_,R'.inv⟩;obtain⟨u,hu,hr⟩:=ha.get hi;simp_all
theorem JD{l:O V}{rs:Array Y}(hl:rs.size=l.length)(hs:∀i v,l[i]?=J v->aZ C γ h w v (rs.getD i undef))(hv:∀v,v∈l->∃x,v=.v x):aZ C γ h w (JC l) (if h:rs.size=1 then rs[0] else .tuple rs):=by
 have tup:rs.size≠1->aZ C γ h w (.tup (l.map V.toV1)) (.tuple rs):=λhne=>by
  refine⟨rs.toList,by simp,?_⟩;have:∀(l:O V) (m:O Y),l.length=m.length->(∀(i:X) v,l[i]?=J v->∃u,m[i]?=J u/\aZ C γ h w v u)->(∀v,v∈l->∃x,v=.v x)->aj (aI C γ h w) (l.map V.toV1) m:=by
   intro l
   induction l with
   |nil=>intro m hm _ _;cases m with
    |nil=>trivial
    |cons _ _=>simp at hm
   |cons v l ih=>
    intro m hm hh hx;cases m with
    |nil=>simp at hm
    |cons u m=>
     obtain⟨x,rfl⟩:=hx v (by simp);obtain⟨u',hu',hr⟩:=hh 0 _ rfl;simp only[Oh,ND] at hu';subst hu';exact⟨hr,ih m (by simpa using hm) (λi v hi=>by have:=hh (i+1) v (by simpa using hi);grind) λv hv=>hx v (by simp[hv])⟩
  simp_all [NS]
 match l,hl,hs,hv,tup with
 |[],hl,_,_,tup=>
  have h0:rs.size=0:=hl;rw[dif_neg (by omega)];exact tup (by omega)
 |[v],hl,hs,_,_=>
  have h1:rs.size=1:=hl;rw[dif_pos h1];show aZ C γ h w v _;have:=hs 0 v rfl;simpa[Array.getD,h1] using this
 |a::b::r,hl,_,_,tup=>
  have h2:rs.size=r.length+1+1:=hl;rw[dif_neg (by omega)];exact tup (by omega)
theorem bO:∀{sl:O (X×SD)}{l:O V}{cs:O Cell},(ax l sl cs).1.length=l.length
 |[],_,_=>rfl
 |(i,.c _)::sl,l,cs=>by simp only[ax];rw[bO];simp
 |(i,.agg _)::sl,l,cs=>by simp only[ax];rw[bO];simp
 |(i,.clo _ _)::sl,l,cs=>by simp only[ax];rw[bO];simp
theorem dD:∀{sl:O (X×SD)}{l:O V}{cs:O Cell}{i:X},i ∉ sl.map (·.1)->(ax l sl cs).1[i]?=l[i]?
 |[],_,_,_,_=>rfl
 |(j,.c _)::sl,l,cs,i,hi=>by
  simp only[NY,NT,not_or] at hi;simp only[ax];rw[dD hi.2,List.getElem?_set,B (λe=>hi.1 e.symm)]
 |(j,.agg _)::sl,l,cs,i,hi=>by
  simp only[NY,NT,not_or] at hi;simp only[ax];rw[dD hi.2,List.getElem?_set,B (λe=>hi.1 e.symm)]
 |(j,.clo _ _)::sl,l,cs,i,hi=>by
  simp only[NY,NT,not_or] at hi;simp only[ax];rw[dD hi.2,List.getElem?_set,B (λe=>hi.1 e.symm)]
theorem pM:∀{sl:O (X×SD)}{l:O V}{cs:O Cell}{i:X},(∀p,p∈sl->p.2.isV=M)->i∈sl.map (·.1)->i<l.length->∃x,(ax l sl cs).1[i]?=J (.v x)
 |(j,.c _)::sl,l,cs,i,hv,hi,hl=>by
  simp only[ax];by_cases hm:i∈sl.map (·.1);·exact pM (λp hp=>hv p (by simp[hp])) hm (by simpa using hl)
  simp_all [dD]
 |(j,.agg _)::sl,l,cs,i,hv,hi,hl=>by
  simp only[ax];by_cases hm:i∈sl.map (·.1);·exact pM (λp hp=>hv p (by simp[hp])) hm (by simpa using hl)
  simp_all [dD]
 |(j,.clo f ds)::sl,l,cs,i,hv,hi,hl=>by
  have:=hv (j,.clo f ds) (by simp);cases this
theorem fI{vals:Array Y}:∀{sl:O (X×SD)}{l:O V}{cs:O Cell},(sl.map (·.1)).Nodup->(∀i,i∈sl.map (·.1)->i<l.length)->(sl.flatMap λp=>p.2.cds).length<=cs.length ->
  (∀i v,(ax l sl cs).1[i]?=J v->aZ C γ h w v (vals.getD i undef)) ->
  aj (av C γ h w) (cs.take (sl.flatMap λp=>p.2.cds).length) (aV vals sl)/\dF vals sl/\(ax l sl cs).2=cs.drop (sl.flatMap λp=>p.2.cds).length
 |[],_,cs,_,_,hc,_=>⟨by simp only[List.flatMap_nil,Ol,List.take_zero];trivial,λi ds hm=>by simp at hm,by simp[ax]⟩
 |(i,.c d)::sl,l,cs,hn,hb,hc,hs=>by
  simp only[NY,List.nodup_cons] at hn;have e:(SD.c d).cds.length=1:=rfl;simp only[Oz,NP,e] at hc⊢;cases cs with
  |nil=>grind
  |cons c cs=>
   simp only[ax,List.headD_cons,List.tail_cons] at hs⊢;obtain⟨h1,h2,h3⟩:=fI (sl:=sl) (l:=l.set i (.v (.c c))) (cs:=cs) hn.2 (λj hj=>by grind) (by grind) hs;have h0:=hs i (.v (.c c)) (by simp_all [dD]);refine⟨?_,h2.cons trivial,?_⟩;·rw[Nat.add_comm,List.take_succ_cons];exact⟨h0,h1⟩
   grind
 |(i,.agg d)::sl,l,cs,hn,hb,hc,hs=>by
  simp only[NY,List.nodup_cons] at hn;have e:(SD.agg d).cds.length=d.length:=rfl;simp only[Oz,NP,e] at hc⊢;simp only[ax] at hs⊢;obtain⟨h1,h2,h3⟩:=fI (sl:=sl) (l:=l.set i (.v (.agg (cs.take d.length)))) (cs:=cs.drop d.length) hn.2 (λj hj=>by grind) (by grind) hs;obtain⟨us,hu,ha⟩:=hs i _ (by rw[dD hn.1,List.getElem?_set,zaa rfl,zaa (hb i (by simp))]);have hul:=ha.length;rw[OD] at hul;refine⟨?_,h2.cons ⟨us,hu,by omega⟩,by simp_all⟩;simp only[aV,hu,Value.cells];have:=ha.append h1
  grind
 |(i,.clo f d)::sl,l,cs,hn,hb,hc,hs=>by
  simp only[NY,List.nodup_cons] at hn;have e:(SD.clo f d).cds.length=d.length:=rfl;simp only[Oz,NP,e] at hc⊢;simp only[ax] at hs⊢;obtain⟨h1,h2,h3⟩:=fI (sl:=sl) (l:=l.set i (.clo f (cs.take d.length))) (cs:=cs.drop d.length) hn.2 (λj hj=>by grind) (by grind) hs;obtain⟨us,hu,ha⟩:=hs i _ (by rw[dD hn.1,List.getElem?_set,zaa rfl,zaa (hb i (by simp))]);have hul:=ha.length;rw[OD] at hul;refine⟨?_,h2.cons ⟨us,hu,by omega⟩,by simp_all⟩;simp only[aV,hu,oH];have:=ha.append h1
  grind
theorem kI{vals:Array Y}{sl:O (X×SD)}{l:O V}{cs:O Cell}(hn:(sl.map (·.1)).Nodup)(hb:∀i,i∈sl.map (·.1)->i<l.length)(hc:cs.length=(sl.flatMap λp=>p.2.cds).length)
  (hs:∀i v,(ax l sl cs).1[i]?=J v->aZ C γ h w v (vals.getD i undef)):aj (av C γ h w) cs (aV vals sl)/\dF vals sl:=by
 grind [fI,List.take_length]
theorem rA(nm:Nm):∀(i0:X) (bl:O (F X×O CD)) (cs:O Cell) (j:X),j<bl.length->∃l,((nm (i0+j)).1,(⟨(nm (i0+j)).2,0,.cells l⟩:En))∈aR nm i0 bl cs:=by
 intro i0 bl
 induction bl generalizing i0 with
 |nil=>grind
 |cons b bl ih=>
  intro cs j hj;obtain⟨p,ds⟩:=b;cases j with
  |zero=>simp_all [aR]
  |succ j=>
   obtain⟨l,hl⟩:=ih (i0+1) (cs.drop ds.length) j (by simpa using hj)
   grind [aR]
theorem qh(I:Inv C γ h w){nm:Nm}:∀{bl:O (F X×O CD)}{i:X}{cs:O Cell},cs.length=(bl.flatMap (·.2)).length->(∀p,p∈aR nm i bl cs->h p.1=J p.2) ->
  ∃more,gF γ h w bl ((List.range bl.length).map λj=>(nm (i+j)).1) more/\aj (av C γ h w) cs more.flatten
 |[],i,cs,hc,_=>by
  simp only[List.flatMap_nil,Ol,List.length_eq_zero_iff] at hc;subst hc;exact⟨[],trivial,trivial⟩
 |(q,ds)::bl,i,cs,hc,he=>by
  simp only[Oz,NP] at hc;simp only[aR] at he;have h0:=he _ OB;have hb:=I.box _ _ h0;obtain⟨g,us,T,hγ,hbl,ha⟩:=hb;obtain⟨more,h1,h2⟩:=qh I (nm:=nm) (bl:=bl) (i:=i+1) (cs:=cs.drop ds.length) (by grind) (λp hp=>he p (NU _ hp));have hul:=ha.length;rw[OD] at hul;refine⟨us.toList::more,?_,?_⟩
  ·rw[N7,List.range_succ_eq_map,NY,List.map_map];refine⟨⟨_,_,g,T,h0,rfl,hγ,by simpa using hbl,by omega⟩,?_⟩;have:(List.range bl.length).map ((λj=>(nm (i+j)).1) ∘ Nat.succ)=(List.range bl.length).map λj=>(nm (i+1+j)).1:=by
    grind [List.map_congr_left]
   grind
  ·simp only[List.flatten_cons];have:=ha.append h2;simp_all
theorem kS{deps:O X}{p:X×En}(hp:p∈bN h deps):p.1∈deps/\∃e a t xs,h p.1=J e/\e.box=.row a t xs/\p.2=⟨e.ver,e.dver,.pub t xs⟩:=by
 unfold bN at hp
 grind
theorem vL{deps:O X}{k:X}{e:En}{a:G}{t:Ty}{xs:O t.D}(hk:k∈deps)(he:h k=J e)(hb:e.box=.row a t xs):k∈(bN h deps).map (·.1):=by
 refine N8.2 ⟨(k,⟨e.ver,e.dver,.pub t xs⟩),List.mem_filterMap.2 ⟨k,hk,?_⟩,rfl⟩;obtain⟨v,dv,b⟩:=e
 grind
theorem BI{st:St}{a:Act}(R':Rel C γ w st a.tmps){sp:Spec}{ab:Abs sp.a.T}{d:X}{dst:F X}{y:sp.r.T}(hpl:sp.r.okRes ab.bm.length=M)(hb0:ab.bm.all (nJ st.h)=M)(hnk:((aS d sp.r).all λk=>!ab.keys.contains k)=M)
  (hkn:ab.keys.Nodup) (hdk:∀k,k∈ab.m.deps->k ∉ ab.keys) (hnb0:(!(sp.r.all.any CD.shares)||ab.m.deps.all (mE st.h))=M) (hbm:∀k,k∈ab.bm->∃e l,st.h k=J e/\e.box=.cells l)
  {γr:Gam} {rs:Array Y} (Rr:Rel (callee C γ st.h w ab.bm ab.keys ab.m.deps) γr w' (sp.r.mk' nmJ sp.r.slots.length y) rs) :
  ∃γ',Rel C γ' w' (st.app dst (gJ st d sp ab y)) (a.put dst (if h:rs.size=1 then rs[0] else .tuple rs)).tmps:=by
 have I:=R'.inv;have Ir:=Rr.inv;unfold Shape.okRes at hpl;simp only[NJ,NH] at hpl;obtain⟨⟨⟨⟨hnb,hpin⟩,hidx⟩,hptr⟩,hisv⟩:=hpl
 let nb:=sp.r.boxes.length
 let nr:=(sp.r.all.filter CD.isRow).length
 let nm2:=nmI st.h d ab.bm
 let M1:=sp.r.mkAll nmJ sp.r.slots.length y
 let M2:=sp.r.mkAll nm2 sp.r.slots.length y
 let rk:=ab.m.rows.filterMap id
 let pubs:=if sp.r.all.any CD.shares then bN st.h ab.m.deps else[]
 let kp:=if ab.keys.isEmpty then[] else lF st.h ab.m.deps
 let h2:Heap:=(kp++(pubs++(gy st.h rk++(M2.bs++M2.rs)))).foldl (λh p=>Heap.set h p.1 p.2) st.h
 have hnb':ab.bm.length=nb:=hnb.symm;have nmB:∀i k,ab.bm[i]?=J k->nm2 i=(k,match st.h k with|some e=>e.ver|none=>0):=λi k hi=>by
  show nmI st.h d ab.bm i=_;simp only[nmI,hi];rfl
 have nmR:∀j,nm2 (nb+j)=(16*d+(nb+j),st.h.next (16*d+(nb+j))):=λj=>by
  show nmI st.h d ab.bm (nb+j)=_;unfold nmI;rw[List.getElem?_eq_none (by omega)];rfl
 have kr1:M1.rs.map (·.1)=(List.range nr).map (λj=>(nmJ (nb+j)).1):=(dB nmJ sp.r.all y sp.r.boxes.length).2.1;have kr2:M2.rs.map (·.1)=aS d sp.r:=by
  have:=(dB nm2 sp.r.all y sp.r.boxes.length).2.1;rw[show M2.rs=(mkL nm2 sp.r.all y sp.r.boxes.length).2.1 from rfl,this];unfold aS;apply List.map_congr_left;intro j _;rw[nmR j]
 have kb1:M1.bs.map (·.1)=(List.range nb).map (λj=>(nmJ j).1):=by
  have:=gz nmJ 0 sp.r.boxes (ax (List.replicate sp.r.slots.length V.dead) sp.r.slots (mkL nmJ sp.r.all y sp.r.boxes.length).1).2;simp only[Nat.zero_add] at this;exact this
 have kb2:M2.bs.map (·.1)=ab.bm:=by
  have:=gz nm2 0 sp.r.boxes (ax (List.replicate sp.r.slots.length V.dead) sp.r.slots (mkL nm2 sp.r.all y sp.r.boxes.length).1).2;simp only[Nat.zero_add] at this;refine Eq.trans this ?_;apply List.ext_getElem?;intro i;by_cases hi:i<ab.bm.length
  ·have h1:ab.bm[i]?=J ab.bm[i]:=by simp[hi]
   rw[OI,List.getElem?_range (by omega),OC,nmB i _ h1,h1]
  ·rw[List.getElem?_eq_none (by simpa using by omega),List.getElem?_eq_none (by omega)]
 have hr1:(sp.r.mk' nmJ sp.r.slots.length y).h=Heap.ofList (M1.bs++M1.rs):=rfl;have nd1:((M1.bs++M1.rs).map (·.1)).Nodup:=by
  rw[OA,kb1,kr1];have:(List.range (nb+nr)).map (λj=>(nmJ j).1)=(List.range nb).map (λj=>(nmJ j).1)++(List.range nr).map (λj=>(nmJ (nb+j)).1):=by
   rw[List.range_add,OA,List.map_map];rfl
  rw[<- this];exact List.Pairwise.map _ (λi j e e'=>e (by simp only[nmJ] at e';omega)) List.nodup_range
 have hnk':∀k,k∈aS d sp.r->k ∉ ab.keys:=λk hk=>by
  have:=Oa.1 hnk k hk;simpa using this
 have ndk:(aS d sp.r).Nodup:=by
  unfold aS;exact List.Pairwise.map _ (λi j e e'=>e (by omega)) List.nodup_range
 have bmk:∀k,k∈ab.bm->k∈ab.keys:=λk hk=>List.mem_append_left _ hk
 have rkk:∀k,k∈rk->k∈ab.keys:=λk hk=>List.mem_append_right _ hk
 have hbrk:∀k,k∈ab.bm->k ∉ rk:=λk h1 h2=>by
  have:=(List.nodup_append.1 hkn).2.2 k h1 k h2;exact this rfl
 have nd2:((M2.bs++M2.rs).map (·.1)).Nodup:=by
  rw[OA,kb2,kr2,List.nodup_append];refine⟨(List.nodup_append.1 hkn).1,ndk,λk h1 k' h2 e=>?_⟩;subst e;exact hnk' k h2 (bmk k h1)
 have hnew:∀p,p∈M2.bs++M2.rs->h2 p.1=J p.2:=λp hp=>by
  show(kp++(pubs++(gy st.h rk++(M2.bs++M2.rs)))).foldl _ st.h p.1=_;rw[List.foldl_append,List.foldl_append,List.foldl_append];exact qf nd2 hp
 have pubm:∀p,p∈pubs->sp.r.all.any CD.shares=M/\p.1∈ab.m.deps/\∃e a t xs,st.h p.1=J e/\e.box=.row a t xs/\p.2=⟨e.ver,e.dver,.pub t xs⟩:=λp hp=>by
  by_cases hs:sp.r.all.any CD.shares=M;·simp only[pubs,hs,if_true] at hp;exact⟨hs,kS hp⟩
  ·simp only[pubs,hs] at hp;simp at hp
 have kpm:∀p,p∈kp->st.h p.1=J p.2:=λp hp=>by
  by_cases hs:ab.keys.isEmpty=M;·simp only[kp,hs,if_true] at hp;simp at hp
  ·simp only[kp,hs] at hp;have hp:p∈lF st.h ab.m.deps:=by simpa using hp
   obtain⟨k,_,hk⟩:=List.mem_filterMap.1 hp;obtain⟨e,he,hpe⟩:=Option.map_eq_some_iff.1 hk;subst hpe;exact he
 have hkp:∀k,kp.foldl (λh p=>Heap.set h p.1 p.2) st.h k=st.h k:=λk=>by
  by_cases hm:k∈kp.map (·.1);·obtain⟨p,h3,rfl,h5⟩:=dU (h:=st.h) hm;rw[h5,kpm p h3]
  ·exact aO hm
 have hcase:∀k,k ∉ ab.bm->k ∉ aS d sp.r->(h2 k=st.h k/\k ∉ ab.keys)\/(k∈rk/\h2 k=J ⟨st.h.next k,0,.gone⟩) \/
   ∃e a t xs,sp.r.all.any CD.shares=M/\k∈ab.m.deps/\st.h k=J e/\e.box=.row a t xs/\h2 k=J ⟨e.ver,e.dver,.pub t xs⟩:=λk hkb hkn'=>by
  have h0:h2 k=(gy st.h rk).foldl (λh p=>Heap.set h p.1 p.2) (pubs.foldl (λh p=>Heap.set h p.1 p.2) (kp.foldl (λh p=>Heap.set h p.1 p.2) st.h)) k:=by
   show(kp++(pubs++(gy st.h rk++(M2.bs++M2.rs)))).foldl _ st.h k=_;rw[List.foldl_append,List.foldl_append,List.foldl_append];exact aO (by rw[OA,kb2,kr2,NV];exact λh=>h.elim hkb hkn')
  by_cases hr:k∈rk;·right;left;refine⟨hr,?_⟩;have hm:k∈(gy st.h rk).map (·.1):=N8.2 ⟨(k,⟨st.h.next k,0,.gone⟩),N8.2 ⟨k,hr,rfl⟩,rfl⟩;obtain⟨p,h3,rfl,h5⟩:=dU (h:=pubs.foldl (λh p=>Heap.set h p.1 p.2) (kp.foldl (λh p=>Heap.set h p.1 p.2) st.h)) hm;rw[h0,h5];obtain⟨k',_,hp⟩:=N8.1 h3;subst hp;rfl
  ·have hm:k ∉ (gy st.h rk).map (·.1):=λhm=>by
    obtain⟨p,h3,rfl⟩:=N8.1 hm;obtain⟨k',hk',hp⟩:=N8.1 h3;subst hp;exact hr hk'
   rw[h0,aO hm];by_cases hp:k∈pubs.map (·.1);·obtain⟨p,h3,rfl,h5⟩:=dU (h:=kp.foldl (λh p=>Heap.set h p.1 p.2) st.h) hp;obtain⟨hs,h6,e,a,t,xs,h7,h8,h9⟩:=pubm p h3;exact .inr (.inr ⟨e,a,t,xs,hs,h6,h7,h8,by rw[h5,h9]⟩)
   ·refine .inl ⟨by rw[aO hp,hkp],λhk=>?_⟩;rcases NV.1 hk with hk|hk
    ·exact hkb hk
    ·exact hr hk
 have hboxc:∀i k,ab.bm[i]?=J k->i<nb/\∃e l0 l,st.h k=J e/\e.dver=0/\e.box=.cells l0/\h2 k=J ⟨e.ver,0,.cells l⟩:=λi k hi=>by
  have hlt:i<nb:=by have:=(NS.1 hi).1;omega
  obtain⟨l,hl⟩:=rA nm2 0 sp.r.boxes (ax (List.replicate sp.r.slots.length V.dead) sp.r.slots (mkL nm2 sp.r.all y sp.r.boxes.length).1).2 i hlt;have h3:=hnew _ (List.mem_append_left _ hl);rw[Nat.zero_add,nmB i k hi] at h3;simp only at h3;obtain⟨e,l0,h4,h5⟩:=hbm k (List.mem_of_getElem? hi);rw[h4] at h3;have h6:=Oa.1 hb0 k (List.mem_of_getElem? hi);unfold nJ at h6;rw[h4] at h6;exact⟨hlt,e,l0,l,h4,by simpa using h6,h5,h3⟩
 obtain⟨γn,hγ1,_⟩:=uV (λj=>16*d+(nb+j)) (λi j e=>by simp at e;omega) (λj=>γr (nmJ (nb+j)).1) Z nr
 let γ':Gam:=λk=>if k∈aS d sp.r then γn k else γ k
 have newk:∀k,k∈aS d sp.r->∃j,j<nr/\k=16*d+(nb+j):=λk hk=>by
  obtain⟨j,hj,rfl⟩:=N8.1 hk;exact⟨j,by simpa using hj,rfl⟩
 have knew:∀j,j<nr->16*d+(nb+j)∈aS d sp.r:=λj hj=>N8.2 ⟨j,by simpa using hj,rfl⟩
 have hγnew:∀j,j<nr->γ' (16*d+(nb+j))=γr (nmJ (nb+j)).1:=λj hj=>by
  simp only[γ',zaa (knew j hj)];exact hγ1 j hj
 have hγold:∀k,k ∉ aS d sp.r->γ' k=γ k:=λk hk=>by simp only[γ',B hk]
 have hbn:∀k,k∈ab.bm->k ∉ aS d sp.r:=λk h1 h2=>hnk' k h2 (bmk k h1)
 have entB:∀i,i<nb->∃l,(sp.r.mk' nmJ sp.r.slots.length y).h (nmJ i).1=J ⟨0,0,.cells l⟩:=λi hi=>by
  obtain⟨l,hl⟩:=rA nmJ 0 sp.r.boxes (ax (List.replicate sp.r.slots.length V.dead) sp.r.slots (mkL nmJ sp.r.all y sp.r.boxes.length).1).2 i hi;rw[Nat.zero_add] at hl;exact⟨l,by rw[hr1];exact gp nd1 (List.mem_append_left _ hl)⟩
 have hγlent:∀i k,ab.bm[i]?=J k->γr (nmJ i).1=γ k:=λi k hi=>by
  have hlt:i<nb:=(hboxc i k hi).1;obtain⟨e,he,hv⟩:=Ir.lent i (by show i<ab.bm.length;omega);obtain⟨l,hl⟩:=entB i hlt;rw[hl] at he;simp only[ND] at he;subst he;rw[hv rfl];show(ab.bm[i]?).bind γ=_;rw[hi];rfl
 have shapeRow:∀(nm nm':Nm) (l:O CD) (x:TL l) (m m':X) (j:X) (p:X×En),(mkL nm l x m).2.1[j]?=J p->∃p',(mkL nm' l x m').2.1[j]?=J p'/\p'.2.box=p.2.box/\p.2.box.live:=by
  intro nm nm' l
  induction l with
  |nil=>intro x m m' j p hp;simp[mkL] at hp
  |cons c l ih=>
   intro x m m' j p hp;simp only[mkL] at hp⊢;cases c with
   |row e t=>
    cases j with
    |zero=>
     simp only[CD.mk,List.cons_append,Oc,Oh,ND] at hp⊢;subst hp;exact⟨_,rfl,rfl,trivial⟩
    |succ j=>
     simp only[CD.mk,List.cons_append,Oc,List.getElem?_cons_succ] at hp⊢;exact ih x.2 _ _ j p hp
   |_=>simp only[CD.mk,Oc] at hp⊢;exact ih x.2 _ _ j p hp
 have liveR:∀j,j<nr->∃e,(sp.r.mk' nmJ sp.r.slots.length y).h (nmJ (nb+j)).1=J e/\e.box.live:=λj hj=>by
  have hlen:M1.rs.length=nr:=by have:=zab List.length kr1;simpa using this
  have h3:M1.rs[j]?=J M1.rs[j]:=by simp
  have h4:=zab (λl=>l[j]?) kr1;simp only[OI,h3,OC,List.getElem?_range hj] at h4;simp only[ND] at h4;obtain⟨p',_,_,h5⟩:=shapeRow nmJ nmJ sp.r.all y sp.r.boxes.length sp.r.boxes.length j _ h3;exact⟨_,by rw[hr1,<- h4];exact gp nd1 (List.mem_append_right _ (List.mem_of_getElem? h3)),h5⟩
 have newblk:∀j g c,j<nr->γr (nmJ (nb+j)).1=J (g,c)->w.heap.size<=g\/∃k e c',k∈rk/\st.h k=J e/\e.box.live/\γ k=J (g,c'):=λj g c hj hγ=>by
  obtain⟨e,h3,h4⟩:=liveR j hj;rcases Ir.own _ e g c h3 h4 hγ with h5|⟨k,e',c',hk,h6,h7,h8⟩;·exact .inl h5
  ·rcases NV.1 hk with hk|hk
   ·obtain⟨i,hi⟩:=List.mem_iff_getElem?.1 hk;have h9:=hγlent i k hi;obtain⟨l,hl⟩:=entB i (hboxc i k hi).1;have:=Ir.inj _ _ _ _ g c' c hl trivial h3 h4 (h9.trans h8) hγ;have hlt:=(hboxc i k hi).1;simp only[nmJ] at this;omega
   ·exact .inr ⟨k,e',c',hk,h6,h7,h8⟩
 have verR:∀p,p∈M2.rs->p.2.ver=st.h.next p.1:=λp hp=>by
  have gen:∀(l:O CD) (x:TL l) (m:X) (p:X×En),nb<=m->p∈(mkL nm2 l x m).2.1->p.2.ver=st.h.next p.1:=by
   intro l
   induction l with
   |nil=>intro x m p _ hp;simp[mkL] at hp
   |cons c l ih=>
    intro x m p hm hp;simp only[mkL,NV] at hp;have hm':nb<=(c.mk nm2 x.1 m).2.2:=by cases c<;>simp[CD.mk]<;>omega
    rcases hp with hp|hp;·cases c<;>simp[CD.mk] at hp;subst hp;have:=nmR (m-nb);rw[show nb+(m-nb)=m by omega] at this;rw[this]
    ·exact ih _ _ p hm' hp
  exact gen _ _ _ p (NL _) hp
 have ownFrame:∀g,g<w.heap.size->(∀k e c,k∈ab.keys->st.h k=J e->e.box.live->γ k≠J (g,c))->w'.heap[g]?=w.heap[g]?:=λg hg hno=>
  Ir.frame g hg (by
   simp only[callee,not_or,not_exists];exact⟨by omega,λk e c ⟨hk,h3,h4,h5⟩=>hno k e c hk h3 h4 h5⟩)
 have liveOld:∀k e g c,k ∉ aS d sp.r->h2 k=J e->e.box.live->γ' k=J (g,c)->∃e0,st.h k=J e0/\e0.box.live/\γ k=J (g,c)/\(k∈ab.bm\/(k ∉ ab.keys/\e=e0)):=λk e g c hm hk hl hγ=>by
  rw[hγold k hm] at hγ;by_cases hb:k∈ab.bm;·obtain⟨i,hi⟩:=List.mem_iff_getElem?.1 hb;obtain⟨_,e0,l0,l,h4,_,h6,_⟩:=hboxc i k hi;exact⟨e0,h4,by rw[h6];trivial,hγ,.inl hb⟩
  ·rcases hcase k hb hm with⟨h3,h4⟩|⟨_,h4⟩|⟨e0,a0,t,xs,hs,hdp,h4,h5,h6⟩
   ·exact⟨e,by rw[<- h3];exact hk,hl,hγ,.inr ⟨h4,rfl⟩⟩
   ·rw[hk] at h4;simp only[ND] at h4;subst h4;exact hl.elim
   ·rw[hk] at h6;simp only[ND] at h6;subst h6;exact hl.elim
 have T:bP C γ st.h w C γ' h2 w':=by
  refine⟨Ir.size,λk e hk=>?_,λg hg H=>?_,λk e' c g hk hl hγ hg=>?_,λ_ _ h=>h,λ_ h=>h⟩
  ·by_cases hm:k∈aS d sp.r
   ·have hm':=hm;rw[<- kr2] at hm';obtain⟨p,hp,rfl⟩:=N8.1 hm';refine⟨p.2,hnew p (List.mem_append_right _ hp),.inl ?_⟩;rw[verR p hp];exact jO hk
   ·by_cases hb:k∈ab.bm
    ·obtain⟨i,hi⟩:=List.mem_iff_getElem?.1 hb;obtain⟨_,e0,l0,l,h4,h5,h6,h7⟩:=hboxc i k hi;rw[hk] at h4;simp only[ND] at h4;subst h4;exact⟨_,h7,.inr ⟨rfl,hγold k hm,by unfold Alike;rw[h6];exact h5.symm⟩⟩
    ·rcases hcase k hb hm with⟨h3,_⟩|⟨_,h4⟩|⟨e0,a0,t,xs,hs,hdp,h4,h5,h6⟩
     ·exact⟨e,by rw[h3];exact hk,.inr ⟨rfl,hγold k hm,Alike.refl e⟩⟩
     ·exact⟨_,h4,.inl (jO hk)⟩
     ·rw[hk] at h4;simp only[ND] at h4;subst h4;exact⟨_,h6,.inr ⟨rfl,hγold k hm,by unfold Alike;rw[h5];exact⟨⟨rfl,rfl⟩,rfl⟩⟩⟩
  ·refine ownFrame g hg λk e c hk h3 h4 h5=>?_
   obtain⟨h6,e',h7,h8,_⟩:=H k e c h3 h4 h5;have hm:k ∉ aS d sp.r:=λhm=>hnk' k hm hk
   by_cases hb:k∈ab.bm;·obtain⟨i,hi⟩:=List.mem_iff_getElem?.1 hb;obtain⟨_,e0,l0,l,h9,_,h10,_⟩:=hboxc i k hi;rw[h3] at h9;simp only[ND] at h9;subst h9;rw[h10] at h6;exact h6
   ·rcases hcase k hb hm with⟨_,h9⟩|⟨_,h9⟩|⟨e0,a0,t,xs,hs,hdp,h9,_⟩
    ·exact h9 hk
    ·rw[h7] at h9;simp only[ND] at h9;subst h9;have:=jO h3;simp only at h8;omega
    ·exact hdk k hdp hk
  ·by_cases hm:k∈aS d sp.r
   ·obtain⟨j,hj,rfl⟩:=newk k hm;rw[hγnew j hj] at hγ;rcases newblk j g c hj hγ with h3|⟨k0,e0,c0,h3,h4,h5,h6⟩
    ·omega
    ·refine⟨k0,e0,c0,h4,h5,h6,.inr ?_⟩;have hm0:k0 ∉ aS d sp.r:=λhm0=>hnk' k0 hm0 (rkk k0 h3)
     have hb0':k0 ∉ ab.bm:=λhb=>hbrk k0 hb h3
     rcases hcase k0 hb0' hm0 with⟨_,h9⟩|⟨_,h9⟩|⟨_,_,_,_,_,hdp,_⟩;·exact absurd (rkk k0 h3) h9
     ·exact⟨_,h9,jO h4⟩
     ·exact absurd (rkk k0 h3) (hdk k0 hdp)
   ·obtain⟨e0,h3,h4,h5,_⟩:=liveOld k e' g c hm hk hl hγ;exact⟨k,e0,c,h3,h4,h5,.inl rfl⟩
 have tr:sp.r.all.any CD.shares=M->∀g,okb (callee C γ st.h w ab.bm ab.keys ab.m.deps) γr (sp.r.mk' nmJ sp.r.slots.length y).h Z g->g<w'.heap.size->okb C γ' h2 Z g:=by
  intro hs g ho _;have nob:¬ ∃k e c l,k∈ab.m.deps/\st.h k=J e/\e.box=.cells l/\γ k=J (g,c):=λ⟨k,e,c,l,h3,h4,h5,_⟩=>by
   rw[hs,Bool.not_true,Bool.false_or] at hnb0;have:=Oa.1 hnb0 k h3;obtain⟨v0,d0,b0⟩:=e;simp only at h5;subst h5;simp only[mE,h4] at this;cases this
  have hrd:C.rd g:=by
   rcases ho.1 with h3|⟨k,e,c,hk,h3,h4,h5⟩|⟨dd,h3,_⟩|h3;·exact I.rd g (I.new g (Og I.size h3))
   ·exact I.rd g (I.own k e g c h3 h4 h5)
   ·exact h3.1
   ·exact absurd h3 nob
  refine⟨hrd,λk e' c hk hl hγ=>?_⟩;by_cases hm:k∈aS d sp.r;·obtain⟨j,hj,rfl⟩:=newk k hm;rw[hγnew j hj] at hγ;obtain⟨e,h3,h4⟩:=liveR j hj;have:=(ho.2 _ e c h3 h4 hγ).1;simp at this
  ·obtain⟨e0,h3,h4,h5,h6⟩:=liveOld k e' g c hm hk hl hγ;rcases h6 with hb|⟨hnk0,rfl⟩
   ·obtain⟨i,hi⟩:=List.mem_iff_getElem?.1 hb;obtain⟨l,hl'⟩:=entB i (hboxc i k hi).1;have:=(ho.2 _ _ c hl' trivial ((hγlent i k hi).trans h5)).1;simp at this
   ·have hlt:=ig I h3 hl h5;rcases ho.1 with h7|⟨k',e1,c',hk',h7,h8,h9⟩|⟨dd,h7,h8⟩|h7
    rotate_left 3
    ·exact absurd h7 nob
    ·omega
    ·have:=I.inj k k' e' e1 g c c' h3 h4 h7 h8 h5 h9;subst this;exact absurd hk' hnk0
    ·obtain⟨h9,h10⟩:=h7.2 k e' c h3 hl h5;have hkd:=h8 _ h9;simp only at hkd;cases hb:e'.box with
     |row a0 t xs=>
      exfalso;have hpub:=vL (h:=st.h) hkd h3 hb;have hbk:k ∉ ab.bm:=λh=>hnk0 (bmk k h)
      rcases hcase k hbk hm with⟨h11,_⟩|⟨h11,_⟩|⟨_,_,_,_,_,_,_,_,h14⟩
      ·have hpm:k∈pubs.map (·.1):=by simp only[pubs,hs,if_true];exact hpub
       have h0:h2 k=pubs.foldl (λh p=>Heap.set h p.1 p.2) (kp.foldl (λh p=>Heap.set h p.1 p.2) st.h) k:=by
        show(kp++(pubs++(gy st.h rk++(M2.bs++M2.rs)))).foldl _ st.h k=_;rw[List.foldl_append,List.foldl_append,List.foldl_append];rw[aO (by rw[OA,kb2,kr2,NV];exact λh=>h.elim hbk hm)];refine aO λhm'=>?_
        obtain⟨p,h12,rfl⟩:=N8.1 hm';obtain⟨k'',hk'',hp⟩:=N8.1 h12;subst hp;exact hnk0 (rkk _ hk'')
       obtain⟨p,h12,rfl,h13⟩:=dU (h:=kp.foldl (λh p=>Heap.set h p.1 p.2) st.h) hpm;obtain⟨_,_,e2,a2,t2,xs2,_,_,h15⟩:=pubm p h12;rw[h13,hk] at h0;simp only[ND] at h0;rw[h0,h15] at hl;exact hl.elim
      ·exact hnk0 (rkk k h11)
      ·rw[hk] at h14;simp only[ND] at h14;rw[h14] at hl;exact hl.elim
     |_=>rw[hb] at h10;exact h10.elim
 let S:=(sp.r.slots.flatMap λp=>p.2.cds).length
 have hlenA:(mkL nmJ sp.r.all y sp.r.boxes.length).1.length=S+(sp.r.boxes.flatMap (·.2)).length:=by
  rw[(dB nmJ sp.r.all y sp.r.boxes.length).2.2];unfold Shape.all;rw[NP]
 have hnds:(sp.r.slots.map (·.1)).Nodup:=by rw[hidx];exact List.nodup_range
 have hlt:∀i,i∈sp.r.slots.map (·.1)->i<(List.replicate sp.r.slots.length V.dead).length:=λi hi=>by
  rw[hidx] at hi;simpa using hi
 obtain⟨hcS,hok,hrest⟩:=fI (cs:=(mkL nmJ sp.r.all y sp.r.boxes.length).1) hnds hlt (by omega) Rr.slot;have hbs1:M1.bs=aR nmJ 0 sp.r.boxes ((mkL nmJ sp.r.all y sp.r.boxes.length).1.drop S):=by
  show aR nmJ 0 sp.r.boxes (ax _ _ _).2=_;rw[hrest]
 obtain⟨more,hmore,hcB⟩:=qh Ir (nm:=nmJ) (bl:=sp.r.boxes) (i:=0) (cs:=(mkL nmJ sp.r.all y sp.r.boxes.length).1.drop S) (by rw[List.length_drop];omega) (λp hp=>by
  rw[hr1];exact gp nd1 (List.mem_append_left _ (by rw[hbs1];exact hp)))
 have hcR:aj (av (callee C γ st.h w ab.bm ab.keys ab.m.deps) γr (sp.r.mk' nmJ sp.r.slots.length y).h w') (mkL nmJ sp.r.all y sp.r.boxes.length).1 (aV rs sp.r.slots++more.flatten):=by
  have:=hcS.append hcB
  rwa [List.take_append_drop] at this
 obtain⟨hcN,hbN⟩:=CO (nm':=nm2) (γ':=γ') (h':=h2) (C':=C) (m':=sp.r.boxes.length) hcR tr (λp hp=>by rw[hr1];exact gp nd1 (List.mem_append_right _ hp)) (λp hp=>hnew p (List.mem_append_right _ hp))
  (λj hj=>by
   rw[nmR j];exact hγnew j hj)
  (λi c hm hcb=>by
   have:=CD.ptrB_lt hcb (Oa.1 hptr _ hm);have hi:ab.bm[i]?=J ab.bm[i]:=by simp[this]
   obtain⟨h3,e,l0,l,h4,_,_,h7⟩:=hboxc i _ hi;obtain⟨l',hl'⟩:=entB i h3;refine⟨⟨_,l',hl',rfl,rfl⟩,⟨⟨e.ver,0,.cells l⟩,l,?_,?_,rfl⟩,?_⟩;·rw[nmB i _ hi];exact h7
   ·rw[nmB i _ hi];simp only[h4]
   ·rw[nmB i _ hi,hγold _ (hbn _ (List.mem_of_getElem? hi))];exact(hγlent i _ hi).symm)
  (λp hp=>Ir.box p.1 p.2 (by rw[hr1];exact gp nd1 (List.mem_append_right _ hp)))
 obtain⟨hs1,hs2,hs3⟩:=bK (C:=C) (γ:=γ') (h:=h2) (w:=w') (vals:=rs) (sl:=sp.r.slots) (l:=List.replicate sp.r.slots.length V.dead) (rest:=more.flatten) hok (λi v hi=>by
   rw[List.getElem?_replicate] at hi;split at hi;·simp only[ND] at hi;subst hi;trivial
   ·cases hi) hcN
 have hboxN:∀p,p∈M2.bs->dI C γ' h2 w' p.1 p.2.box:=lM (C':=C) (γ':=γ') (h':=h2) (nm:=nm2) (i:=0) (rest:=[]) hmore (λj k hj=>by
   simp only[OI,Option.map_eq_some_iff] at hj;obtain⟨j',hj',rfl⟩:=hj;have hjl:j<nb:=by have:=(NS.1 hj').1;simpa using this
   rw[List.getElem?_range hjl] at hj';simp only[ND] at hj';subst hj';have hi:ab.bm[j]?=J ab.bm[j]:=by simp[show j<ab.bm.length by omega]
   rw[Nat.zero_add,nmB j _ hi,hγold _ (hbn _ (List.mem_of_getElem? hi))];exact(hγlent j _ hi).symm) (by rw[N9];exact hs3)
 have hrs:rs.size=M2.s.length:=by
  rw[Rr.size];show(ax _ _ _).1.length=(ax _ _ _).1.length;rw[bO,bO]
 have hres:aZ C γ' h2 w' (JC M2.s) (if h:rs.size=1 then rs[0] else .tuple rs):=by
  refine JD hrs hs2 λv hv=>?_
  obtain⟨i,hi,rfl⟩:=List.getElem_of_mem hv;have hil:i<sp.r.slots.length:=by have:M2.s.length=_:=hs1;rw[OH] at this;omega
  obtain⟨x,hx⟩:=pM (sl:=sp.r.slots) (l:=List.replicate sp.r.slots.length V.dead) (cs:=(mkL nm2 sp.r.all y sp.r.boxes.length).1) (i:=i) (λp hp=>Oa.1 hisv p hp) (by rw[hidx];simpa using hil) (by simpa using hil);have:M2.s[i]?=J (.v x):=hx;rw[NQ hi] at this;simp only[ND] at this;exact⟨x,this⟩
 have S':Step C w w':=⟨Ir.size,λg hg hno=>ownFrame g hg λk e c _ h3 h4 h5=>hno (I.own k e g c h3 h4 h5),Ir.os,Ir.tape,Ir.output⟩
 have keepBlk:∀k e g c,k ∉ ab.keys->st.h k=J e->e.box.live->γ k=J (g,c)->w'.heap[g]?=w.heap[g]?:=λk e g c hk h3 h4 h5=>
  ownFrame g (ig I h3 h4 h5) λk' e' c' hk' h6 h7 h8=>by
   have:=I.inj k k' e e' g c c' h3 h4 h6 h7 h5 h8;subst this;exact hk hk'
 have I':Inv C γ' h2 w':=by
  refine I.step S' T (λk e hk=>?_) (λk k' e e' g c c' hk hl hk' hl' h1 h1'=>?_) (λk e g c hk hl h1=>?_)
  ·by_cases hm:k∈aS d sp.r
   ·have hm':=hm;rw[<- kr2] at hm';obtain⟨p,hp,rfl⟩:=N8.1 hm';have:=hnew p (List.mem_append_right _ hp);rw[hk] at this;simp only[ND] at this;subst this;exact hbN p hp
   ·by_cases hb:k∈ab.bm
    ·have hb':=hb;rw[<- kb2] at hb';obtain⟨p,hp,rfl⟩:=N8.1 hb';have:=hnew p (List.mem_append_left _ hp);rw[hk] at this;simp only[ND] at this;subst this;exact hboxN p hp
    ·rcases hcase k hb hm with⟨h3,hnk0⟩|⟨_,h4⟩|⟨e0,a0,t,xs,hs,hdp,h4,h5,h6⟩
     ·rw[h3] at hk;exact dI.step T (I.box k e hk) (hγold k hm) λhl g c hγ=>keepBlk k e g c hnk0 hk hl hγ
     ·rw[hk] at h4;simp only[ND] at h4;subst h4;trivial
     ·rw[hk] at h6;simp only[ND] at h6;subst h6;have hrow:∀v,eX (γ k) xs.length v->Rd w' (okb C γ' h2 Z) (.sl t) xs [v]:=λv hv=>by
       obtain⟨A,c,hv',hle,hx⟩:=I.row h4 h5 (NL _) hv;rw[List.take_length] at hv' hle hx;refine RdS.iff.1 ⟨A,c,hv',hle,λi x hi=>?_⟩;obtain⟨g,o,ds,hA,ho,hg,hrd,hcell⟩:=hx i x hi;have hfr:w'.heap[g]?=w.heap[g]?:=ownFrame g hg λk' e' c' hk' h6 h7 h8=>by
        obtain⟨h9,_⟩:=ho.2 k' e' c' h6 h7 h8;simp only[ND,NI] at h9;obtain⟨rfl,_,_⟩:=h9;exact hdk _ hdp hk'
       refine⟨g,o,ds,hA,⟨ho.1,λk' e' c' hk' hl' hγ'=>?_⟩,Ot hg Ir.size,hrd.mono T.sz λg ho hg=>T.okb (d:=Z) trivial ho hg,λj u hj=>(World.cell?_of_block hfr).trans (hcell j u hj)⟩;by_cases hm':k'∈aS d sp.r
       ·obtain⟨j,hj,rfl⟩:=newk k' hm';rw[hγnew j hj] at hγ';rcases newblk j g c' hj hγ' with h7|⟨k0,e1,c1,h7,h8,h9,h10⟩
        ·omega
        ·obtain⟨h11,_⟩:=ho.2 k0 e1 c1 h8 h9 h10;simp only[ND,NI] at h11;obtain⟨rfl,_,_⟩:=h11;exact absurd (rkk _ h7) (hdk _ hdp)
       ·obtain⟨e1,h7,h8,h9,_⟩:=liveOld k' e' g c' hm' hk' hl' hγ';obtain⟨h11,_⟩:=ho.2 k' e1 c' h7 h8 h9;simp only[ND,NI] at h11;obtain⟨rfl,_,_⟩:=h11;rw[hk] at hk';simp only[ND] at hk';subst hk';exact hl'.elim
      show ∃v,_;rw[hγold k hm];have hbx:=I.box k e0 h4;rw[h5] at hbx;rcases hbx with⟨h0,hx⟩|⟨g,c,cur,hγ,_⟩
      ·have hv:eX (γ k) xs.length (.slice Z 0 0):=by rw[h0];exact⟨by rw[hx];rfl,rfl⟩
       exact⟨_,hv,hrow _ hv⟩
      ·have hv:eX (γ k) xs.length (.slice (J ⟨g,0,Z⟩) xs.length c):=by rw[hγ];rfl
       exact⟨_,hv,hrow _ hv⟩
  ·
   have cross:∀j g c k e c',j<nr->γr (nmJ (nb+j)).1=J (g,c)->k ∉ aS d sp.r->h2 k=J e->e.box.live->γ' k=J (g,c')->False:=λj g c k e c' hj hγj hm hk hl hγk=>by
    obtain⟨e0,h3,h4,h5,h6⟩:=liveOld k e g c' hm hk hl hγk;rcases h6 with hb|⟨hnk0,rfl⟩;·obtain⟨i,hi⟩:=List.mem_iff_getElem?.1 hb;obtain⟨l,hl'⟩:=entB i (hboxc i k hi).1;obtain⟨e1,h7,h8⟩:=liveR j hj;have:=Ir.inj _ _ _ _ g c' c hl' trivial h7 h8 ((hγlent i k hi).trans h5) hγj;have hlt:=(hboxc i k hi).1;simp only[nmJ] at this;omega
    ·rcases newblk j g c hj hγj with h7|⟨k0,e1,c1,h7,h8,h9,h10⟩
     ·have:=ig I h3 h4 h5;omega
     ·have:=I.inj k k0 _ e1 g c' c1 h3 h4 h8 h9 h5 h10;subst this;exact hnk0 (rkk k h7)
   by_cases hm:k∈aS d sp.r<;>by_cases hm':k'∈aS d sp.r
   ·obtain⟨j,hj,rfl⟩:=newk k hm;obtain⟨j',hj',rfl⟩:=newk k' hm';rw[hγnew j hj] at h1;rw[hγnew j' hj'] at h1';obtain⟨e1,h3,h4⟩:=liveR j hj;obtain⟨e2,h5,h6⟩:=liveR j' hj';have:=Ir.inj _ _ e1 e2 g c c' h3 h4 h5 h6 h1 h1';simp only[nmJ] at this;omega
   ·obtain⟨j,hj,rfl⟩:=newk k hm;rw[hγnew j hj] at h1;exact(cross j g c k' e' c' hj h1 hm' hk' hl' h1').elim
   ·obtain⟨j,hj,rfl⟩:=newk k' hm';rw[hγnew j hj] at h1';exact(cross j g c' k e c hj h1' hm hk hl h1).elim
   ·obtain⟨e1,h3,h4,h5,_⟩:=liveOld k e g c hm hk hl h1;obtain⟨e2,h6,h7,h8,_⟩:=liveOld k' e' g c' hm' hk' hl' h1';exact I.inj k k' e1 e2 g c c' h3 h4 h6 h7 h5 h8
  ·by_cases hm:k∈aS d sp.r
   ·obtain⟨j,hj,rfl⟩:=newk k hm;rw[hγnew j hj] at h1;rcases newblk j g c hj h1 with h3|⟨k0,e0,c0,h3,h4,h5,h6⟩
    ·exact I.new g (Og I.size h3)
    ·exact I.own k0 e0 g c0 h4 h5 h6
   ·obtain⟨e0,h3,h4,h5,_⟩:=liveOld k e g c hm hk hl h1;exact I.own k e0 g c h3 h4 h5
 exact⟨γ',Rel.app R' T I' hres⟩
end
end Rv
namespace Rv
open Go
section
variable{P:Program}{C:Ctx}{γ:Gam}{h:Heap}{w:E}{R:Type}{r:R}
theorem Ls{st:St}{tmps:Array Y}(R':Rel C γ w st tmps){k:X}{e:En}{a:G}{t:Ty}{xs:O t.D}(hk:st.h k=J e)(hb:e.box=.row a t xs) :
  Rel C γ w ⟨st.s,st.h.set k ⟨e.ver,e.dver,.pub t xs⟩⟩ tmps:=by
 have I:=R'.inv;have live:e.box.live:=by rw[hb];trivial
 have old:∀k' e',(st.h.set k ⟨e.ver,e.dver,.pub t xs⟩) k'=J e'->e'.box.live->st.h k'=J e'/\k'≠k:=λk' e' hk' hl=>by
  by_cases hkk:k'=k;·subst hkk;rw[bH] at hk';obtain rfl:=NF hk';exact hl.elim
  ·rw[aW _ _ hkk] at hk';exact⟨hk',hkk⟩
 have T:bP C γ st.h w C γ (st.h.set k ⟨e.ver,e.dver,.pub t xs⟩) w:=by
  refine⟨NL _,λk' e' hk'=>?_,λg hg _=>rfl,λk' e' c g hk' hl hg _=>?_,λ_ _ hh=>hh,λ_ hh=>hh⟩
  ·by_cases hkk:k'=k
   ·subst hkk;rw[hk] at hk';obtain rfl:=NF hk';refine⟨_,bH _ _ _,.inr ⟨rfl,rfl,?_⟩⟩;unfold Alike;rw[hb];exact⟨⟨rfl,rfl⟩,rfl⟩
   ·exact⟨e',by rw[aW _ _ hkk];exact hk',.inr ⟨rfl,rfl,Alike.refl _⟩⟩
  ·exact⟨k',e',c,(old k' e' hk' hl).1,hl,hg,.inl rfl⟩
 refine R'.step T ⟨λk' e' hk'=>?_,λk1 k2 e1 e2 g c c' h1 l1 h2 l2=>?_,λk' e' g c hk' hl=>?_,I.frame,I.size,I.os,I.tape,I.output,I.new,I.rd,I.laid,I.stable,T.lent I.lent⟩
 ·by_cases hkk:k'=k
  ·subst hkk;rw[bH] at hk';obtain rfl:=NF hk';have hbx:=I.box k' e hk;rw[hb] at hbx;rcases hbx with⟨h0,hx⟩|⟨g,c,cur,hγ,hbl,hc,hcm,hcs,hsz,hr⟩
   ·subst hx;exact⟨.slice Z 0 0,by rw[h0];exact⟨rfl,rfl⟩,Z,0,rfl,NL _,λi x hx=>by simp at hx⟩
   ·refine⟨.slice (J ⟨g,0,Z⟩) xs.length c,by rw[hγ];rfl,J ⟨g,0,Z⟩,c,rfl,hc,λi x hx=>?_⟩;have hgs:g<w.heap.size:=(Array.getElem?_eq_some_iff.1 hbl).1;refine⟨g,0,_,rfl,⟨I.rd g (I.own k' e g c hk live hγ),λk2 e2 c2 hk2 hl2 hγ2=>?_⟩,hgs,(hr i x hx).mono (NL _) λg ho hg=>T.okb (d:=Z) trivial ho hg,λj u hj=>?_⟩
    ·obtain⟨h2,hne⟩:=old k2 e2 hk2 hl2;exact absurd (I.inj k' k2 e e2 g c c2 hk live h2 hl2 hγ hγ2).symm hne
    ·rw[cell_of_row w g _ cur a (0,0) hbl];rw[Oi] at hj;split at hj
     ·rw[Ov] at hj;simpa using hj
     ·cases hj
  ·rw[aW _ _ hkk] at hk';exact dI.step T (I.box k' e' hk') rfl λ_ _ _ _=>rfl
 ·exact I.inj k1 k2 e1 e2 g c c' (old k1 e1 h1 l1).1 l1 (old k2 e2 h2 l2).1 l2
 ·exact I.own k' e' g c (old k' e' hk' hl).1 hl
theorem G5{h:Heap}{k:X}{e:En}(hk:h k=J e):h.set k e=h:=by
 funext j;by_cases hj:j=k;·subst hj;rw[bH,hk]
 ·rw[aW _ _ hj]
theorem uy{tmps:Array Y}:∀{l:O (X×En)}{st:St},Rel C γ w st tmps ->
  (∀p,p∈l->(∃e a t xs,st.h p.1=J e/\e.box=.row a t xs/\p.2=⟨e.ver,e.dver,.pub t xs⟩)\/(st.h p.1=J p.2/\∃t xs,p.2.box=.pub t xs))->Rel C γ w ⟨st.s,gB st.h l⟩ tmps
 |[],st,R',_=>R'
 |p::l,st,R',hl=>by
  show Rel C γ w ⟨st.s,gB (st.h.set p.1 p.2) l⟩ tmps;rcases hl p (by simp) with⟨e,a,t,xs,h1,h2,h3⟩|⟨h1,_⟩
  ·refine uy (st:=⟨st.s,st.h.set p.1 p.2⟩) (by rw[h3];exact Ls R' h1 h2) λq hq=>?_
   by_cases hqp:q.1=p.1
   ·rcases hl q (by simp[hq]) with⟨e',a',t',xs',h4,h5,h6⟩|⟨h4,t',xs',h5⟩
    ·rw[hqp,h1] at h4;obtain rfl:=NF h4;have hqe:q.2=p.2:=by
      rw[h2] at h5;obtain⟨rfl,rfl,h7⟩:=Box.row.inj h5;obtain rfl:=eq_of_heq h7;rw[h3,h6]
     refine .inr ⟨?_,t',xs',by rw[h6]⟩;show(st.h.set p.1 p.2) q.1=J q.2;rw[hqp,bH,hqe]
    ·rw[hqp,h1] at h4;obtain rfl:=NF h4;rw[h2] at h5;cases h5
   ·rcases hl q (by simp[hq]) with⟨e',a',t',xs',h4,h5,h6⟩|⟨h4,h5⟩
    ·exact .inl ⟨e',a',t',xs',by show(st.h.set p.1 p.2) q.1=_;rw[aW _ _ hqp];exact h4,h5,h6⟩
    ·exact .inr ⟨by show(st.h.set p.1 p.2) q.1=_;rw[aW _ _ hqp];exact h4,h5⟩
  ·rw[G5 h1];exact uy R' λq hq=>hl q (by simp[hq])
theorem sw{st:St}{tmps:Array Y}(R':Rel C γ w st tmps)(ks:O X):Rel C γ w (bU st ks) tmps:=
 uy R' λp hp=>by
  obtain⟨_,e,a,t,xs,h1,h2,h3⟩:=kS hp;exact .inl ⟨e,a,t,xs,h1,h2,h3⟩
theorem tH:∀{l:O (X×En)}{h:Heap}{k:X},k∈l.map (·.1)->∃p,p∈l/\p.1=k/\gB h l k=J p.2:=λhk=>dU hk
theorem EU{l:O (X×En)}{h:Heap}{k:X}(hk:k ∉ l.map (·.1)):gB h l k=h k:=aO hk
theorem vK{st:St}{ks:O X}(k:X):(bU st ks).h k=st.h k\/∃e a t xs,st.h k=J e/\e.box=.row a t xs/\(bU st ks).h k=J ⟨e.ver,e.dver,.pub t xs⟩:=by
 by_cases hm:k∈(bN st.h ks).map (·.1);·obtain⟨p,h1,rfl,h2⟩:=tH (h:=st.h) hm;obtain⟨_,e,a,t,xs,h3,h4,h5⟩:=kS h1;exact .inr ⟨e,a,t,xs,h3,h4,by rw[<- h5];exact h2⟩
 ·exact .inl (EU hm)
theorem Jv(st:St)(ks:O X)(k:X):(bU st ks).h.next k=st.h.next k:=by
 unfold Heap.next
 rcases vK (st:=st) (ks:=ks) k with h|⟨e,a,t,xs,h1,h2,h3⟩;·rw[h]
 ·rw[h1,h3]
theorem wR{st:St}{ks:O X}{k v:X}{t:Ty}{xs:O t.D}(hk:k∈ks)(ha:(∃a,st.h.at k v=J (.row a t xs))\/st.h.at k v=J (.pub t xs)):∃e,(bU st ks).h k=J e/\e.ver=v/\e.box=.pub t xs:=by
 rcases ha with⟨a,ha⟩|ha;·obtain⟨e,h1,h2,h3⟩:=aH ha;obtain⟨p,h4,rfl,h5⟩:=tH (h:=st.h) (vL hk h1 h3);obtain⟨_,e',a',t',xs',h6,h7,h8⟩:=kS h4;rw[h1] at h6;obtain rfl:=NF h6;rw[h3] at h7;obtain⟨rfl,rfl,h9⟩:=Box.row.inj h7;obtain rfl:=eq_of_heq h9;exact⟨_,h5,by rw[h8];exact h2,by rw[h8]⟩
 ·obtain⟨e,h1,h2,h3⟩:=aH ha;rcases vK (st:=st) (ks:=ks) k with h|⟨e',a',t',xs',h4,h5,h6⟩
  ·exact⟨e,by rw[h];exact h1,h2,h3⟩
  ·rw[h1] at h4;obtain rfl:=NF h4;rw[h3] at h5;cases h5
theorem tu{st:St}{tmps:Array Y}{ks:O X}(R1:Rel C γ w (bU st ks) tmps){c:Cell}(hc:∀k,k∈c.ownK->k∈ks){v:Y}(hv:av C γ (bU st ks).h w c v):av C γ (bU st ks).h w (fH st.h c) v:=by
 have own:∀{k kv:X}{t:Ty}{xs:O t.D},k∈ks->((∃a,st.h.at k kv=J (.row a t xs))\/st.h.at k kv=J (.pub t xs))->∀m,m<=xs.length->v.oneCell'=M ->
   (∀e,(bU st ks).h k=J e->e.ver=kv->∀n,e.box.len=J n->eX (γ k) m v)->av C γ (bU st ks).h w (.sl Z t (xs.take m)) v:=λ{k kv t xs} hk ha m hm h1 hO=>by
  obtain⟨e,h2,h3,h4⟩:=wR hk ha;have hbx:=R1.inv.box k e h2;rw[h4] at hbx;obtain⟨u,hu,A,c,hA,hle,hx⟩:=hbx;have ho:=hO e h2 h3 xs.length (by rw[h4];rfl);simp only[List.cons.injEq,and_true] at hA;refine⟨h1,?_⟩;cases hγ:γ k with
  |none=>
   rw[hγ] at ho;obtain⟨rfl,rfl⟩:=ho;exact⟨Z,0,by simp,by simp,λi x e=>by simp at e⟩
  |some p=>
   obtain⟨g,cc⟩:=p;rw[hγ] at ho hu;rw[show u=_ from hu] at hA;simp only[Value.slice.injEq,true_and] at hA;obtain⟨rfl,rfl⟩:=hA;refine⟨J ⟨g,0,Z⟩,cc,?_,by simp;omega,λi x e=>?_⟩
   ·rw[show v=_ from ho];simp;omega
   ·rw[Oi] at e;split at e
    ·exact hx i x e
    ·cases e
 cases c with
 |own k kv=>
  have hk:=hc k (by simp[Cell.ownK]);have fin:∀{t:Ty}{xs:O t.D},((∃a,st.h.at k kv=J (.row a t xs))\/st.h.at k kv=J (.pub t xs))->av C γ (bU st ks).h w (.sl Z t xs) v:=λ{t xs} ha=>by
   have:=own hk ha xs.length (NL _) hv.1 λe h2 h3 n hn=>by
    obtain⟨e',h4,h5,h6⟩:=wR hk ha;rw[h2] at h4;obtain rfl:=NF h4;have:=hv.2.get h2 h3 n hn;rw[h6] at hn;simp only[Box.len,ND] at hn;rw[hn];exact this
   rwa [List.take_length] at this
  simp only[fH];split;·rename_i ha;exact fin (.inl ⟨_,ha⟩)
  ·rename_i ha;exact fin (.inr ha)
  ·exact hv
 |ownP k kv n=>
  have hk:=hc k (by simp[Cell.ownK]);have fin:∀{t:Ty}{xs:O t.D},((∃a,st.h.at k kv=J (.row a t xs))\/st.h.at k kv=J (.pub t xs))->av C γ (bU st ks).h w (.sl Z t (xs.take n)) v:=λ{t xs} ha=>by
   obtain⟨e',h4,h5,h6⟩:=wR hk ha;have hn:=(hv.2.get h4 h5 xs.length (by rw[h6];rfl)).1;exact own hk ha n hn hv.1 λe h2 h3 m hm=>(hv.2.get h2 h3 m hm).2
  simp only[fH];split;·rename_i ha;exact fin (.inl ⟨_,ha⟩)
  ·rename_i ha;exact fin (.inr ha)
  ·exact hv
 |_=>exact hv
theorem rz{st:St}{tmps:Array Y}{ks:O X}(R1:Rel C γ w (bU st ks) tmps):∀{cs:O Cell}{vs:O Y},(∀k,k∈cs.flatMap Cell.ownK->k∈ks)->aj (av C γ (bU st ks).h w) cs vs->aj (av C γ (bU st ks).h w) (cs.map (fH st.h)) vs
 |[],[],_,_=>trivial
 |c::cs,v::vs,hk,ha=>⟨tu R1 (λk hm=>hk k (by simp[hm])) ha.1,rz R1 (λk hm=>hk k (by
   rw[Oz];exact List.mem_append_right _ hm)) ha.2⟩
 |[],_::_,_,ha=>ha.elim
 |_::_,[],_,ha=>ha.elim
theorem V1.pub_cells_eq(h:Heap)(x:V1):(x.pub h).cells=x.cells.map (fH h):=by
 cases x<;>rfl
theorem uz{st:St}{a:Act}(R':Rel C γ w st a.tmps)(ks:O X):bP C γ st.h w C γ (bU st ks).h w:=by
 refine⟨NL _,λk e hk=>?_,λg hg _=>rfl,λk e' c g hk hl hg _=>?_,λ_ _ hh=>hh,λ_ hh=>hh⟩
 ·rcases vK (st:=st) (ks:=ks) k with h|⟨e',a',t,xs,h1,h2,h3⟩
  ·exact⟨e,by rw[h];exact hk,.inr ⟨rfl,rfl,Alike.refl _⟩⟩
  ·rw[hk] at h1;obtain rfl:=NF h1;refine⟨_,h3,.inr ⟨rfl,rfl,?_⟩⟩;unfold Alike;rw[h2];exact⟨⟨rfl,rfl⟩,rfl⟩
 ·rcases vK (st:=st) (ks:=ks) k with h|⟨e2,a',t,xs,h1,h2,h3⟩
  ·exact⟨k,e',c,by rw[<- h];exact hk,hl,hg,.inl rfl⟩
  ·rw[h3] at hk;obtain rfl:=NF hk;exact hl.elim
theorem Gv{st:St}{a:Act}(R':Rel C γ w st a.tmps){ks:O X}{x:V1}{v:Y}(hk:∀k,k∈x.ownKs->k∈ks)(hr:aI C γ st.h w x v):aI C γ (bU st ks).h w (x.pub st.h) v:=by
 have R1:=sw R' ks;have h1:=aI.step (uz R' ks) hr;cases x with
 |c c=>exact tu R1 (λk hm=>hk k (by simpa[V1.ownKs,V1.cells] using hm)) h1
 |agg cs=>
  obtain⟨vs,hv,ha⟩:=h1;exact⟨vs,hv,rz R1 hk ha⟩
theorem EE{st:St}{a:Act}(R':Rel C γ w st a.tmps){x y:V1}{v:Y}(hr:aI C γ st.h w y v):aI C γ (bU st (jZ x y)).h w (nS st.h x y) v:=by
 unfold nS;split;·exact Gv R' (λk hk=>hk) hr
 ·exact aI.step (uz R' _) hr
theorem ry{st:St}{a:Act}(R':Rel C γ w st a.tmps){ks:O X}:∀{ps:O (X×V1)}{qs:O (X×Y)},(∀k,k∈ps.flatMap (λp=>p.2.ownKs)->k∈ks) ->
  aj (λ(p:X×V1) (q:X×Y)=>p.1=q.1/\aj (av C γ st.h w) p.2.cells q.2.cells.toList) ps qs ->
  aj (λ(p:X×V1) (q:X×Y)=>p.1=q.1/\aj (av C γ (bU st ks).h w) p.2.cells q.2.cells.toList) (ps.map λp=>(p.1,p.2.pub st.h)) qs
 |[],[],_,_=>trivial
 |p::ps,q::qs,hk,ha=>by
  refine⟨⟨ha.1.1,?_⟩,ry R' (λk hm=>hk k (by rw[Oz];exact List.mem_append_right _ hm)) ha.2⟩;show aj _ (p.2.pub st.h).cells _;rw[V1.pub_cells_eq];exact rz (sw R' ks) (λk hm=>hk k (by rw[Oz];exact List.mem_append_left _ hm)) (ha.1.2.mono λ_ _ hh=>av.step (uz R' ks) hh)
 |[],_::_,_,ha=>ha.elim
 |_::_,[],_,ha=>ha.elim
theorem eY.pub{st:St}{a:Act}{o:Oper}{ks:O X}{v:V}{rd rd':O X}{up:O (X×En)}(h:eY P C w (bU st ks) a o ⟨v,rd,up⟩):eY P C w st a o ⟨v,rd',bN st.h ks++up⟩:=by
 intro next Q hn
 refine h next Q λγ' w' val hr=>hn γ' w' val ?_
 have e:st.app o.dst ⟨v,rd',bN st.h ks++up⟩=(bU st ks).app o.dst ⟨v,rd,up⟩:=by
  unfold St.app bU gB;simp only[List.foldl_append]
 rw[e];exact hr
theorem z8{te:G->F TI}(hte:∀t i,te t=J i->aN P t i){st:St}{a:Act}(R':Rel C γ w st a.tmps){o:Oper}{sT e:G}{lo co:Operand}(ho:o.op=.makeSlice sT lo co)
  (hs:(te sT).bind (·.elem)=J e) {ti:TI} (hti:te e=J ti) {kl kc:IntKind} {n m:Int} (hl:opd st lo=J (.c (.int kl n))) (hc:opd st co=J (.c (.int kc m))) {t:Ty} (ht:ti.ty=J t) {z:t.D} (hz:t.ofCells ti.zero=J z)
  (hn:0<=n/\m=n/\(ti.bytes:Int)*n<=281474976710656/\0<ti.bytes/\0<ti.size) {rd:O X} :
  eY P C w st a o ⟨.v (.c (.own (dk o.dst) (st.h.next (dk o.dst)))),rd,[(dk o.dst,⟨st.h.next (dk o.dst),0,.row e t (List.replicate n.toNat z)⟩)]⟩:=by
 obtain⟨hn0,rfl,hnb,hb0,hs0⟩:=hn;have hi:=hte _ _ hti;have hsl:P.underlying sT=J (.slice e):=by
  cases h0:te sT with
  |none=>rw[h0] at hs;simp at hs
  |some i0=>rw[h0] at hs;exact(hte _ _ h0).elem e hs
 have hts:=(hi.ty t ht).1;have hsz:0<t.size:=by omega
 obtain⟨inf,h1,h2,h3,zv,h4,h5,h6⟩:=hi.info;have hza:aj (av C γ st.h w) ti.zero zv.cells.toList:=h6.mono λ_ _ hp=>ru hp
 have hzd:=Rd.ofCells hz hza;obtain⟨n,rfl⟩:=Int.eq_ofNat_of_zero_le hn0;have hzero:=yz hzd n hsz;have hbn:n<=ti.bytes*n:=Nat.le_mul_of_pos_left n hb0;have hnb':ti.bytes*n<=281474976710656:=by
  have:((ti.bytes*n:X):Int)<=281474976710656:=by rw[Int.natCast_mul];exact hnb
  omega
 have hlen:(List.replicate n z).length=n:=by simp
 have e1:((n:Int)).toNat=n:=NM n;rw[e1];refine GR (e:=e) (c:=n) R' hzero (Nat.le_of_eq hlen) (by simp only[maxLen];omega) (by simp) hsz ?_;have hev1:a.eval lo=.int kl n:=(R'.opd hl).1;have hev2:a.eval co=.int kc n:=(R'.opd hc).1;have hrun:=run_make (P:=P) w sT e inf zv hsl h1 h4 kl kc (n:Int) (n:Int) (by omega) (Int.le_refl _) (by rw[h3];exact hnb) (by omega);rw[e1,h2,<- hts] at hrun;have hmc:madeCells zv.cells (n*t.size)=(Array.range (n*t.size)).map (zv.cells[· % zv.cells.size]!):=rfl;rw[hlen];simp only[execOp,ho,hev1,hev2,NR,hrun,hmc,NG,NZ]
end
end Rv
