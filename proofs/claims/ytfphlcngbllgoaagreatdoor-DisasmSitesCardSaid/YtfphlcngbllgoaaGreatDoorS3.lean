/- Texts put together. -/
import Derived.Test.YtfphlcngbllgoaaGreatDoorS2
import Derived.Laws.CopyRow
import Derived.Laws.AppendOwn
import Derived.Laws.MakeOwn
set_option linter.all false
namespace Rv
open Go
section
variable{P:Program}{C:Ctx}{γ:Gam}{h:Heap}{w:World}{R:Type}{r:R}
theorem bq.mono{w w':World}{ok ok':Nat->Prop}{t:Ty}{xs:List t.D}{cur:List Value}(hr:bq w ok t xs cur)(hs:w.heap.size<=w'.heap.size)(hb:∀g,ok g->g<w.heap.size->w'.heap[g]?=w.heap[g]?/\ok' g):bq w' ok' t xs cur:=
 fun i x hx=>(hr i x hx).mono hs hb
theorem Mc{st:St}{a:Act}(R':Rel C γ w st a.tmps){o:Oper}{e:TypeId}{t:Ty}{xs:List t.D}{cur:Array Value}{c:Nat}{rd:List Nat}(hr:bq w (okb C γ st.h none) t xs cur.toList)(hc:xs.length<=c)(hcm:c<=maxLen)(hcs:cur.size=c*t.size)(hsz:0<t.size)
  (hrun:(execOp a.eval o).run P w=.ok (.value (.slice (some ⟨w.heap.size,0,none⟩) xs.length c)) (w.alloc (.cells cur e))) :
  gH P C w st a o ⟨.v (.c (.own (dk o.dst) (st.h.next (dk o.dst)))),rd,[(dk o.dst,⟨st.h.next (dk o.dst),0,.row e t xs⟩)]⟩:=by
 intro next Q hn
 have hE:=oJ w (.cells cur e);have hv:∀g c',some (w.heap.size,c)=some (g,c')->w.heap.size<=g:=fun g c' e=>by have:=dS e;omega
 have T':=pW R'.inv hE (dk o.dst) (.row e t xs) (some (w.heap.size,c)) hv;refine eH hrun (hn (jl γ (dk o.dst) (some (w.heap.size,c))) _ _ (R'.app T' (R'.inv.fresh hE (sP w _) (dk o.dst) (.row e t xs) (some (w.heap.size,c)) hv ?_) ?_));·exact .inr ⟨w.heap.size,c,cur,bG _ _ _,heap_alloc_new w _,hc,hcm,hcs,hsz,hr.mono T'.sz fun g ho hg=>T'.okb (d:=none) trivial ho hg⟩
 ·refine⟨rfl,aY (bO _ _ _) rfl fun n hn'=>?_⟩;simp only[Box.len,Uw] at hn';rw[bG,<- hn'];rfl
theorem CO{ok:Nat->Prop}{t:Ty}{z:t.D}{cs:Array Value}(hd:Rd w ok t z cs.toList)(n:Nat)(hsz:0<t.size):bq w ok t (List.replicate n z) ((Array.range (n*t.size)).map (cs[· % cs.size]!)).toList:=by
 intro i x hx;rw[List.getElem?_replicate] at hx;split at hx
 ·rename_i hi;simp only[Uw] at hx;subst hx;have hl:=hd.length;have hl':cs.size=t.size:=by simpa using hl
  have:(((Array.range (n*t.size)).map (cs[· % cs.size]!)).toList.drop (i*t.size)).take t.size=cs.toList:=by
   apply List.ext_getElem?;intro m;rw[UZ];split
   ·rename_i hm;have hle:i*t.size+m<n*t.size:=by
     calc i*t.size+m<i*t.size+t.size:=by omega
      _=(i+1)*t.size:=by rw[Nat.add_mul,Nat.one_mul]
      _<=n*t.size:=Nat.mul_le_mul_right _ hi
    have hmod:(i*t.size+m) % t.size=m:=by rw[Nat.add_comm,Nat.mul_comm,Nat.add_mul_mod_self_left,Nat.mod_eq_of_lt hm]
    rw[Va];have hms:m<cs.size:=by omega
    simp[hle,hl',hmod,hm]
   ·rw[List.getElem?_eq_none (by simp;omega)]
  rw[this];exact hd
 ·cases hx
theorem CR{te:TypeId->Option TI}(hte:∀t i,te t=some i->aS P t i){st:St}{a:Act}(R':Rel C γ w st a.tmps){o:Oper}{sT e:TypeId}{n:Nat}{parts:Array (Nat×Operand)}(ho:o.op=.buildSlice sT n parts)
  (hs:(te sT).bind (·.elem)=some e) {ti:TI} (hti:te e=some ti) {ps:List (Nat×V1)} (hps:ai (fun(p:Nat×V1) (q:Nat×Value)=>p.1=q.1/\ai (av C γ st.h w) p.2.cells q.2.cells.toList) ps (parts.toList.map fun(p:Nat×Operand)=>(p.1,a.eval p.2))) {t:Ty} (ht:ti.ty=some t) {z:t.D} (hz:t.ofCells ti.zero=some z) (hn:n*ti.size<=16777216/\0<ti.size)
  {xs:List t.D} (hx:nA t (List.replicate n z) ps=some xs) {rd:List Nat} :
  gH P C w st a o ⟨.v (.c (.own (dk o.dst) (st.h.next (dk o.dst)))),rd,[(dk o.dst,⟨st.h.next (dk o.dst),0,.row e t xs⟩)]⟩:=by
 have hi:=hte _ _ hti;have hsl:P.underlying sT=some (.slice e):=by
  cases h0:te sT with
  |none=>rw[h0] at hs;simp at hs
  |some i0=>rw[h0] at hs;exact(hte _ _ h0).elem e hs
 obtain⟨zv,hzr,hzs,hza⟩:=oz (C:=C) (γ:=γ) (h:=st.h) (w:=w) hi;have hts:=(hi.ty t ht).1;have hsz:0<t.size:=by omega
 have hzd:=Rd.ofCells hz hza;have hzero:=CO hzd n hsz;obtain⟨vs',h3,h4,h5,h6⟩:=tQ (C:=C) (γ:=γ) (h:=st.h) (w:=w) (fun h1 h2=>Rd.ofCells h1 h2) hx hzero (by simp) hps;have hlen:xs.length=n:=by rw[h6];simp
 have hnl:n<=16777216:=UW (Nat.le_mul_of_pos_right n hn.2) hn.1;refine Mc R' h4 (Nat.le_of_eq hlen) (by simp only[maxLen];omega) (by rw[h5];simp) hsz ?_;have hno:¬n*ti.size>2 ^ 24:=by omega
 rw[<- Array.toList_map,hts] at h3;have hr0:Array.range 0=#[]:=rfl;have hbs:(Instr.buildSlice sT n (parts.map fun(p:Nat×Operand)=>(p.1,a.eval p.2))).run P w=.ok (.slice (some ⟨w.heap.size,0,none⟩) n n) (w.alloc (.cells vs' e)):=by
  by_cases h0:n*ti.size=0;·rw[h0,hr0] at h3;simp only[List.map_toArray,List.map_nil] at h3;simp only[Instr.buildSlice,UJ,run_underlying hsl,Uy,hi.sizeOf,if_neg hno,h0,if_true,UQ,hr0,List.map_toArray,List.map_nil,h3,newRow,run_newObj];simp
  ·simp only[Instr.buildSlice,UJ,run_underlying hsl,Uy,hi.sizeOf,if_neg hno,if_neg h0,hzr,UQ,h3,newRow,run_newObj];simp
 rw[hlen];simp only[execOp,ho,UJ,hbs,Uy,UQ]
theorem Rel.ext{st:St}{tmps:Array Value}(R':Rel C γ w st tmps){w':World}(hE:Ext w w')(S:Step C w w'):Rel C γ w' st tmps:=by
 have T:cK C γ st.h w C γ st.h w':=⟨hE.1,fun k e hk=>⟨e,hk,.inr ⟨rfl,rfl,Alike.refl e⟩⟩,fun g hg _=>hE.2 g hg,fun k e c g hk hl hg _=>⟨k,e,c,hk,hl,hg,.inl rfl⟩,fun _ _ h=>h,fun _ h=>h⟩
 exact R'.step T (R'.inv.step S T (fun k e hk=>dJ.step T (R'.inv.box k e hk) rfl fun hl g c hγ=>hE.2 g (jh R'.inv hk hl hγ)) R'.inv.inj R'.inv.own)
abbrev qY(b:Nat)(f:FuncId):Value:=.func (.func f) #[] #[.pointer (some ⟨b,0,none⟩)]
theorem uk{st:St}{a:Act}(R':Rel C γ w st a.tmps){k v:Nat}:∀{l:List (Nat×Operand)}{fs:List FuncId},gM st l=some (k,v,fs)->(∀f∈fs,f<gJ)->∀{en:En}{cs:List Cell} (_:st.h k=some en) (_:en.ver=v) (_:en.box=.cells cs),
  ∃b c,γ k=some (b,c)/\l.map (fun p=>a.eval p.2)=fs.map (qY b)
 |[],fs,h=>by cases h
 |[(i,x)],fs,h=>by
  intro hfs _ _ hk hve hb;rw[gM] at h;split at h
  ·rename_i f k' v' hx;cases h;obtain⟨vs,hv,ha⟩:=jB R' hx
   match vs,ha with
   |[u],ha=>
    obtain⟨b,c,hγ,hu⟩:=ha.1.2.get hk hve _ hb;rw[nK (hfs f (by simp))] at hv;exact⟨b,c,hγ,by simp[hv,hu]⟩
  ·cases h
 |(i,x)::p::r,fs,h=>by
  intro hfs _ _ hk hve hb;rw[gM] at h;split at h
  ·rename_i f k' v' hx;split at h
   ·rename_i k2 v2 fs2 hr;obtain⟨⟨rfl,rfl⟩,h⟩:=aa h;cases h;obtain⟨vs,hv,ha⟩:=jB R' hx;obtain⟨b',c',hγ',hl⟩:=uk R' hr (fun f hf=>hfs f (by simp[hf])) hk hve hb
    match vs,ha with
    |[u],ha=>
     obtain⟨b,c,hγ,hu⟩:=ha.1.2.get hk hve _ hb;rw[hγ] at hγ';obtain⟨rfl,rfl⟩:=dS hγ';refine⟨b,c,hγ,?_⟩;rw[nK (hfs f (by simp))] at hv;rw[UO,hl,UO,hv,hu]
   ·cases h
  ·cases h
  ·rintro⟨⟩
theorem D7:∀(vals:List Value),(∀u∈vals,u.cells=#[u])->∀(j:Nat) (acc:Array Value),acc.size=j+vals.length ->
  Instr.fill (fun i=>some (i*1,1)) acc ((List.range' j vals.length).zip vals)=some (acc.toList.take j++vals).toArray
 |[],_,j,acc,h=>by
  simp only[U2,Nat.add_zero] at h;subst h;show some acc=some (acc.toList.take acc.size++[]).toArray;rw[UU,List.take_of_length_le (by simp)]
 |u::vals,hu,j,acc,h=>by
  have h1:=hu u (by simp);simp only[UN] at h;rw[UN,List.range'_succ,List.zip_cons_cons];simp only[Instr.fill];rw[h1];rw[if_neg (by simp;omega)];have e:((#[u]:Array Value).zipIdx.foldl (fun(cs:Array Value) (p:Value×Nat)=>cs.setIfInBounds (j*1+p.2) p.1) acc)=acc.setIfInBounds j u:=by simp
  rw[e,D7 vals (fun x hx=>hu x (by simp[hx])) (j+1) _ (by simp;omega)];congr 2;apply List.ext_getElem?;intro m;simp only[Array.toList_setIfInBounds];rcases Nat.lt_trichotomy m j with hm|rfl|hm;·rw[Ve (by simp;omega),Ve (by simp;omega),List.getElem?_take_of_lt (by omega),List.getElem?_take_of_lt hm,List.getElem?_set_ne (by omega)]
  ·rw[Ve (by simp;omega),List.getElem?_append_right (by simp;omega),List.getElem?_take_of_lt (by omega),List.getElem?_set_self (by simp;omega)];have:m-(acc.toList.take m).length=0:=by simp;omega
   rw[this];rfl
  ·rw[List.getElem?_append_right (by simp;omega),List.getElem?_append_right (by simp;omega)];have e1:m-(List.take (j+1) (acc.toList.set j u)).length=m-(j+1):=by simp;omega
   have e2:m-(List.take j acc.toList).length=(m-(j+1))+1:=by simp;omega
   rw[e1,e2,List.getElem?_cons_succ]
theorem FP{te:TypeId->Option TI}(hte:∀t i,te t=some i->aS P t i){st:St}{a:Act}(R':Rel C γ w st a.tmps){o:Oper}{sT e:TypeId}{n:Nat}{parts:Array (Nat×Operand)}(ho:o.op=.buildSlice sT n parts)
  (hs:(te sT).bind (·.elem)=some e) {ti:TI} (hti:te e=some ti) {k v:Nat} {fs:List FuncId} (hc:gM st parts.toList=some (k,v,fs)) {cs:List Cell} (hat:st.h.at k v=some (.cells cs))
  (hq:ti.size=1/\ti.agg=false/\n=fs.length/\n<=1000/\parts.toList.map (·.1)=List.range n/\(fs.all fun f=>decide (f<gJ))=true):gH P C w st a o ⟨.v (.c (.clr k v fs)),[k],[]⟩:=by
 obtain⟨h1,h2,hn,h1000,hidx,hfs⟩:=hq;obtain⟨en,hk,hve,hbox⟩:=aK hat
 obtain⟨b,c,hγ,hvals⟩:=uk R' hc (fun f hf=>by simpa using UT.1 hfs f hf) hk hve hbox;have hi:=hte _ _ hti;have hsl:P.underlying sT=some (.slice e):=by
  cases h0:te sT with
  |none=>rw[h0] at hs;simp at hs
  |some i0=>rw[h0] at hs;exact(hte _ _ h0).elem e hs
 obtain⟨zv,hzr,hzs,hza⟩:=oz (C:=C) (γ:=γ) (h:=st.h) (w:=w) hi;have hqs:(parts.map fun(p:Nat×Operand)=>(p.1,a.eval p.2)).toList=(List.range' 0 (fs.map (qY b)).length).zip (fs.map (qY b)):=by
  rw[Vb,<- hn,<- List.range_eq_range',<- hidx,<- hvals,Array.toList_map];generalize parts.toList=l
  induction l with
  |nil=>rfl
  |cons p l ih=>simp only[UO,List.zip_cons_cons,ih]
 have hfill:=D7 (fs.map (qY b)) (fun u hu=>by obtain⟨f,_,rfl⟩:=UR.1 hu;rfl) 0;have hno:¬n*ti.size>2 ^ 24:=by rw[h1];omega
 have hbs:(Instr.buildSlice sT n (parts.map fun(p:Nat×Operand)=>(p.1,a.eval p.2))).run P w=.ok (.slice (some ⟨w.heap.size,0,none⟩) n n) (w.alloc (.cells (fs.map (qY b)).toArray e)):=by
  have hn0:¬n*ti.size=0:=by
   intro h0;have:fs≠[]:=by
    rintro rfl;cases hl:parts.toList with
    |nil=>rw[hl] at hc;cases hc
    |cons p l=>rw[hl] at hvals;cases hvals
   have:=List.length_pos_iff.2 this;rw[h1] at h0;omega
  have hf:=hfill ((Array.range (n*ti.size)).map (zv.cells[· % zv.cells.size]!)) (by simp[h1,hn]);rw[<- hqs] at hf;simp only[Vp,UY] at hf;have hf:Instr.fill (fun i=>some (i*ti.size,ti.size)) ((Array.range (n*ti.size)).map (zv.cells[· % zv.cells.size]!)) (parts.map fun(p:Nat×Operand)=>(p.1,a.eval p.2)).toList=some (fs.map (qY b)).toArray:=by rw[h1] at hf⊢;exact hf
  simp only[Instr.buildSlice,UJ,run_underlying hsl,Uy,hi.sizeOf,if_neg hno,if_neg hn0,hzr,UQ,hf,newRow,run_newObj];simp
 intro next Q hn'
 have hE:=oJ w (.cells (fs.map (qY b)).toArray e);have hrep:bv C γ st.h (w.alloc (.cells (fs.map (qY b)).toArray e)) (.v (.c (.clr k v fs))) (.slice (some ⟨w.heap.size,0,none⟩) n n):=by
  refine⟨rfl,aY hk hve fun l' hl'=>⟨b,c,w.heap.size,hγ,by rw[hn],fun j f hj=>⟨⟨R'.inv.rd _ (R'.inv.new _ R'.inv.size),fun k' e' c' hk' hl'' hγ'=>?_⟩,by simp,?_⟩⟩⟩;·have:=jh R'.inv hk' hl'' hγ';omega
  ·rw[cell_of_row _ _ _ (fs.map (qY b)).toArray e (0,0) (heap_alloc_new w _)];simp[hj]
 refine eH (val:=.slice (some ⟨w.heap.size,0,none⟩) n n) ?_ (hn' γ _ _ ((R'.ext hE (sP w _)).put o.dst hrep));simp only[execOp,ho,UJ,hbs,Uy,UQ]
theorem gN(w:World)(g g':Nat)(cs:Array Value)(hne:g'≠g):(w.setRow g cs).heap[g']?=w.heap[g']?:=setRow_other w g g' cs (fun e=>hne (by simpa using e))
theorem xm(w:World){g:Nat}(cs:Array Value)(ho:C.own g):Step C w (w.setRow g cs):=
 ⟨by simp,fun g' _ hno=>gN w g g' cs (fun e=>hno (e ▸ ho)),rfl,rfl,rfl⟩
theorem vK{t:TypeId}{ti:TI}(hi:aS P t ti){g off:Nat}{cur:Array Value}{T:TypeId}(hg:w.heap[g]?=some (.cells cur T (0,0))){v:Value}(hv:v.cells.size=ti.size)(hle:off+ti.size<=cur.size)(h1:∀u∈v.cells.toList,u.oneCell'=true) :
  (Instr.storeAt t (.pointer (some ⟨g,off,none⟩)) v).run P w=.ok () (w.setRow g (cur.toList.take off++v.cells.toList++cur.toList.drop (off+ti.size)).toArray):=by
 have:=run_storeCells_at P g off T v.cells.toList 0 cur w hg (by simp;omega) h1;simp only[Nat.add_zero,Array.length_toList,hv] at this;simp only[Instr.storeAt,Instr.sureAddr,UJ,UQ,Uy,storeVar,hi.sizeOf,hv,ne_eq,not_true_eq_false,if_false,this]
theorem tu{l:List Cell}{vs:List Value}(ha:ai (av C γ h w) l vs):∀u∈vs,u.oneCell'=true:=by
 induction vs generalizing l with
 |nil=>intro u hu;cases hu
 |cons v vs ih=>
  cases l with
  |nil=>exact ha.elim
  |cons c l=>
   intro u hu;rcases UG.1 hu with rfl|hu;·exact av.one ha.1
   ·exact ih ha.2 u hu
theorem Fv{st:St}{a:Act}(R':Rel C γ w st a.tmps){o:Oper}{t:TypeId}{ti:TI}(hi:aS P t ti){xo vo:Operand}(ho:o.op=.store t xo vo)(hd:o.dst=none){v:V1}(hvr:aM C γ st.h w v (a.eval vo)){k ver dver off g:Nat}{l:List Cell}
  (hk:st.h k=some ⟨ver,dver,.cells l⟩) (hγ:γ k=some (g,0)) (hpv:a.eval xo=.pointer (some ⟨g,off,none⟩)) (hle:off+ti.size<=l.length) (hsz:v.cells.length=ti.size) {rd:List Nat} :
  gH P C w st a o ⟨.tup [],rd,[(k,⟨ver,dver,.cells (l.take off++v.cells++l.drop (off+ti.size))⟩)]⟩:=by
 have I:=R'.inv;have hvc:=hvr.cells;have hvl:=hvc.length;have hv1:=tu hvc;have hb0:=I.box k _ hk;obtain⟨g',vs,U,hγ',hb,ha⟩:=hb0;rw[hγ] at hγ';obtain⟨rfl,_⟩:=dS hγ';have hlen:=ha.length;intro next Q hn
 have hrun:=vK hi hb (v:=a.eval vo) (off:=off) (by simp at hvl;omega) (by simp at hlen;omega) hv1;have hex:(execOp a.eval o).run P w=.ok .skip (w.setRow g (vs.toList.take off++(a.eval vo).cells.toList++vs.toList.drop (off+ti.size)).toArray):=by
  simp only[execOp,ho,hpv,UJ,hrun,Uy,UQ]
 have hset:(Heap.set st.h k ⟨ver,dver,.cells (l.take off++v.cells++l.drop (off+ti.size))⟩) k=some ⟨ver,dver,.cells (l.take off++v.cells++l.drop (off+ti.size))⟩:=bO _ _ _;have hown:=I.own k _ g 0 hk trivial hγ;have T:cK C γ st.h w C γ (Heap.set st.h k ⟨ver,dver,.cells (l.take off++v.cells++l.drop (off+ti.size))⟩) (w.setRow g (vs.toList.take off++(a.eval vo).cells.toList++vs.toList.drop (off+ti.size)).toArray):=by
  refine⟨by simp,fun k' e hk'=>?_,fun g' hg' hh=>?_,fun k' e' c' g' hk' hl' hγ'' hg'=>?_,fun _ _ h=>h,fun _ h=>h⟩
  ·by_cases e1:k'=k
   ·subst e1;rw[hk] at hk';simp only[Uw] at hk';subst hk';exact⟨_,hset,.inr ⟨rfl,rfl,rfl⟩⟩
   ·exact⟨e,by rw[bn _ _ e1];exact hk',.inr ⟨rfl,rfl,Alike.refl e⟩⟩
  ·refine gN w g g' _ fun e=>?_
   subst e;exact(hh k _ 0 hk trivial hγ).1
  ·by_cases e1:k'=k
   ·subst e1;exact⟨k',_,c',hk,trivial,hγ'',.inl rfl⟩
   ·rw[bn _ _ e1] at hk';exact⟨k',e',c',hk',hl',hγ'',.inl rfl⟩
 refine FL hex (hn γ _ undef (R'.app T (I.step (xm w _ hown) T (fun k' e hk'=>?_) (fun k1 k2 e1 e2 g1 c1 c2 h1 hl1 h2 hl2 hg1 hg2=>?_) (fun k' e' g1 c1 h1 hl1 hg1=>?_)) ⟨[],rfl,trivial⟩))
 ·by_cases e1:k'=k
  ·subst e1;have hk'':=hk';simp only[U9,List.foldl_nil] at hk'';rw[hset] at hk'';simp only[Uw] at hk'';subst hk'';refine⟨g,_,U,hγ,setRow_heap w g vs _ U _ hb,?_⟩;have:ai (av C γ st.h w) (l.take off++v.cells++l.drop (off+ti.size)) (vs.toList.take off++(a.eval vo).cells.toList++vs.toList.drop (off+ti.size)):=((ha.take off).append hvc).append (ha.drop _);exact this.mono fun _ _ hh=>av.step T hh
  ·simp only[U9,List.foldl_nil] at hk';rw[bn _ _ e1] at hk';refine dJ.step T (I.box k' e hk') rfl fun hl g' c' hγ''=>gN w g g' _ fun eg=>?_
   subst eg;exact e1 (I.inj k' k e _ g' c' 0 hk' hl hk trivial hγ'' hγ)
 ·have back:∀{kk ee},(Heap.set st.h k ⟨ver,dver,.cells (l.take off++v.cells++l.drop (off+ti.size))⟩) kk=some ee->ee.box.live->∃ee',st.h kk=some ee'/\ee'.box.live:=by
   intro kk ee h1 hl;by_cases e1:kk=k;·subst e1;exact⟨_,hk,trivial⟩
   ·rw[bn _ _ e1] at h1;exact⟨ee,h1,hl⟩
  obtain⟨e1',h1',hl1'⟩:=back h1 hl1;obtain⟨e2',h2',hl2'⟩:=back h2 hl2;exact I.inj k1 k2 e1' e2' g1 c1 c2 h1' hl1' h2' hl2' hg1 hg2
 ·by_cases e1:k'=k
  ·subst e1;exact I.own k' _ g1 c1 hk trivial hg1
  ·simp only[U9,List.foldl_nil] at h1;rw[bn _ _ e1] at h1;exact I.own k' e' g1 c1 h1 hl1 hg1
theorem BL{k:IntKind}:∀{cs:List Cell}{l:List Int},jO k cs=some l->cs=l.map (Cell.int k)
 |[],l,he=>by
  simp only[jO,Uw] at he;subst he;rfl
 |c::cs,l,he=>by
  cases c with
  |int j n=>
   simp only[jO] at he;obtain⟨hj,he⟩:=aa he;split at he;·rename_i l' hl;simp only[Uw] at he;subst he;rw[UO,<- BL hl,hj]
   ·cases he
  |_=>cases he
theorem Pf{k:IntKind}{l:List Cell}{ns:List Int}{base n i:Nat}{x:Int}(hns:jO k ((l.drop base).take n)=some ns)(hle:base+n<=l.length)(hi:i<n) :
  l.take base++wE k ns n i x++l.drop (base+n)=l.take (base+i)++[.int k x]++l.drop (base+i+1):=by
 have hc:=BL hns;have hl:ns.length=n:=by
  have:=congrArg List.length hc;simp at this;omega
 have hs:wE k ns n i x=(((l.drop base).take n).set i (.int k x)):=by
  rw[hc];unfold wE;apply List.ext_getElem;·simp[hl]
  ·intro j h1 h2;simp only[Vb,List.length_range] at h1;simp only[List.getElem_map,List.getElem_range,List.getElem_set,List.getElem_map];by_cases e:i=j
   ·subst e;simp[List.getD,hl,hi]
   ·simp[List.getD,e,show j<ns.length by omega,List.getElem?_set,List.getElem_set]
 rw[hs];apply List.ext_getElem?;intro j;simp only[List.getElem?_append,UD,U1,List.length_set,U5,UN,U2,UZ,Va,List.getElem?_set];by_cases h1:j<base
 ·have h2:j<min base l.length:=by omega
  have h3:j<min (base+i) l.length:=by omega
  have h4:j<min base l.length+min n (l.length-base):=by omega
  have h5:j<min (base+i) l.length+(0+1):=by omega
  simp[h1,h2,h3,h4,h5,show j<base+i by omega]
 ·by_cases h6:j<base+n
  ·have e1:min base l.length=base:=by omega
   have e2:min n (l.length-base)=n:=by omega
   have e3:min (base+i) l.length=base+i:=by omega
   simp only[e1,e2,e3,h6,if_true,show ¬j<base by omega,if_false];by_cases e:i=j-base
   ·have:j=base+i:=by omega
    subst this;simp[hi,show base+i<base+i+1 by omega]
   ·by_cases h7:j<base+i
    ·simp[e,h7,show j<base+i+1 by omega,show base+(j-base)=j by omega,show j-base<n by omega]
    ·simp[e,h7,show ¬j<base+i+1 by omega,show base+(j-base)=j by omega,show j-base<n by omega,show base+i+1+(j-(base+i+1))=j by omega]
  ·have e1:min base l.length=base:=by omega
   have e2:min n (l.length-base)=n:=by omega
   have e3:min (base+i) l.length=base+i:=by omega
   simp only[e1,e2,e3,h6,if_false];simp[show ¬j<base+i+1 by omega,show base+n+(j-(base+n))=j by omega,show base+i+1+(j-(base+i+1))=j by omega]
theorem Po{te:TypeId->Option TI}(hte:∀t i,te t=some i->aS P t i){st:St}{a:Act}(R':Rel C γ w st a.tmps){o:Oper}{t:TypeId}{xo vo:Operand}(ho:o.op=.store t xo vo)(hd:o.dst=none){x v:V1}(hx:opd st xo=some x)(hvr:aM C γ st.h w v (a.eval vo)){K:List (Nat×En)->Option R}
  (he:fG te st t x v K=some r) {rd:List Nat}:∃up,K up=some r/\gH P C w st a o ⟨.tup [],rd,up⟩:=by
 have I:=R'.inv;have hxr:=(R'.opd hx).1;have hvc:=hvr.cells;have hvl:=hvc.length;have hv1:=tu hvc;unfold fG at he;split at he
 ·rename_i k kv off ti hti;have hi:=hte _ _ hti;split at he
  ·rename_i ver dver l hk;obtain⟨hve,he⟩:=aa he;obtain⟨⟨hle,hsz⟩,he⟩:=aa he;obtain⟨g,c,hγ,hpv⟩:=hxr.2.get hk hve l rfl;have hb0:=I.box k _ hk;obtain⟨g',vs,U,hγ',hb,ha⟩:=hb0;have hγ0:=hγ;rw[hγ] at hγ';obtain⟨rfl,rfl⟩:=dS hγ';exact⟨_,he,Fv R' hi ho hd hvr hk hγ0 hpv hle hsz⟩
  ·cases he
 ·rename_i k kv base n i ti hti;have hi:=hte _ _ hti;split at he
  ·rename_i ver dver l k0 y hk;obtain⟨hve,he⟩:=aa he;obtain⟨⟨hle,hsz⟩,he⟩:=aa he;split at he
   ·rename_i ns hns;obtain⟨hlt,g,c,hγ,hpv⟩:=hxr.2.get hk hve l rfl;have hb0:=I.box k _ hk;obtain⟨g',vs,U,hγ',hb,ha⟩:=hb0;have hγ0:=hγ;rw[hγ] at hγ';obtain⟨rfl,rfl⟩:=dS hγ';have hok:=Fv R' hi ho hd hvr hk hγ0 hpv (by omega) (by rw[hsz];rfl) (rd:=rd);rw[Pf hns hle hlt,<- hsz] at he;exact⟨_,he,hok⟩
   ·cases he
  ·cases he
 ·rename_i k kv i off ti hti;have hi:=hte _ _ hti;split at he
  ·rename_i ver dver e t' xs hk;obtain⟨hve,he⟩:=aa he;obtain⟨⟨hle,hsz⟩,he⟩:=aa he;obtain⟨y,hy,he⟩:=ae he;obtain⟨hlt,g,c,hγ,hpv⟩:=hxr.2.get hk hve xs.length rfl;have hb0:=I.box k _ hk;rcases hb0 with⟨h0,_⟩|⟨g',c',cur,hγ',hb,hxc,hcm,hcs,hszt,hr⟩
   ·rw[h0] at hγ;cases hγ
   ·rw[hγ] at hγ';obtain⟨rfl,rfl⟩:=dS hγ';simp only[Box.tsize] at hpv;have hile:i*t'.size+t'.size<=cur.size:=by
     rw[hcs]
     calc i*t'.size+t'.size=(i+1)*t'.size:=by rw[Nat.add_mul,Nat.one_mul]
      _<=c*t'.size:=Nat.mul_le_mul_right _ (by omega)
    have hold:=hr i _ (ql t'.dflt hlt);have holdc:=hold.cells (h:=st.h);have hnew:ai (av C γ st.h w) ((t'.cells none (xs.getD i t'.dflt)).take off++v.cells++(t'.cells none (xs.getD i t'.dflt)).drop (off+ti.size))
      (((cur.toList.drop (i*t'.size)).take t'.size).take off++(a.eval vo).cells.toList++((cur.toList.drop (i*t'.size)).take t'.size).drop (off+ti.size)):=((holdc.take off).append hvc).append (holdc.drop _)
    have hyd:=Rd.ofCells hy hnew;refine⟨_,he,fun next Q hn=>?_⟩;have hrun:=vK hi hb (v:=a.eval vo) (off:=i*t'.size+off) (by simp at hvl;omega) (by omega) hv1;have hex:(execOp a.eval o).run P w=.ok .skip (w.setRow g (cur.toList.take (i*t'.size+off)++(a.eval vo).cells.toList++cur.toList.drop (i*t'.size+off+ti.size)).toArray):=by
     simp only[execOp,ho,hpv,UJ,hrun,Uy,UQ]
    have hset:(Heap.set st.h k ⟨ver,dver+1,.row e t' (xs.set i y)⟩) k=some ⟨ver,dver+1,.row e t' (xs.set i y)⟩:=bO _ _ _;have hown:=I.own k _ g c hk trivial hγ;have T:cK C γ st.h w C γ (Heap.set st.h k ⟨ver,dver+1,.row e t' (xs.set i y)⟩) (w.setRow g (cur.toList.take (i*t'.size+off)++(a.eval vo).cells.toList++cur.toList.drop (i*t'.size+off+ti.size)).toArray):=by
     refine⟨by simp,fun k' e hk'=>?_,fun g' hg' hh=>?_,fun k' e' c' g' hk' hl' hγ'' hg'=>?_,fun _ _ h=>h,fun _ h=>h⟩
     ·by_cases e1:k'=k
      ·subst e1;rw[hk] at hk';simp only[Uw] at hk';subst hk';exact⟨_,hset,.inr ⟨rfl,rfl,rfl,⟨rfl,by simp⟩,by simp⟩⟩
      ·exact⟨e,by rw[bn _ _ e1];exact hk',.inr ⟨rfl,rfl,Alike.refl e⟩⟩
     ·refine gN w g g' _ fun eg=>?_
      subst eg;obtain⟨_,e',h1,_,h2⟩:=hh k _ c hk trivial hγ;rw[hset] at h1;simp only[Uw] at h1;subst h1;simp at h2
     ·by_cases e1:k'=k
      ·subst e1;exact⟨k',_,c',hk,trivial,hγ'',.inl rfl⟩
      ·rw[bn _ _ e1] at hk';exact⟨k',e',c',hk',hl',hγ'',.inl rfl⟩
    refine FL hex (hn γ _ undef (R'.app T (I.step (xm w _ hown) T (fun k' e' hk'=>?_) (fun k1 k2 e1 e2 g1 c1 c2 h1 hl1 h2 hl2 hg1 hg2=>?_) (fun k' e' g1 c1 h1 hl1 hg1=>?_)) ⟨[],rfl,trivial⟩))
    ·by_cases e1:k'=k
     ·subst e1;have hk'':=hk';simp only[U9,List.foldl_nil] at hk'';rw[hset] at hk'';simp only[Uw] at hk'';subst hk'';refine .inr ⟨g,c,_,hγ,setRow_heap w g cur _ _ _ hb,by simpa using hxc,hcm,?_,hszt,?_⟩
      ·simp at hvl⊢;omega
      ·obtain⟨m,hm⟩:∃m,c=xs.length+m:=⟨c-xs.length,by omega⟩
       have hpart:bq w (okb C γ st.h none) t' (xs.set i y) (cur.toList.take (i*t'.size+off)++(a.eval vo).cells.toList++cur.toList.drop (i*t'.size+off+ti.size)):=by
        have hcurl:(cur.toList.take (xs.length*t'.size)).length=xs.length*t'.size:=by
         simp;rw[hcs,hm,Nat.add_mul];omega
        have hr0:bq w (okb C γ st.h none) t' xs (cur.toList.take (xs.length*t'.size)):=fun j x hj=>by
         have hjl:j<xs.length:=(UI.1 hj).1;have h1:=hr j x hj;have:((cur.toList.take (xs.length*t'.size)).drop (j*t'.size)).take t'.size=(cur.toList.drop (j*t'.size)).take t'.size:=by
          rw[List.drop_take,List.take_take,Nat.min_eq_left];rw[<- Nat.sub_mul]
          calc t'.size=1*t'.size:=by rw[Nat.one_mul]
           _<=(xs.length-j)*t'.size:=Nat.mul_le_mul_right _ (by omega)
         rw[this];exact h1
        have h2:=hr0.set hcurl hlt hyd;intro j x hj;have hjl:j<xs.length:=by have:=(UI.1 hj).1;simpa using this
        have h3:=h2 j x hj;have hjle:j*t'.size+t'.size<=xs.length*t'.size:=by
         calc j*t'.size+t'.size=(j+1)*t'.size:=by rw[Nat.add_mul,Nat.one_mul]
          _<=xs.length*t'.size:=Nat.mul_le_mul_right _ hjl
        have hixs:i*t'.size+t'.size<=xs.length*t'.size:=by
         calc i*t'.size+t'.size=(i+1)*t'.size:=by rw[Nat.add_mul,Nat.one_mul]
          _<=xs.length*t'.size:=Nat.mul_le_mul_right _ hlt
        have hxcs:xs.length*t'.size<=cur.size:=by rw[hcs];exact Nat.mul_le_mul_right _ hxc
        have:((cur.toList.take (i*t'.size+off)++(a.eval vo).cells.toList++cur.toList.drop (i*t'.size+off+ti.size)).drop (j*t'.size)).take t'.size =
          (((cur.toList.take (xs.length*t'.size)).take (i*t'.size)++(((cur.toList.drop (i*t'.size)).take t'.size).take off++(a.eval vo).cells.toList++((cur.toList.drop (i*t'.size)).take t'.size).drop (off+ti.size))++(cur.toList.take (xs.length*t'.size)).drop (i*t'.size+t'.size)).drop (j*t'.size)).take t'.size:=by
         have hvlen:(a.eval vo).cells.toList.length=ti.size:=by simp at hvl⊢;omega
         apply List.ext_getElem?;intro q;rw[UZ,UZ];split
         ·rename_i hq;rw[Va,Va];simp only[UM,List.getElem?_append,UD,U1,U5,UZ,Va,hvlen,Array.length_toList];have e1:min (i*t'.size+off) cur.size=i*t'.size+off:=by omega
          have e2:min (xs.length*t'.size) cur.size=xs.length*t'.size:=by omega
          have e3:min (i*t'.size) (xs.length*t'.size)=i*t'.size:=by omega
          have e4:min t'.size (cur.size-i*t'.size)=t'.size:=by omega
          have e5:min off t'.size=off:=by omega
          simp only[e1,e2,e3,e4,e5]
          repeat' split
          all_goals first|rfl|(exfalso;omega)|(congr 1;omega)
         ·rfl
        rw[this];exact h3
       simp only[List.toList_toArray];exact hpart.mono T.sz fun g' ho' hg'=>T.okb (d:=none) trivial ho' hg'
     ·simp only[U9,List.foldl_nil] at hk';rw[bn _ _ e1] at hk';refine dJ.step T (I.box k' e' hk') rfl fun hl g' c' hγ''=>gN w g g' _ fun eg=>?_
      subst eg;exact e1 (I.inj k' k e' _ g' c' c hk' hl hk trivial hγ'' hγ)
    ·have back:∀{kk ee},(Heap.set st.h k ⟨ver,dver+1,.row e t' (xs.set i y)⟩) kk=some ee->ee.box.live->∃ee',st.h kk=some ee'/\ee'.box.live:=by
      intro kk ee h1 hl;by_cases e1:kk=k;·subst e1;exact⟨_,hk,trivial⟩
      ·rw[bn _ _ e1] at h1;exact⟨ee,h1,hl⟩
     obtain⟨e1',h1',hl1'⟩:=back h1 hl1;obtain⟨e2',h2',hl2'⟩:=back h2 hl2;exact I.inj k1 k2 e1' e2' g1 c1 c2 h1' hl1' h2' hl2' hg1 hg2
    ·by_cases e1:k'=k
     ·subst e1;exact I.own k' _ g1 c1 hk trivial hg1
     ·simp only[U9,List.foldl_nil] at h1;rw[bn _ _ e1] at h1;exact I.own k' e' g1 c1 h1 hl1 hg1
  ·cases he
 ·cases he
end
end Rv
namespace Rv
open Go
section
variable{P:Program}{C:Ctx}{γ:Gam}{h:Heap}{w:World}{R:Type}{r:R}
theorem qP{t ty e:TypeId}{i:TypeInfo}{z:Value}(ht:P.underlying t=some (.slice e))(hi:P.info? e=some i)(hz:i.zero=some z)(hzs:z.cells.size=i.size)(hsz:0<i.size)(hb0:0<i.bytes)
  {v:Value} {n:Nat} {xs:List Value} (hown:w.ownsRow 0 e i.size v n xs) {A:Option Addr} {m c:Nat} {news:List Value} (hl:news.length=m*i.size)
  (hnews:m=0\/∃a,A=some a/\∀j u,news[j]?=some u->w.cell? (a.add j)=some u) (h1:∀u∈news,u.oneCell'=true) (hbytes:(n+m)*i.bytes<=140737488355328) :
  ∃v' w',(Builtin.append_ #[t,t] ty #[v,.slice A m c]).run P w=.ok v' w'/\w'.ownsRow 0 e i.size v' (n+m) (xs++news)/\w.grownBy w' v.ownBlock/\∀k,v'.ownBlock=some k->v.ownBlock=some k\/w.heap.size<=k:=by
 have h63:n+m<=140737488355328:=UW (Nat.le_mul_of_pos_right _ hb0) hbytes;have h63m:n+m<=maxLen:=by simp only[maxLen];omega
 have hlen:(xs++news).length=(n+m)*i.size:=by rw[UD,hown.1,hl,Nat.add_mul]
 have hgr:∀row,w.grownBy w row:=fun row=>⟨rfl,rfl,rfl,Uz _,fun _ _ _=>rfl⟩
 have grown:∀(old:Nat),old<n+m->∀(row:Option Nat),
   (w.drew.alloc (.cells (xs.toArray++news.toArray++Builtin.zeroCells z.cells (grownCap w (n+m) old e-(n+m))) e)).ownsRow 0 e i.size
    (.slice (some ⟨w.heap.size,0,none⟩) (n+m) (grownCap w (n+m) old e)) (n+m) (xs++news) /\
   w.grownBy (w.drew.alloc (.cells (xs.toArray++news.toArray++Builtin.zeroCells z.cells (grownCap w (n+m) old e-(n+m))) e)) row:=by
  intro old ho row;have hge:=grownCap_ge w (n+m) old e;have hcm:grownCap w (n+m) old e<=maxLen:=grownCap_le_maxLen w (n+m) old e h63m;refine⟨⟨hlen,.inr ⟨w.heap.size,_,_,rfl,Nat.zero_le _,heap_alloc_new w.drew _,hge,hcm,?_,?_⟩⟩,⟨rfl,rfl,rfl,by simp,fun k hk _=>Go.RowKit.Below.heap_alloc w.drew _ k hk⟩⟩;·simp only[Array.size_append,List.size_toArray,size_zeroCells,hzs,hown.1,hl,<- Nat.add_mul];congr 1;omega
  ·simp only[Array.toList_append,UM];rw[<- UM,<- hlen];exact List.take_left
 by_cases hm:m=0
 ·subst hm;have hn0:news=[]:=List.eq_nil_of_length_eq_zero (by simpa using hl);subst hn0;refine⟨v,w,?_,by simpa using hown,hgr _,fun k hk=>.inl hk⟩;have hfc:∀A,(Builtin.firstCells i.size 0 (.slice A 0 c)).run P w=.ok #[] w:=by intro A;cases A<;>simp[Builtin.firstCells,loadCells,loadCellsFrom]
  rcases hown.2 with⟨rfl,rfl⟩|⟨g,cap,cur,rfl,hbg,hg,hnc,hcm,hcs,htake⟩;·simp[Builtin.append_,run_underlying ht,Go.sizeOf,typeInfo,hi,Builtin.lenOf,hfc]
  ·simp[Builtin.append_,run_underlying ht,Go.sizeOf,typeInfo,hi,Builtin.lenOf,hfc,hnc,storeCells]
 ·obtain⟨a,hA,hnw⟩:=hnews.resolve_left hm;subst hA;clear hnews;have hnews:=hnw;rcases hown.2 with⟨rfl,rfl⟩|⟨g,cap,cur,rfl,hbg,hg,hnc,hcm,hcs,htake⟩
  ·have hx:xs=[]:=List.eq_nil_of_length_eq_zero (by simpa using hown.1);subst hx;have hr:=run_append_nil (P:=P) w t ty e i z ht hi hz a m c news hl hnews (by omega) (by omega) (by have hb:=hbytes;simp only[Nat.zero_add] at hb;omega);have hgw:=grown 0 (by omega) (Value.ownBlock (.slice none 0 0));simp only[Nat.zero_add,UY,Array.empty_append] at hgw⊢;exact⟨_,_,hr,hgw.1,hgw.2,fun k hk=>.inr (by simp only[Value.ownBlock,Uw] at hk;omega)⟩
  ·by_cases hroom:n+m<=cap
   ·obtain⟨w',h2,h3,h4⟩:=run_append_fits (P:=P) w 0 t ty e i i.size ht hi rfl g n cap xs hown a m c news hl hnews h1 hroom;exact⟨_,w',h2,h3,h4,fun k hk=>.inl hk⟩
   ·have holds:∀j u,xs[j]?=some u->w.cell? ((⟨g,0,none⟩:Addr).add j)=some u:=hown.cells (g:=g) rfl;have hr:=run_append_grow (P:=P) w t ty e i z ht hi hz ⟨g,0,none⟩ n cap xs hown.1 holds a m c news hl hnews (by omega) (by omega) (growslice_fits (by omega) hbytes);have hgw:=grown cap (by omega) (Value.ownBlock (.slice (some ⟨g,0,none⟩) n cap));exact⟨_,_,hr,hgw.1,hgw.2,fun k hk=>.inr (by simp only[Value.ownBlock,Uw] at hk;omega)⟩
theorem bq.snoc{ok:Nat->Prop}{t:Ty}{xs:List t.D}{cur ds:List Value}{x:t.D}(hr:bq w ok t xs cur)(hl:cur.length=xs.length*t.size)(hd:Rd w ok t x ds):bq w ok t (xs++[x]) (cur++ds):=by
 have hlen:=hd.length;intro j y hj;by_cases hjl:j<xs.length
 ·rw[Ve hjl] at hj;have:=hr j y hj;have hjle:j*t.size+t.size<=cur.length:=by
   rw[hl]
   calc j*t.size+t.size=(j+1)*t.size:=by rw[Nat.add_mul,Nat.one_mul]
    _<=xs.length*t.size:=Nat.mul_le_mul_right _ hjl
  rw[List.drop_append_of_le_length (by omega),List.take_append_of_le_length (by simp;omega)];exact this
 ·rw[List.getElem?_append_right (by omega)] at hj;have hj0:j=xs.length:=by
   have:=(UI.1 hj).1;simp at this;omega
  subst hj0;simp at hj;subst hj;rw[<- hl,List.drop_left,List.take_of_length_le (by omega)];exact hd
theorem bq.append{ok:Nat->Prop}{t:Ty}{xs ys:List t.D}{cur news:List Value}(hr:bq w ok t xs cur)(hl:cur.length=xs.length*t.size)(hr':bq w ok t ys news)(hl':news.length=ys.length*t.size):bq w ok t (xs++ys) (cur++news):=by
 intro j y hj;by_cases hjl:j<xs.length
 ·rw[Ve hjl] at hj;have:=hr j y hj;have hjle:j*t.size+t.size<=cur.length:=by
   rw[hl]
   calc j*t.size+t.size=(j+1)*t.size:=by rw[Nat.add_mul,Nat.one_mul]
    _<=xs.length*t.size:=Nat.mul_le_mul_right _ hjl
  rw[List.drop_append_of_le_length (by omega),List.take_append_of_le_length (by simp;omega)];exact this
 ·rw[List.getElem?_append_right (by omega)] at hj;have:=hr' _ y hj;have hle:cur.length<=j*t.size:=by rw[hl];exact Nat.mul_le_mul_right _ (by omega)
  have he:(cur++news).drop (j*t.size)=news.drop ((j-xs.length)*t.size):=by
   rw[List.drop_append,List.drop_of_length_le hle,UY,hl,<- Nat.sub_mul]
  rw[he];exact this
theorem D8{ok:Nat->Prop}{t:Ty}{ys:List t.D}{g o:Nat}(hx:∀i x,ys[i]?=some x->∃ds,Rd w ok t x ds/\∀j v,ds[j]?=some v->w.cell? ⟨g,o+i*t.size+j,none⟩=some v) :
  ∀m,m<=ys.length->∃news:List Value,news.length=m*t.size/\bq w ok t (ys.take m) news/\(∀u∈news,u.oneCell'=true)/\∀j u,news[j]?=some u->w.cell? ⟨g,o+j,none⟩=some u
 |0,_=>⟨[],by simp,fun i x e=>by simp at e,(fun u hu=>by cases hu),fun j u e=>by simp at e⟩
 |m+1,hm=>by
  obtain⟨news,h1,h2,h3,h4⟩:=D8 hx m (by omega);obtain⟨ds,h5,h6⟩:=hx m ys[m] (by simp);have hlen:=h5.length;refine⟨news++ds,by rw[UD,h1,hlen,Nat.add_mul,Nat.one_mul],?_,fun u hu=>?_,fun j u e=>?_⟩;·rw[List.take_succ_eq_append_getElem (by omega)];exact h2.snoc (by rw[h1];congr 1;simp;omega) h5
  ·rcases UK.1 hu with hu|hu
   ·exact h3 u hu
   ·exact h5.one u hu
  ·by_cases hj:j<news.length
   ·rw[Ve hj] at e;exact h4 j u e
   ·rw[List.getElem?_append_right (by omega)] at e;have:=h6 _ _ e;rw[h1] at this;rw[show o+j=o+m*t.size+(j-m*t.size) by omega];exact this
theorem flat{d:Dep}{t:Ty}{ys:List t.D}{v:Value}(hr:RdS C γ h w d t ys v):∃A c news,v=.slice A ys.length c/\news.length=ys.length*t.size/\bq w (okb C γ h none) t ys news/\(∀u∈news,u.oneCell'=true) /\
  (ys.length=0\/∃a,A=some a/\∀j u,news[j]?=some u->w.cell? (a.add j)=some u):=by
 obtain⟨A,c,hA,hle,hx⟩:=hr;cases ys with
 |nil=>exact⟨A,c,[],hA,by simp,(fun i x e=>by simp at e),(fun u hu=>by cases hu),.inl rfl⟩
 |cons y ys=>
  obtain⟨g,o,ds0,rfl,_⟩:=hx 0 y rfl;obtain⟨news,h1,h2,h3,h4⟩:=D8 (w:=w) (ok:=okb C γ h none) (ys:=y::ys) (g:=g) (o:=o) (fun i x e=>by
   obtain⟨g',o',ds,hA',_,_,h5,h6⟩:=hx i x e;simp only[Uw,Addr.mk.injEq,and_true] at hA';obtain⟨rfl,rfl⟩:=hA';exact⟨ds,h5,h6⟩) _ (Uz _)
  rw[List.take_length] at h2;exact⟨_,c,news,hA,h1,h2,h3,.inr ⟨⟨g,o,none⟩,rfl,fun j u e=>by rw[iG];exact h4 j u e⟩⟩
theorem di{t t':Ty}{xs:List t.D}{ys:List t'.D}(hc:iW t t' xs=some ys):∃e:t=t',e ▸ xs=ys:=by
 unfold iW at hc;split at hc;·rename_i e;exact⟨e,by simpa using hc⟩
 ·cases hc
theorem DJ(I:Inv C γ h w){e:TypeId}{t:Ty}(hsz:0<t.size){s:V1}{xs:List t.D}{k:Option Nat}(hb:kG h e t s=some (xs,k)){v:Value}(hv:aM C γ h w s v) :
  ∃cs:List Value,w.ownsRow 0 e t.size v xs.length cs/\bq w (okb C γ h none) t xs cs /\
   ((k=none/\v.ownBlock=none)\/∃k0 en,k=some k0/\h k0=some en/\en.box.live/\en.box.isRow/\((γ k0=none/\v.ownBlock=none)\/∃g c,γ k0=some (g,c)/\v.ownBlock=some g)):=by
 have own:∀{kk ver n:Nat}{e':TypeId}{t':Ty}{zs:List t'.D},h.at kk ver=some (.row e' t' zs)->e'=e->∀(et:t'=t),n<=zs.length->d9 (γ kk) n v ->
   ∃cs:List Value,w.ownsRow 0 e t.size v n cs/\bq w (okb C γ h none) t ((et ▸ zs:List t.D).take n) cs/\∃en,h kk=some en/\en.box.live/\en.box.isRow/\((γ kk=none/\v.ownBlock=none)\/∃g c,γ kk=some (g,c)/\v.ownBlock=some g):=by
  intro kk ver n e' t' zs hat he' et hn ho;subst et;subst he';obtain⟨en,hk,hve,hbox⟩:=aK hat
  have hb0:=I.box kk en hk;rw[hbox] at hb0;rcases hb0 with⟨h0,hz⟩|⟨g,c,cur,hγ,hbl,hxc,hcm,hcs,hszt,hr⟩;·rw[h0] at ho;obtain⟨rfl,rfl⟩:=ho;exact⟨[],World.ownsRow_nil w 0 _ _,fun i x e=>by simp at e,en,hk,by rw[hbox];trivial,by rw[hbox];trivial,.inl ⟨h0,rfl⟩⟩
  ·rw[hγ] at ho;rw[show v=_ from ho];refine⟨cur.toList.take (n*t'.size),⟨(by rw[U1,Array.length_toList,hcs];exact Nat.min_eq_left (Nat.mul_le_mul_right _ (UW hn hxc))),.inr ⟨g,c,cur,rfl,Nat.zero_le _,hbl,UW hn hxc,hcm,hcs,rfl⟩⟩,fun j x hj=>?_,en,hk,by rw[hbox];trivial,by rw[hbox];trivial,.inr ⟨g,c,hγ,rfl⟩⟩;rw[UZ] at hj;split at hj
   ·rename_i hjn;have:=hr j x hj;have he:((cur.toList.take (n*t'.size)).drop (j*t'.size)).take t'.size=(cur.toList.drop (j*t'.size)).take t'.size:=by
     rw[List.drop_take,List.take_take,Nat.min_eq_left];rw[<- Nat.sub_mul]
     calc t'.size=1*t'.size:=by rw[Nat.one_mul]
      _<=(n-j)*t'.size:=Nat.mul_le_mul_right _ (by omega)
    rw[he];exact this
   ·cases hj
 unfold kG at hb;split at hb;·simp only[Uw,UC] at hb;obtain⟨rfl,rfl⟩:=hb;rw[show v=_ from hv];exact⟨[],World.ownsRow_nil w 0 _ _,fun i x e=>by simp at e,.inl ⟨rfl,rfl⟩⟩
 ·rename_i kk ver;split at hb
  ·rename_i e' t' zs hat
   split at hb
   ·rename_i he';simp only[Option.map_eq_some_iff,UC] at hb;obtain⟨ys,hc,rfl,rfl⟩:=hb;obtain⟨et,hys⟩:=di hc;obtain⟨en,hk,hve,hbox⟩:=aK hat
    have ho:=hv.2.get hk hve zs.length (by rw[hbox];rfl);obtain⟨cs,h1,h2,h3⟩:=own hat he' et (Uz _) ho;subst et;simp only at hys;subst hys;rw[List.take_length] at h2;exact⟨cs,h1,h2,.inr ⟨kk,h3.choose,rfl,h3.choose_spec⟩⟩
   ·cases hb
  ·cases hb
 ·rename_i kk ver n;split at hb
  ·rename_i e' t' zs hat
   split at hb
   ·rename_i he';simp only[Option.map_eq_some_iff,UC] at hb;obtain⟨ys,hc,rfl,rfl⟩:=hb;obtain⟨et,hys⟩:=di hc;obtain⟨en,hk,hve,hbox⟩:=aK hat
    obtain⟨hn,ho⟩:=hv.2.get hk hve zs.length (by rw[hbox];rfl);obtain⟨cs,h1,h2,h3⟩:=own hat he' et hn ho;subst et;simp only at hys;subst hys;refine⟨cs,?_,h2,.inr ⟨kk,h3.choose,rfl,h3.choose_spec⟩⟩;rw[show(zs.take n).length=n by simp;omega];exact h1
   ·cases hb
  ·cases hb
 ·cases hb
theorem bq.of_take{ok:Nat->Prop}{t:Ty}{xs:List t.D}{cur:List Value}(hr:bq w ok t xs (cur.take (xs.length*t.size))):bq w ok t xs cur:=by
 intro j x hj;have hjl:j<xs.length:=(UI.1 hj).1;have:=hr j x hj;have he:((cur.take (xs.length*t.size)).drop (j*t.size)).take t.size=(cur.drop (j*t.size)).take t.size:=by
  rw[List.drop_take,List.take_take,Nat.min_eq_left];rw[<- Nat.sub_mul]
  calc t.size=1*t.size:=by rw[Nat.one_mul]
   _<=(xs.length-j)*t.size:=Nat.mul_le_mul_right _ (by omega)
 rw[<- he];exact this
theorem nW(I:Inv C γ h w){t:Ty}{x:V1}{ys:List t.D}(hm:kL h t x=some ys){v:Value}(hv:aM C γ h w x v):∃d,RdS C γ h w d t ys v:=by
 unfold kL at hm;split at hm;·simp only[Uw] at hm;subst hm;rw[show v=_ from hv];exact⟨none,none,0,by simp,by simp,fun i x e=>by simp at e⟩
 ·rename_i c _;split at hm
  ·rename_i rr hrr;obtain⟨et,hys⟩:=di hm;have h1:=lK I hrr hv;obtain⟨t',zs⟩:=rr;simp only at et hys h1;subst et;simp only at hys;subst hys;exact⟨_,h1⟩
  ·cases hm
 ·cases hm
def KO(h:Heap):Option Nat->List (Nat×En)
 |some k=>[(k,(⟨h.next k,0,.gone⟩:En))]
 |none=>[]
def dK(h:Heap)(k:Option Nat)(KK:Nat)(b:Box):Heap:=(KO h k++[(KK,(⟨h.next KK,0,b⟩:En))]).foldl (fun h p=>h.set p.1 p.2) h
theorem lN(h:Heap)(k:Option Nat)(KK:Nat)(b:Box):dK h k KK b KK=some ⟨h.next KK,0,b⟩:=by
 unfold dK;rw[List.foldl_append];exact bO _ _ _
theorem nI(h:Heap){k KK:Nat}(b:Box)(hne:k≠KK):dK h (some k) KK b k=some ⟨h.next k,0,.gone⟩:=by
 unfold dK KO;simp only[List.cons_append,UY,U9,List.foldl_nil];rw[bn _ _ hne,bO]
theorem o9(h:Heap){k:Option Nat}{KK j:Nat}(b:Box)(hne:j≠KK)(hk:k≠some j):dK h k KK b j=h j:=by
 unfold dK;rw[List.foldl_append];simp only[U9,List.foldl_nil];rw[bn _ _ hne];cases k with
 |none=>rfl
 |some k0=>exact bn _ _ (fun e=>hk (e ▸ rfl))
theorem pg(I:Inv C γ h w){k:Option Nat}{KK:Nat}{e:TypeId}{t:Ty}{zs:List t.D}{v v':Value}{w':World}(hgrow:w.grownBy w' v.ownBlock)(hblk:∀g,v'.ownBlock=some g->v.ownBlock=some g\/w.heap.size<=g)
  (hkey:(k=none/\v.ownBlock=none)\/∃k0 en,k=some k0/\h k0=some en/\en.box.live/\en.box.isRow/\((γ k0=none/\v.ownBlock=none)\/∃g c,γ k0=some (g,c)/\v.ownBlock=some g))
  (V:Option (Nat×Nat)) (hV:∀g c,V=some (g,c)->v'.ownBlock=some g) :
  cK C γ h w C (jl γ KK V) (dK h k KK (.row e t zs)) w'/\(dJ C (jl γ KK V) (dK h k KK (.row e t zs)) w' KK (.row e t zs)->Inv C (jl γ KK V) (dK h k KK (.row e t zs)) w'):=by
 have base:∀g,v.ownBlock=some g->∃k0 en c,k=some k0/\h k0=some en/\en.box.live/\en.box.isRow/\γ k0=some (g,c):=by
  intro g hg;rcases hkey with⟨_,h0⟩|⟨k0,en,h1,h2,h3,h4,h5⟩;·rw[h0] at hg;cases hg
  ·rcases h5 with⟨_,h5⟩|⟨g',c,h5,h6⟩
   ·rw[h5] at hg;cases hg
   ·rw[h6] at hg;simp only[Uw] at hg;subst hg;exact⟨k0,en,c,h1,h2,h3,h4,h5⟩
 have after:∀j ee,h j=some ee->∃ee',dK h k KK (.row e t zs) j=some ee'/\(ee.ver<ee'.ver\/(j≠KK/\k≠some j/\ee'=ee)):=by
  intro j ee hj;by_cases e1:j=KK;·subst e1;exact⟨_,lN _ _ _ _,.inl (lF hj)⟩
  ·by_cases e2:k=some j
   ·subst e2;exact⟨_,nI _ _ e1,.inl (lF hj)⟩
   ·exact⟨ee,by rw[o9 _ _ e1 e2];exact hj,.inr ⟨e1,e2,rfl⟩⟩
 have bump:∀j ee,h j=some ee->k=some j->∃ee',dK h k KK (.row e t zs) j=some ee'/\ee.ver<ee'.ver:=by
  intro j ee hj hk;obtain⟨ee',h1,h2⟩:=after j ee hj;exact⟨ee',h1,h2.resolve_right fun h=>h.2.1 hk⟩
 have other:∀j ee',dK h k KK (.row e t zs) j=some ee'->ee'.box.live->j≠KK->k≠some j/\h j=some ee':=by
  intro j ee' hj hl hne;by_cases e2:k=some j;·subst e2;rw[nI _ _ hne] at hj;simp only[Uw] at hj;subst hj;exact hl.elim
  ·rw[o9 _ _ hne e2] at hj;exact⟨e2,hj⟩
 have T:cK C γ h w C (jl γ KK V) (dK h k KK (.row e t zs)) w':=by
  refine⟨hgrow.size,fun j ee hj=>?_,fun g hg hh=>?_,fun j ee' c g hj hl hγ hg=>?_,fun _ _ h=>h,fun _ h=>h⟩;·obtain⟨ee',h1,h2⟩:=after j ee hj;refine⟨ee',h1,h2.imp id fun⟨e1,_,e3⟩=>?_⟩;subst e3;exact⟨rfl,dE _ _ e1,Alike.refl _⟩
  ·refine hgrow.block g hg fun hb=>?_
   obtain⟨k0,en,c,h1,h2,h3,h4,h5⟩:=base g hb.symm;obtain⟨_,e',he',hv,_⟩:=hh k0 en c h2 h3 h5;obtain⟨ee',h6,h7⟩:=bump k0 en h2 h1;rw[he'] at h6;simp only[Uw] at h6;subst h6;omega
  ·by_cases e1:j=KK
   ·subst e1;rw[bG] at hγ;rcases hblk g (hV g c hγ) with hb|hb
    ·obtain⟨k0,en,c0,h1,h2,h3,h4,h5⟩:=base g hb;exact⟨k0,en,c0,h2,h3,h5,.inr (bump k0 en h2 h1)⟩
    ·omega
   ·rw[dE _ _ e1] at hγ;obtain⟨_,h2⟩:=other j ee' hj hl e1;exact⟨j,ee',c,h2,hl,hγ,.inl rfl⟩
 refine⟨T,fun hB=>I.step ⟨hgrow.size,fun g hg hno=>hgrow.block g hg fun hb=>?_,hgrow.os,hgrow.tape,hgrow.output⟩ T (fun j ee hj=>?_) (fun j j' ee ee' g c c' hj hl hj' hl' h1 h2=>?_) (fun j ee g c hj hl h1=>?_)⟩;·obtain⟨k0,en,c,h1,h2,h3,h4,h5⟩:=base g hb.symm;exact hno (I.own k0 en g c h2 h3 h5)
 ·by_cases e1:j=KK
  ·subst e1;rw[lN] at hj;simp only[Uw] at hj;subst hj;exact hB
  ·by_cases e2:k=some j
   ·subst e2;rw[nI _ _ e1] at hj;simp only[Uw] at hj;subst hj;trivial
   ·rw[o9 _ _ e1 e2] at hj;refine dJ.step T (I.box j ee hj) (dE _ _ e1) fun hl g c hγ=>hgrow.block g (jh I hj hl hγ) fun hb=>?_
    obtain⟨k0,en,c0,h1,h2,h3,h4,h5⟩:=base g hb.symm;exact e2 (by rw[h1,I.inj j k0 ee en g c c0 hj hl h2 h3 hγ h5])
 ·have side:∀{j' ee' g c c'},V=some (g,c)->h j'=some ee'->ee'.box.live->γ j'=some (g,c')->k≠some j'->False:=by
   intro j' ee' g c c' hVg hj' hl' hγ' hk';rcases hblk g (hV g c hVg) with hb|hb;·obtain⟨k0,en,c0,h1,h2,h3,h4,h5⟩:=base g hb;exact hk' (by rw[h1,I.inj j' k0 ee' en g c' c0 hj' hl' h2 h3 hγ' h5])
   ·have:=jh I hj' hl' hγ';omega
  by_cases e1:j=KK<;>by_cases e2:j'=KK
  ·rw[e1,e2]
  ·subst e1;rw[bG] at h1;rw[dE _ _ e2] at h2;obtain⟨h3,h4⟩:=other j' ee' hj' hl' e2;exact(side h1 h4 hl' h2 h3).elim
  ·subst e2;rw[bG] at h2;rw[dE _ _ e1] at h1;obtain⟨h3,h4⟩:=other j ee hj hl e1;exact(side h2 h4 hl h1 h3).elim
  ·rw[dE _ _ e1] at h1;rw[dE _ _ e2] at h2;exact I.inj j j' ee ee' g c c' (other j ee hj hl e1).2 hl (other j' ee' hj' hl' e2).2 hl' h1 h2
 ·by_cases e1:j=KK
  ·subst e1;rw[bG] at h1;rcases hblk g (hV g c h1) with hb|hb
   ·obtain⟨k0,en,c0,h1,h2,h3,h4,h5⟩:=base g hb;exact I.own k0 en g c0 h2 h3 h5
   ·exact I.new g (UW I.size hb)
  ·rw[dE _ _ e1] at h1;exact I.own j ee g c (other j ee hj hl e1).2 hl h1
theorem Kg{te:TypeId->Option TI}(hte:∀t i,te t=some i->aS P t i){st:St}{a:Act}(R':Rel C γ w st a.tmps){o:Oper}{sT:TypeId}{so xo:Operand}{argTypes:Array TypeId}{args:Array Operand}(ho:o.op=.call { callee:=.builtin .append,args,argTypes })(hargs:args.toList=[so,xo])(hat:argTypes.toList=[sT,sT])
  {s x:V1} (hs:opd st so=some s) (hx:opd st xo=some x) {K:Dl->Option R} (he:iN te st o.dst sT s x K=some r):∃d,K d=some r/\gH P C w st a o d:=by
 have I:=R'.inv;have hsr:=(R'.opd hs).1;have hxr:=(R'.opd hx).1;unfold iN at he;split at he;·cases he
 ·rename_i e hel;split at he
  ·cases he
  ·rename_i ti hti;split at he
   ·cases he
   ·rename_i t ht;split at he
    ·rename_i xs k ys hb hm;obtain⟨⟨hbytes,hb0,hs0⟩,he⟩:=aa he;refine⟨_,he,fun next Q hn=>?_⟩;have hi:=hte _ _ hti;have hsl:P.underlying sT=some (.slice e):=by
      cases h0:te sT with
      |none=>rw[h0] at hel;simp at hel
      |some i0=>rw[h0] at hel;exact(hte _ _ h0).elem e hel
     have hts:=(hi.ty t ht).1;obtain⟨inf,hinf,hisz,hiby,z,hz,hzs,_⟩:=hi.info;obtain⟨cs,hown,hrow,hkey⟩:=DJ I (by omega) hb hsr;obtain⟨d,hrd⟩:=nW I hm hxr;obtain⟨A,c,news,hxv,hnl,hnr,hn1,hnc⟩:=flat hrd;rw[<- hiby] at hbytes hb0;rw[hts,<- hisz] at hown hnl;obtain⟨v',w',hrun,hown',hgrow,hblk⟩:=qP (P:=P) (t:=sT) (ty:=o.type) hsl hinf hz (by omega) (by omega) hb0 hown hnl hnc hn1 hbytes;have hex:(execOp a.eval o).run P w=.ok (.value v') w':=by
      have e1:args=#[so,xo]:=Array.ext' hargs;have e2:argTypes=#[sT,sT]:=Array.ext' hat
      subst e1;subst e2;simp only[execOp,ho,resolve,invoke,builtin,UJ,UQ,Uy,List.map_toArray,UO,List.map_nil,hxv];rw[hrun];rfl
     have hV:∀(V:Option (Nat×Nat)) (_:∀g c,V=some (g,c)->v'.ownBlock=some g) (_:dJ C (jl γ (dk o.dst) V) (dK st.h k (dk o.dst) (.row e t (xs++ys))) w' (dk o.dst) (.row e t (xs++ys))) (_:d9 V (xs++ys).length v') (_:v'.oneCell'=true),next (a.put o.dst v') w':=by
      intro V hV hB hO h1';obtain⟨T,hI⟩:=pg (e:=e) (t:=t) (zs:=xs++ys) I hgrow hblk hkey V hV;refine hn (jl γ (dk o.dst) V) w' v' (R'.app (x:=⟨.v (.c (.own (dk o.dst) (st.h.next (dk o.dst)))),s.keys++x.keys++[dk o.dst],_⟩) T (hI hB) ⟨h1',aY (lN _ _ _ _) rfl fun n hn'=>?_⟩);simp only[Box.len,Uw] at hn';rw[bG,<- hn'];exact hO
     refine eH hex ?_;rcases hown'.2 with⟨rfl,h0⟩|⟨g,cap,cur,rfl,hbg,hg,hnc',hcm,hcs,htake⟩;·refine hV none (fun g c e=>by cases e) (.inl ⟨bG _ _ _,?_⟩) ⟨by simpa using h0,rfl⟩ rfl;exact List.eq_nil_of_length_eq_zero (by simpa using h0)
     ·refine hV (some (g,cap)) (fun g' c' e=>by obtain⟨rfl,rfl⟩:=dS e;rfl) ?_ (by simp[d9]) rfl;obtain⟨T,_⟩:=pg (e:=e) (t:=t) (zs:=xs++ys) (KK:=dk o.dst) I hgrow hblk hkey (some (g,cap)) (fun g' c' e=>by obtain⟨rfl,rfl⟩:=dS e;rfl);refine .inr ⟨g,cap,cur,bG _ _ _,hg,by simpa using hnc',hcm,by rw[hcs,hts,hisz],by omega,?_⟩;refine bq.of_take ?_;rw[show(xs++ys).length*t.size=(xs.length+ys.length)*inf.size by rw[UD,hts,hisz],htake];exact(hrow.append (by rw[hown.1,hts,hisz]) hnr (by rw[hnl,hts,hisz])).mono T.sz fun g' ho' hg'=>T.okb (d:=none) trivial ho' hg'
    ·cases he
theorem BK{t e:TypeId}{i:TypeInfo}{z:Value}(hzs:z.cells.size=i.size){n m old:Nat}{xs news:List Value}(hx:xs.length=n*i.size)(hl:news.length=m*i.size)(h63m:n+m<=maxLen)(row:Option Nat) :
  (w.drew.alloc (.cells (xs.toArray++news.toArray++Builtin.zeroCells z.cells (grownCap w (n+m) old e-(n+m))) e)).ownsRow 0 e i.size (.slice (some ⟨w.heap.size,0,none⟩) (n+m) (grownCap w (n+m) old e)) (n+m) (xs++news) /\
   w.grownBy (w.drew.alloc (.cells (xs.toArray++news.toArray++Builtin.zeroCells z.cells (grownCap w (n+m) old e-(n+m))) e)) row:=by
 have hlen:(xs++news).length=(n+m)*i.size:=by rw[UD,hx,hl,Nat.add_mul]
 have hge:=grownCap_ge w (n+m) old e;have hcm:grownCap w (n+m) old e<=maxLen:=grownCap_le_maxLen w (n+m) old e h63m;refine⟨⟨hlen,.inr ⟨w.heap.size,_,_,rfl,Nat.zero_le _,heap_alloc_new w.drew _,hge,hcm,?_,?_⟩⟩,⟨rfl,rfl,rfl,by simp,fun k hk _=>Go.RowKit.Below.heap_alloc w.drew _ k hk⟩⟩;·simp only[Array.size_append,List.size_toArray,size_zeroCells,hzs,hx,hl,<- Nat.add_mul];congr 1;omega
 ·simp only[Array.toList_append,UM];rw[<- UM,<- hlen];exact List.take_left
theorem NF{t ty e:TypeId}{i:TypeInfo}{z:Value}(ht:P.underlying t=some (.slice e))(hi:P.info? e=some i)(hz:i.zero=some z)(hzs:z.cells.size=i.size)(hsz:0<i.size)(hb0:0<i.bytes)
  {A0:Option Addr} {n:Nat} {xs:List Value} (hx:xs.length=n*i.size) (hxs:n=0\/∃a,A0=some a/\∀j u,xs[j]?=some u->w.cell? (a.add j)=some u) {A:Option Addr} {m c:Nat} {news:List Value} (hl:news.length=m*i.size)
  (hnews:m=0\/∃a,A=some a/\∀j u,news[j]?=some u->w.cell? (a.add j)=some u) (hm:0<m) (hbytes:(n+m)*i.bytes<=140737488355328) :
  ∃v' w',(Builtin.append_ #[t,t] ty #[.slice A0 n n,.slice A m c]).run P w=.ok v' w'/\w'.ownsRow 0 e i.size v' (n+m) (xs++news)/\w.grownBy w' none/\∀k,v'.ownBlock=some k->w.heap.size<=k:=by
 have h63:n+m<=140737488355328:=UW (Nat.le_mul_of_pos_right _ hb0) hbytes;have h63m:n+m<=maxLen:=by simp only[maxLen];omega
 obtain⟨a,hA,hnw⟩:=hnews.resolve_left (by omega);subst hA;have some_:∀a0,(∀j u,xs[j]?=some u->w.cell? (a0.add j)=some u)->∃v' w',(Builtin.append_ #[t,t] ty #[.slice (some a0) n n,.slice (some a) m c]).run P w=.ok v' w'/\w'.ownsRow 0 e i.size v' (n+m) (xs++news)/\w.grownBy w' none/\∀k,v'.ownBlock=some k->w.heap.size<=k:=fun a0 holds=>by
  have hr:=run_append_grow (P:=P) w t ty e i z ht hi hz a0 n n xs hx holds a m c news hl hnw (by omega) (by omega) (growslice_fits (by omega) hbytes);have hgw:=BK (w:=w) (t:=t) (e:=e) (old:=n) hzs hx hl h63m none;exact⟨_,_,hr,hgw.1,hgw.2,fun k hk=>by simp only[Value.ownBlock,Uw] at hk;omega⟩
 rcases hxs with rfl|⟨a0,rfl,holds⟩
 ·have h0:xs=[]:=List.eq_nil_of_length_eq_zero (by simpa using hx);subst h0;cases A0 with
  |some a0=>exact some_ a0 (fun j u e=>by simp at e)
  |none=>
   have hr:=run_append_nil (P:=P) w t ty e i z ht hi hz a m c news hl hnw (by omega) (by omega) (by have hb:=hbytes;simp only[Nat.zero_add] at hb;omega);have hgw:=BK (w:=w) (t:=t) (e:=e) (n:=0) (old:=0) (xs:=[]) hzs (by simp) hl h63m none;simp only[Nat.zero_add,UY,Array.empty_append] at hgw⊢;exact⟨_,_,hr,hgw.1,hgw.2,fun k hk=>by simp only[Value.ownBlock,Uw] at hk;omega⟩
 ·exact some_ a0 holds
theorem IC{te:TypeId->Option TI}(hte:∀t i,te t=some i->aS P t i){st:St}{a:Act}(R':Rel C γ w st a.tmps){o:Oper}{sT:TypeId}{so xo:Operand}{argTypes:Array TypeId}{args:Array Operand}(ho:o.op=.call { callee:=.builtin .append,args,argTypes })(hargs:args.toList=[so,xo])(hat:argTypes.toList=[sT,sT])
  {s x:V1} (hs:opd st so=some s) (hx:opd st xo=some x) {K:Dl->Option R} (he:gI te st o.dst sT s x K=some r):∃d,K d=some r/\gH P C w st a o d:=by
 have I:=R'.inv;have hsr:=(R'.opd hs).1;have hxr:=(R'.opd hx).1;unfold gI at he;split at he
 ·rename_i dp t' xs';split at he
  ·cases he
  ·rename_i e hel;split at he
   ·cases he
   ·rename_i ti hti;split at he
    ·cases he
    ·rename_i t ht;split at he
     ·rename_i xs ys hb hm;obtain⟨⟨hdp,hpos⟩,he⟩:=aa he;obtain⟨⟨hbytes,hb0,hs0⟩,he⟩:=aa he;refine⟨_,he,fun next Q hn=>?_⟩;obtain⟨rfl,hy⟩:=di hb;simp only at hy;subst hy;have hi:=hte _ _ hti;have hsl:P.underlying sT=some (.slice e):=by
       cases h0:te sT with
       |none=>rw[h0] at hel;simp at hel
       |some i0=>rw[h0] at hel;exact(hte _ _ h0).elem e hel
      have hts:=(hi.ty t' ht).1;obtain⟨inf,hinf,hisz,hiby,z,hz,hzs,_⟩:=hi.info;obtain⟨hrds,A1,hv1⟩:=hsr.2.get hdp;obtain⟨A0,c0,cs,hv0,hcl,hrow,hc1,hcc⟩:=flat hrds;rw[hv1] at hv0;simp only[Value.slice.injEq] at hv0;obtain⟨rfl,_,rfl⟩:=hv0;obtain⟨d,hrd⟩:=nW I hm hxr;obtain⟨A,c,news,hxv,hnl,hnr,hn1,hnc⟩:=flat hrd;rw[<- hiby] at hbytes hb0;rw[hts,<- hisz] at hcl hnl;obtain⟨v',w',hrun,hown',hgrow,hblk⟩:=NF (P:=P) (t:=sT) (ty:=o.type) hsl hinf hz (by omega) (by omega) hb0 hcl hcc hnl hnc hpos hbytes;have hex:(execOp a.eval o).run P w=.ok (.value v') w':=by
       have e1:args=#[so,xo]:=Array.ext' hargs;have e2:argTypes=#[sT,sT]:=Array.ext' hat
       subst e1;subst e2;simp only[execOp,ho,resolve,invoke,builtin,UJ,UQ,Uy,List.map_toArray,UO,List.map_nil,hxv,hv1];rw[hrun];rfl
      have hblk':∀g,v'.ownBlock=some g->(Value.slice none 0 0).ownBlock=some g\/w.heap.size<=g:=fun g hg=>.inr (hblk g hg)
      refine eH hex ?_;rcases hown'.2 with⟨rfl,h0⟩|⟨g,cap,cur,rfl,hbg,hg,hnc',hcm,hcs,htake⟩;·omega
      ·obtain⟨T,hI⟩:=pg (e:=e) (t:=t') (zs:=xs'++ys) (KK:=dk o.dst) (k:=none) (v:=.slice none 0 0) I hgrow hblk' (.inl ⟨rfl,rfl⟩) (some (g,cap)) (fun g' c' e=>by obtain⟨rfl,rfl⟩:=dS e;rfl);have hB:dJ C (jl γ (dk o.dst) (some (g,cap))) (dK st.h none (dk o.dst) (.row e t' (xs'++ys))) w' (dk o.dst) (.row e t' (xs'++ys)):=by
        refine .inr ⟨g,cap,cur,bG _ _ _,hg,by simpa using hnc',hcm,by rw[hcs,hts,hisz],by omega,?_⟩;refine bq.of_take ?_;rw[show(xs'++ys).length*t'.size=(xs'.length+ys.length)*inf.size by rw[UD,hts,hisz],htake];exact(hrow.append (by rw[hcl,hts,hisz]) hnr (by rw[hnl,hts,hisz])).mono T.sz fun g' ho' hg'=>T.okb (d:=none) trivial ho' hg'
       refine hn (jl γ (dk o.dst) (some (g,cap))) w' _ (R'.app (x:=⟨.v (.c (.own (dk o.dst) (st.h.next (dk o.dst)))),(V1.c (.slc dp t' xs')).keys++x.keys++[dk o.dst],_⟩) T (hI hB) ⟨rfl,aY (lN _ _ _ _) rfl fun n hn'=>?_⟩);simp only[Box.len,Uw] at hn';rw[bG,<- hn'];simp[d9]
     ·cases he
 ·exact Kg hte R' ho hargs hat hs hx he
end
end Rv
namespace Rv
open Go
section
variable{P:Program}{C C':Ctx}{γ γ':Gam}{h h':Heap}{w:World}{R:Type}{r:R}
theorem yl{a b:Value}(he:zB a b=true):a=b:=by
 unfold zB at he;split at he;·rfl
 ·rfl
 ·rfl
 ·rename_i f a b g c d;simp only[UB,beq_iff_eq,Array.isEmpty_iff] at he;obtain⟨⟨⟨⟨rfl,rfl⟩,rfl⟩,rfl⟩,rfl⟩:=he;rfl
 ·cases he
structure Ren (C:Ctx) (γ:Gam) (h:Heap) (w:World) (C':Ctx) (γ':Gam) (h':Heap) (keys deps:List Nat):Prop where
 back:∀k' e' g c,h' k'=some e'->e'.box.live->γ' k'=some (g,c)->∃k0 e0 c0,k0∈keys/\h k0=some e0/\e0.box.live/\γ k0=some (g,c0)
 apart:∀k,k∈deps->k ∉ keys
 rd:∀d g,okb C γ h d g->g<w.heap.size->(∀x,d=some x->x.1∈deps)->C'.rd g
 rdb:∀k e g c l,k∈deps->h k=some e->e.box=.cells l->γ k=some (g,c)->C'.rd g
theorem Ren.okb{keys deps:List Nat}(N:Ren C γ h w C' γ' h' keys deps){d:Dep}{g:Nat}(ho:Rv.okb C γ h d g)(hg:g<w.heap.size)(hd:∀x,d=some x->x.1∈deps):Rv.okb C' γ' h' none g:=by
 refine⟨N.rd d g ho hg hd,fun k' e' c hk hl hγ=>?_⟩;obtain⟨k0,e0,c0,hk0,he0,hl0,hγ0⟩:=N.back k' e' g c hk hl hγ;have:=(ho.2 k0 e0 c0 he0 hl0 hγ0).1;exact absurd hk0 (N.apart k0 (by have:=hd _ this;simpa using this))
theorem Ren.okbb{keys deps:List Nat}(N:Ren C γ h w C' γ' h' keys deps)(I:Inv C γ h w){k:Nat}{e:En}{g c:Nat}{l:List Cell}(hk:h k=some e)(hb:e.box=.cells l)(hg:γ k=some (g,c))(hd:k∈deps):Rv.okb C' γ' h' none g:=by
 refine⟨N.rdb k e g c l hd hk hb hg,fun k' e' c' hk' hl hγ=>?_⟩;obtain⟨k0,e0,c0,hk0,he0,hl0,hγ0⟩:=N.back k' e' g c' hk' hl hγ;have:=I.inj k k0 e e0 g c c0 hk (by rw[hb];trivial) he0 hl0 hg hγ0;exact absurd (this ▸ hk0) (N.apart k hd)
theorem Ren.rdm{keys deps:List Nat}(N:Ren C γ h w C' γ' h' keys deps){t:Ty}{x:t.D}{cs:List Value}(hr:Rd w (Rv.okb C γ h none) t x cs):Rd w (Rv.okb C' γ' h' none) t x cs:=
 hr.mono (Uz _) fun g ho hg=>⟨rfl,N.okb ho hg (fun x e=>by cases e)⟩
theorem Ren.rds{keys deps:List Nat}(N:Ren C γ h w C' γ' h' keys deps){d:Dep}{t:Ty}{xs:List t.D}{v:Value}(hr:RdS C γ h w d t xs v)(hd:∀x,d=some x->x.1∈deps):RdS C' γ' h' w none t xs v:=by
 obtain⟨A,c,hv,hle,hx⟩:=hr;refine⟨A,c,hv,hle,fun i x e=>?_⟩;obtain⟨g,o,ds,hA,ho,hg,hrd,hc⟩:=hx i x e;exact⟨g,o,ds,hA,N.okb ho hg hd,hg,N.rdm hrd,hc⟩
theorem yI{t:Ty}{b:Box}{ys:List t.D}(hc:Dc h t b=some ys):b.len=some ys.length/\((∃e,b=.row e t ys)\/b=.pub t ys):=by
 unfold Dc at hc;split at hc;·rename_i e t' xs;obtain⟨rfl,hy⟩:=di hc;simp only at hy;subst hy;exact⟨rfl,.inl ⟨e,rfl⟩⟩
 ·rename_i t' xs;obtain⟨rfl,hy⟩:=di hc;simp only at hy;subst hy;exact⟨rfl,.inr rfl⟩
 ·cases hc
theorem EW{k v:Nat}{t:Ty}{b:Box}{ys:List t.D}(ha:h.at k v=some b)(hb:(∃e,b=.row e t ys)\/b=.pub t ys):rowOf h (.own k v)=some ⟨t,ys⟩/\∀n,rowOf h (.ownP k v n)=some ⟨t,ys.take n⟩:=by
 rcases hb with⟨e,rfl⟩|rfl;·simp[rowOf,ha]
 ·simp[rowOf,ha]
theorem Nq(I:Inv C γ h w){keys deps bm:List Nat}(N:Ren C γ h w C' γ' h' keys deps){nm:Nm}{cd:CD}{c:Cell}{y:cd.T}{met:Met}(ha:cd.abs h bm c=some (y,met)){v:Value}(hv:av C γ h w c v){m:Nat}
  (hdeps:∀k,k∈met.deps->k∈deps) (hrows:∀k,some k∈met.rows->k∈keys)
  (hent:∀p,p∈(cd.mk nm y m).2.1->h' p.1=some p.2) (hγr:∀j q,met.rows[j]?=some q->γ' (nm (m+j)).1=q.elim none γ)
  (hbox:∀i k,bm[i]?=some k->(∃e l,h' (nm i).1=some e/\e.ver=(nm i).2/\e.box=.cells l)/\γ' (nm i).1=γ k) :
  av C' γ' h' w (cd.mk nm y m).1 v/\(cd.mk nm y m).2.2=m+met.rows.length/\(cd.mk nm y m).2.1.map (·.1)=(List.range met.rows.length).map (fun j=>(nm (m+j)).1) /\
   ∀p,p∈(cd.mk nm y m).2.1->dJ C' γ' h' w p.1 p.2.box:=by
 have h1:=av.one hv;unfold CD.abs at ha;split at ha;·rename_i k j n;obtain⟨hk,ha⟩:=aa ha;simp only[UC,Uw] at ha;obtain⟨rfl,rfl⟩:=ha;subst hk;exact⟨hv,by simp[CD.mk],by simp[CD.mk],fun p hp=>by simp[CD.mk] at hp⟩
 ·simp only[UC,Uw] at ha;obtain⟨rfl,rfl⟩:=ha;exact⟨hv,by simp[CD.mk],by simp[CD.mk],fun p hp=>by simp[CD.mk] at hp⟩
 ·simp only[UC,Uw] at ha;obtain⟨rfl,rfl⟩:=ha;exact⟨hv,by simp[CD.mk],by simp[CD.mk],fun p hp=>by simp[CD.mk] at hp⟩
 ·simp only[UC,Uw] at ha;obtain⟨rfl,rfl⟩:=ha;refine⟨⟨h1,?_⟩,by simp[CD.mk],by simp[CD.mk],fun p hp=>by simp[CD.mk] at hp⟩;rw[show v=_ from hv];exact⟨none,0,by simp,by simp,fun i x e=>by simp at e⟩
 ·rename_i t d t' xs;obtain⟨hd,ha⟩:=aa ha;split at ha
  ·rename_i ys hc;obtain⟨rfl,hy⟩:=di hc;simp only at hy;subst hy;simp only[UC,Uw] at ha;obtain⟨rfl,rfl⟩:=ha;refine⟨⟨h1,N.rds (hv.2.get hd) fun x e=>hdeps _ ?_⟩,by simp[CD.mk],by simp[CD.mk],fun p hp=>by simp[CD.mk] at hp⟩;subst e;simp
  ·cases ha
 ·rename_i t k kv;split at ha
  ·rename_i b hat
   split at ha
   ·rename_i ys hc;simp only[UC,Uw] at ha;obtain⟨rfl,rfl⟩:=ha;obtain⟨_,hb⟩:=yI hc;have hr:=(EW hat hb).1;have:=lK I hr hv;obtain⟨e,he,hve,_⟩:=aK hat
    refine⟨⟨h1,N.rds this fun x ex=>hdeps _ ?_⟩,by simp[CD.mk],by simp[CD.mk],fun p hp=>by simp[CD.mk] at hp⟩;simp only[fI,he,Vh,Uw] at ex;subst ex;simp
   ·cases ha
  ·cases ha
 ·rename_i t k kv n;split at ha
  ·rename_i b hat
   split at ha
   ·rename_i ys hc;simp only[UC,Uw] at ha;obtain⟨rfl,rfl⟩:=ha;obtain⟨_,hb⟩:=yI hc;have hr:=(EW hat hb).2 n;have:=lK I hr hv;obtain⟨e,he,hve,_⟩:=aK hat
    refine⟨⟨h1,N.rds this fun x ex=>hdeps _ ?_⟩,by simp[CD.mk],by simp[CD.mk],fun p hp=>by simp[CD.mk] at hp⟩;simp only[fI,he,Vh,Uw] at ex;subst ex;simp
   ·cases ha
  ·cases ha
 ·rename_i e t;simp only[UC,Uw] at ha;obtain⟨rfl,rfl⟩:=ha;have hg:=hγr 0 none rfl;simp only[Nat.add_zero,Option.elim_none] at hg;refine⟨⟨h1,aY (hent ((nm m).1,⟨(nm m).2,0,.row e t []⟩) (by simp[CD.mk])) rfl fun n hn=>?_⟩,by simp[CD.mk],by simp[CD.mk],fun p hp=>?_⟩
  ·simp only[Box.len,U2,Uw] at hn;subst hn;rw[hg,show v=_ from hv];exact⟨rfl,rfl⟩
  ·simp only[CD.mk,UV] at hp;subst hp;exact .inl ⟨hg,rfl⟩
 ·rename_i e t k kv;split at ha
  ·rename_i e' t' xs hat
   split at ha
   ·rename_i hee;split at ha
    ·rename_i ys hc;obtain⟨rfl,hy⟩:=di hc;simp only at hy;subst hy;subst hee;simp only[UC,Uw] at ha;obtain⟨rfl,rfl⟩:=ha;have hg:=hγr 0 (some k) rfl;simp only[Nat.add_zero,Option.elim_some] at hg;obtain⟨en,he,hve,hbx⟩:=aK hat
     refine⟨⟨h1,aY (hent ((nm m).1,⟨(nm m).2,0,.row e' t' xs⟩) (by simp[CD.mk])) rfl fun n hn=>?_⟩,by simp[CD.mk],by simp[CD.mk],fun p hp=>?_⟩;·simp only[Box.len,Uw] at hn;subst hn;rw[hg];exact hv.2.get he hve _ (by rw[hbx];rfl)
     ·simp only[CD.mk,UV] at hp;subst hp;have hb0:=I.box k en he;rw[hbx] at hb0;rcases hb0 with⟨h0,hx⟩|⟨g,c,cur,hγ,hb,hc,hcm,hcs,hsz,hr⟩
      ·exact .inl ⟨by rw[hg];exact h0,hx⟩
      ·exact .inr ⟨g,c,cur,by rw[hg];exact hγ,hb,hc,hcm,hcs,hsz,fun i x hx=>N.rdm (hr i x hx)⟩
    ·cases ha
   ·cases ha
  ·cases ha
 ·rename_i e t k kv n0;split at ha
  ·rename_i e' t' xs hat
   split at ha
   ·rename_i hee;split at ha
    ·rename_i ys hc;obtain⟨rfl,hy⟩:=di hc;simp only at hy;subst hy;subst hee;simp only[UC,Uw] at ha;obtain⟨rfl,rfl⟩:=ha;have hg:=hγr 0 (some k) rfl;simp only[Nat.add_zero,Option.elim_some] at hg;obtain⟨en,he,hve,hbx⟩:=aK hat
     obtain⟨hle,hO⟩:=hv.2.get he hve _ (by rw[hbx];rfl);refine⟨⟨h1,aY (hent ((nm m).1,⟨(nm m).2,0,.row e' t' (xs.take n0)⟩) (by simp[CD.mk])) rfl fun n hn=>?_⟩,by simp[CD.mk],by simp[CD.mk],fun p hp=>?_⟩
     ·simp only[Box.len,Uw,U1] at hn;have:n=n0:=by omega
      subst this;rw[hg];exact hO
     ·simp only[CD.mk,UV] at hp;subst hp;have hb0:=I.box k en he;rw[hbx] at hb0;rcases hb0 with⟨h0,hx⟩|⟨g,c,cur,hγ,hb,hc,hcm,hcs,hsz,hr⟩
      ·exact .inl ⟨by rw[hg];exact h0,by rw[hx];simp⟩
      ·refine .inr ⟨g,c,cur,by rw[hg];exact hγ,hb,by rw[U1];omega,hcm,hcs,hsz,fun i x hx=>N.rdm (hr i x ?_)⟩;rw[UZ] at hx;split at hx
       ·exact hx
       ·cases hx
    ·cases ha
   ·cases ha
  ·cases ha
 ·rename_i i off k kv o;obtain⟨hbk,ha⟩:=aa ha;obtain⟨hoff,ha⟩:=aa ha;split at ha
  ·rename_i l hat
   have ha:=(Prod.mk.inj (Ux ha)).2;subst ha;subst hoff;obtain⟨en,he,hve,hbx⟩:=aK hat
   obtain⟨⟨e,l',he',hve',hbx'⟩,hg⟩:=hbox i k hbk;refine⟨⟨h1,aY he' hve' fun l'' _=>?_⟩,by simp[CD.mk],by simp[CD.mk],fun p hp=>by simp[CD.mk] at hp⟩;rw[hg];exact hv.2.get he hve l hbx
  ·cases ha
 ·rename_i u u';obtain⟨hr,ha⟩:=aa ha;have ha:=(Prod.mk.inj (Ux ha)).2;subst ha;have:=yl hr;subst this;exact⟨hv,by simp[CD.mk],by simp[CD.mk],fun p hp=>by simp[CD.mk] at hp⟩
 ·have ha2:=(Prod.mk.inj (Ux ha))
  obtain⟨rfl,rfl⟩:=ha2;exact⟨hv,by simp[CD.mk],by simp[CD.mk],fun p hp=>by simp[CD.mk] at hp⟩
 ·rename_i u;obtain⟨hr,ha⟩:=aa ha;have ha2:=(Prod.mk.inj (Ux ha))
  obtain⟨rfl,rfl⟩:=ha2;have:=yl hr;subst this;exact⟨⟨h1,fun _=>hv.1,fun e=>by cases e⟩,by simp[CD.mk],by simp[CD.mk],fun p hp=>by simp[CD.mk] at hp⟩
 ·rename_i t k o;have ha2:=(Prod.mk.inj (Ux ha))
  obtain⟨rfl,rfl⟩:=ha2;exact⟨⟨h1,Ao hv⟩,by simp[CD.mk],by simp[CD.mk],fun p hp=>by simp[CD.mk] at hp⟩
 ·rename_i t k t' k' o;obtain⟨⟨rfl,rfl⟩,ha⟩:=aa ha;have ha2:=(Prod.mk.inj (Ux ha))
  obtain⟨rfl,rfl⟩:=ha2;exact⟨hv,by simp[CD.mk],by simp[CD.mk],fun p hp=>by simp[CD.mk] at hp⟩
 ·rename_i t k u;obtain⟨hr,ha⟩:=aa ha;have ha2:=(Prod.mk.inj (Ux ha))
  obtain⟨rfl,rfl⟩:=ha2;have:=yl hr;subst this;exact⟨hv.1,by simp[CD.mk],by simp[CD.mk],fun p hp=>by simp[CD.mk] at hp⟩
 ·have ha2:=(Prod.mk.inj (Ux ha))
  obtain⟨rfl,rfl⟩:=ha2;exact⟨⟨h1,N.rdm hv.2⟩,by simp[CD.mk],by simp[CD.mk],fun p hp=>by simp[CD.mk] at hp⟩
 ·rename_i t t' xs i off;obtain⟨hoff,ha⟩:=aa ha;split at ha
  ·rename_i ys hc;obtain⟨rfl,hy⟩:=di hc;simp only at hy;subst hy;split at ha
   ·rename_i z hz;have ha2:=(Prod.mk.inj (Ux ha))
    obtain⟨rfl,rfl⟩:=ha2;obtain⟨g,p,x,ds,hvv,hx,ho,hg,hrd,hcc⟩:=hv.2;rw[hz] at hx;obtain rfl:=Ux hx;subst hoff;exact⟨⟨h1,g,p,_,ds,hvv,rfl,N.okb ho hg (fun x e=>by cases e),hg,N.rdm hrd,hcc⟩,by simp[CD.mk],by simp[CD.mk],fun p hp=>by simp[CD.mk] at hp⟩
   ·cases ha
  ·cases ha
 ·rename_i t k kv off;split at ha
  ·rename_i l hat
   obtain⟨hle,ha⟩:=aa ha;split at ha
   ·rename_i z hz;have ha2:=(Prod.mk.inj (Ux ha))
    obtain⟨rfl,rfl⟩:=ha2;obtain⟨en,he,hve,hbx⟩:=aK hat
    obtain⟨g,c,hγ,hvv⟩:=hv.2.get he hve l hbx;have hb0:=I.box k en he;rw[hbx] at hb0;obtain⟨g',vs,U,hγ',hb,hall⟩:=hb0;have hgg:=dS (hγ.symm.trans hγ');obtain⟨rfl,rfl⟩:=hgg;have hds:=(hall.drop off).take t.size;have hrd:=N.rdm (Rd.ofCells hz hds);refine⟨⟨h1,g,off,_,_,hvv,rfl,N.okbb I he hbx hγ (hdeps k (by simp)),(Array.getElem?_eq_some_iff.1 hb).1,hrd,fun j u hj=>?_⟩,by simp[CD.mk],by simp[CD.mk],fun p hp=>by simp[CD.mk] at hp⟩;rw[cell_of_row w g _ vs U (0,0) hb];rw[UZ] at hj;split at hj;·rw[Va] at hj;simpa using hj
    ·cases hj
   ·cases ha
  ·cases ha
 ·rename_i i fs k kv gs;obtain⟨hbk,ha⟩:=aa ha;obtain⟨hfs,ha⟩:=aa ha;split at ha
  ·rename_i l hat
   have ha:=(Prod.mk.inj (Ux ha)).2;subst ha;subst hfs;obtain⟨⟨e2,l2,he2,hve2,hb2⟩,hγ2⟩:=hbox i k hbk;obtain⟨en,hk,hve,hbx⟩:=aK hat
   obtain⟨b,c,g,hγ,hvv,hcl⟩:=hv.2.get hk hve l hbx;exact⟨⟨h1,aY he2 hve2 fun l' hl'=>⟨b,c,g,by rw[hγ2];exact hγ,hvv,fun j f hj=>⟨N.okb (hcl j f hj).1 (hcl j f hj).2.1 (fun x e=>by cases e),(hcl j f hj).2⟩⟩⟩,by simp[CD.mk],by simp[CD.mk],fun p hp=>by simp[CD.mk] at hp⟩
  ·cases ha
 ·rename_i t d t' xs;obtain⟨hd,ha⟩:=aa ha;split at ha
  ·rename_i ys hc;obtain⟨rfl,hy⟩:=di hc;simp only at hy;subst hy;simp only[UC,Uw] at ha;obtain⟨rfl,rfl⟩:=ha;obtain⟨hr1,hr2⟩:=hv.2.get hd;refine⟨⟨h1,N.rds hr1 fun x e=>hdeps _ ?_,hr2⟩,by simp[CD.mk],by simp[CD.mk],fun p hp=>by simp[CD.mk] at hp⟩;subst e;simp
  ·cases ha
 ·rename_i t d t' xs;obtain⟨hd,ha⟩:=aa ha;split at ha
  ·rename_i ys hc;obtain⟨rfl,hy⟩:=di hc;simp only at hy;subst hy;simp only[UC,Uw] at ha;obtain⟨rfl,rfl⟩:=ha;refine⟨⟨h1,N.rds (hv.2.get hd).1 fun x e=>hdeps _ ?_⟩,by simp[CD.mk],by simp[CD.mk],fun p hp=>by simp[CD.mk] at hp⟩;subst e;simp
  ·cases ha
 ·have ha:=(Prod.mk.inj (Ux ha)).2;subst ha;exact⟨h1,by simp[CD.mk],by simp[CD.mk],fun p hp=>by simp[CD.mk] at hp⟩
 ·cases ha
end
end Rv
namespace Rv
open Go
section
variable{P:Program}{C C':Ctx}{γ γ':Gam}{h h':Heap}{w:World}{R:Type}{r:R}
theorem yF(I:Inv C γ h w){keys deps bm:List Nat}(N:Ren C γ h w C' γ' h' keys deps){nm:Nm}
  (hbox:∀i k,bm[i]?=some k->(∃e l,h' (nm i).1=some e/\e.ver=(nm i).2/\e.box=.cells l)/\γ' (nm i).1=γ k) :
  ∀{l:List CD}{cs:List Cell}{y:TL l}{met:Met}{vs:List Value}{m:Nat},fK h bm l cs=some (y,met)->ai (av C γ h w) cs vs ->
  (∀k,k∈met.deps->k∈deps)->(∀k,some k∈met.rows->k∈keys)->(∀p,p∈(mkL nm l y m).2.1->h' p.1=some p.2)->(∀j q,met.rows[j]?=some q->γ' (nm (m+j)).1=q.elim none γ) ->
  ai (av C' γ' h' w) (mkL nm l y m).1 vs/\(mkL nm l y m).2.1.map (·.1)=(List.range met.rows.length).map (fun j=>(nm (m+j)).1)/\∀p,p∈(mkL nm l y m).2.1->dJ C' γ' h' w p.1 p.2.box
 |[],[],y,met,vs,m,he,ha,_,_,_,_=>by
  simp only[fK,Uw,UC] at he;obtain⟨_,rfl⟩:=he;cases vs with
  |nil=>exact⟨trivial,by simp[mkL],fun p hp=>by simp[mkL] at hp⟩
  |cons _ _=>exact ha.elim
 |c::l,x::cs,y,met,vs,m,he,ha,hd,hr,hent,hγ=>by
  simp only[fK] at he;split at he
  ·rename_i y1 m1 h1;split at he
   ·rename_i y2 m2 h2;simp only[Uw,UC] at he;obtain⟨rfl,rfl⟩:=he;cases vs with
    |nil=>exact ha.elim
    |cons v vs=>
     simp only[mkL,UK] at hent;obtain⟨g1,g2,g3,g4⟩:=Nq I N (nm:=nm) (m:=m) h1 ha.1 (fun k hk=>hd k (by simp[hk])) (fun k hk=>hr k (by simp[hk])) (fun p hp=>hent p (.inl hp))
      (fun j q hq=>hγ j q (by grind)) hbox
     obtain⟨g5,g6,g7⟩:=yF I N (nm:=nm) (m:=m+m1.rows.length) hbox h2 ha.2 (fun k hk=>hd k (by simp[hk])) (fun k hk=>hr k (by simp[hk])) (fun p hp=>hent p (.inr (by grind)))
      (fun j q hq=>by simp_all [List.getElem?_append_right,Vk])
     simp only[mkL,g2];refine⟨⟨g1,g5⟩,?_,fun p hp=>?_⟩;·simp_all [List.range_add,Vk]
     grind
   ·cases he
  ·cases he
 |[],_::_,_,_,_,_,he,_,_,_,_,_=>by simp[fK] at he
 |_::_,[],_,_,_,_,he,_,_,_,_,_=>by simp[fK] at he
def DR:Value->List Value
 | .func _ b c=>b.toList++c.toList
 |_=>[]
theorem qW(f:FuncId)(us:List Value):DR (mK f us.toArray)=us:=by
 grind [mK,DR]
def bg(vals:Array Value):List (Nat×SD)->List Value
 |[]=>[]
 |(i,.c _)::r=>vals.getD i undef::bg vals r
 |(i,.agg _)::r=>(vals.getD i undef).cells.toList++bg vals r
 |(i,.clo _ _)::r=>DR (vals.getD i undef)++bg vals r
def RS(v:Value):SD->Prop
 | .c _=>True
 | .agg ds=>∃us:List Value,v=.agg us.toArray/\us.length=ds.length
 | .clo f ds=>∃us:List Value,v=mK f us.toArray/\us.length=ds.length
def dU(vals:Array Value)(sl:List (Nat×SD)):Prop:=∀i sd,(i,sd)∈sl->RS (vals.getD i undef) sd
theorem dU.cons{vals:Array Value}{i:Nat}{sd:SD}{sl:List (Nat×SD)}(h1:RS (vals.getD i undef) sd)(h2:dU vals sl):dU vals ((i,sd)::sl):=fun j sd' hm=>by
 rcases UG.1 hm with hm|hm;·grind
 ·exact h2 j sd' hm
theorem dU.tail{vals:Array Value}{p:Nat×SD}{sl:List (Nat×SD)}(h:dU vals (p::sl)):dU vals sl:=fun j sd hm=>h j sd (UA _ hm)
theorem jS{l:List V}{vals:Array Value}(hs:∀i v,l[i]?=some v->bv C γ h w v (vals.getD i undef)):∀{sl:List (Nat×SD)}{cs:List Cell},dL l sl=some cs ->
  ai (av C γ h w) cs (bg vals sl)/\dU vals sl
 |[],cs,he=>by
  simp only[dL,Uw] at he;subst he;exact⟨trivial,fun i ds hm=>by simp at hm⟩
 |(i,.c d)::sl,cs,he=>by
  simp only[dL] at he;split at he
  ·rename_i x hx;split at he
   ·rename_i cs' h1;simp only[Uw] at he;subst he;obtain⟨g1,g2⟩:=jS hs h1;exact⟨⟨hs i _ hx,g1⟩,g2.cons trivial⟩
   ·cases he
  ·cases he
 |(i,.agg d)::sl,cs,he=>by
  simp only[dL] at he;split at he
  ·rename_i xs hx;obtain⟨hl,he⟩:=aa he;split at he
   ·rename_i cs' h1;simp only[Uw] at he;subst he;obtain⟨g1,g2⟩:=jS hs h1;obtain⟨us,hu,hau⟩:=hs i _ hx;have hul:=hau.length;refine⟨?_,g2.cons ⟨us,hu,by omega⟩⟩;simp only[bg,hu,Value.cells];exact hau.append g1
   ·cases he
  ·cases he
 |(i,.clo f d)::sl,cs,he=>by
  simp only[dL] at he;split at he
  ·rename_i f' xs hx;obtain⟨⟨hf,hl⟩,he1⟩:=aa he;subst hf;split at he1
   ·rename_i cs' h1;simp only[Uw] at he1;subst he1;obtain⟨g1,g2⟩:=jS hs h1;obtain⟨us,hu,hau⟩:=hs i _ hx;have hul:=hau.length;refine⟨?_,g2.cons ⟨us,hu,by omega⟩⟩;simp only[bg,hu,qW];exact hau.append g1
   ·cases he1
  ·cases he
theorem bQ{vals:Array Value}:∀{sl:List (Nat×SD)}{l:List V}{cs:List Cell}{rest:List Value},dU vals sl->(∀i v,l[i]?=some v->bv C γ h w v (vals.getD i undef))->ai (av C γ h w) cs (bg vals sl++rest) ->
  (aA l sl cs).1.length=l.length/\(∀i v,(aA l sl cs).1[i]?=some v->bv C γ h w v (vals.getD i undef))/\ai (av C γ h w) (aA l sl cs).2 rest
 |[],l,cs,rest,_,hl,ha=>⟨rfl,hl,ha⟩
 |(i,.c d)::sl,l,cs,rest,hok,hl,ha=>by
  cases cs with
  |nil=>exact ha.elim
  |cons c cs=>
   simp only[aA,List.headD_cons,List.tail_cons];have:=bQ (sl:=sl) (l:=l.set i (.v (.c c))) (cs:=cs) (rest:=rest) hok.tail (fun j v hj=>?_) ha.2;·grind
   ·rw[List.getElem?_set] at hj;split at hj
    ·rename_i e;subst e;split at hj
     ·simp only[Uw] at hj;subst hj;exact ha.1
     ·cases hj
    grind
 |(i,.agg d)::sl,l,cs,rest,hok,hl,ha=>by
  obtain⟨us,hu,hul⟩:=hok i (.agg d) (by simp);simp only[bg,hu,Value.cells,UM] at ha;have hlen:=ha.length;simp only[aA];have h1:ai (av C γ h w) (cs.take d.length) us:=by
   have:=ha.take d.length
   grind
  have h2:ai (av C γ h w) (cs.drop d.length) (bg vals sl++rest):=by
   have:=ha.drop d.length
   grind
  have:=bQ (sl:=sl) (l:=l.set i (.v (.agg (cs.take d.length)))) (cs:=cs.drop d.length) (rest:=rest) hok.tail (fun j v hj=>?_) h2;·grind
  ·rw[List.getElem?_set] at hj;split at hj
   ·rename_i e;subst e;split at hj
    ·simp only[Uw] at hj;subst hj;exact⟨us,hu,h1⟩
    ·cases hj
   grind
 |(i,.clo f d)::sl,l,cs,rest,hok,hl,ha=>by
  obtain⟨us,hu,hul⟩:=hok i (.clo f d) (by simp);simp only[bg,hu,qW,UM] at ha;have hlen:=ha.length;simp only[aA];have h1:ai (av C γ h w) (cs.take d.length) us:=by
   have:=ha.take d.length
   grind
  have h2:ai (av C γ h w) (cs.drop d.length) (bg vals sl++rest):=by
   have:=ha.drop d.length
   grind
  have:=bQ (sl:=sl) (l:=l.set i (.clo f (cs.take d.length))) (cs:=cs.drop d.length) (rest:=rest) hok.tail (fun j v hj=>?_) h2;·grind
  ·rw[List.getElem?_set] at hj;split at hj
   ·rename_i e;subst e;split at hj
    ·simp only[Uw] at hj;subst hj;exact⟨us,hu,h1⟩
    ·cases hj
   grind
def iM(γ:Gam)(h:Heap)(w:World):List (Option Nat×List CD)->List Nat->List (List Value)->Prop
 |[],[],[]=>True
 |(_,ds)::r,k::ks,v::vs=>(∃e l g T,h k=some e/\e.box=.cells l/\γ k=some (g,0)/\w.heap[g]?=some (.cells v.toArray T (0,0))/\v.length=ds.length)/\iM γ h w r ks vs
 |_,_,_=>False
theorem mH(I:Inv C γ h w):∀{bl:List (Option Nat×List CD)}{cs all:List Cell}{bm0 bm:List Nat}{vs:List Value},bD h bl cs bm0=some (all,bm)->ai (av C γ h w) cs vs ->
  ∃ks more,bm=bm0++ks/\iM γ h w bl ks more/\ai (av C γ h w) all (vs++more.flatten)
 |[],cs,all,bm0,bm,vs,he,ha=>by
  simp only[bD,Uw,UC] at he;obtain⟨rfl,rfl⟩:=he;exact⟨[],[],by simp,trivial,by simpa using ha⟩
 |(none,ds)::bl,cs,all,bm0,bm,vs,he,ha=>by
  simp only[bD] at he;split at he
  ·rename_i l hat
   obtain⟨hl,he⟩:=aa he;obtain⟨e,hk,hve,hbx⟩:=aK hat
   have hb:=I.box _ e hk;rw[hbx] at hb;obtain⟨g,us,T,hγ,hbl,hau⟩:=hb;obtain⟨ks,more,h1,h2,h3⟩:=mH I he (ha.append hau);refine⟨_::ks,us.toList::more,by grind,⟨⟨e,l,g,T,hk,hbx,hγ,by simpa using hbl,by rw[<- hau.length,hl]⟩,h2⟩,?_⟩
   grind
  ·cases he
 |(some p,ds)::bl,cs,all,bm0,bm,vs,he,ha=>by
  simp only[bD] at he;split at he
  ·rename_i k kv o hp;split at he
   ·rename_i l hat
    obtain⟨hl,he⟩:=aa he;obtain⟨e,hk,hve,hbx⟩:=aK hat
    have hb:=I.box k e hk;rw[hbx] at hb;obtain⟨g,us,T,hγ,hbl,hau⟩:=hb;obtain⟨ks,more,h1,h2,h3⟩:=mH I he (ha.append hau);refine⟨k::ks,us.toList::more,by simp[h1],⟨⟨e,l,g,T,hk,hbx,hγ,by simpa using hbl,by rw[<- hau.length,hl]⟩,h2⟩,?_⟩
    grind
   ·cases he
  ·cases he
theorem iM.len:∀{bl:List (Option Nat×List CD)}{ks:List Nat}{more:List (List Value)},iM γ h w bl ks more->ks.length=bl.length
 |[],[],[],_=>rfl
 |_::bl,_::ks,_::more,hb=>by simp[iM.len hb.2]
theorem iM.get:∀{bl:List (Option Nat×List CD)}{ks:List Nat}{more:List (List Value)}{i k:Nat},iM γ h w bl ks more->ks[i]?=some k->∃e l g,h k=some e/\e.box=.cells l/\γ k=some (g,0)
 |_::bl,_::ks,_::more,0,k,hb,he=>by
  simp only[U0,Uw] at he;subst he;obtain⟨e,l,g,T,h1,h2,h3,_⟩:=hb.1
  grind
 |_::bl,_::ks,_::more,i+1,k,hb,he=>iM.get hb.2 (by simpa using he)
 |[],[],[],_,_,_,he=>by simp at he
theorem iJ(nm:Nm):∀(i:Nat) (bl:List (Option Nat×List CD)) (cs:List Cell),(aW nm i bl cs).map (·.1)=(List.range bl.length).map fun j=>(nm (i+j)).1
 |i,[],cs=>rfl
 |i,(p,ds)::bl,cs=>by
  simp only[aW,UO,iJ nm (i+1) bl,UN,List.range_succ_eq_map,List.map_map];simp only[Nat.add_zero,List.cons.injEq,true_and]
  grind [List.map_congr_left]
theorem og{nm:Nm}:∀{i:Nat}{bl:List (Option Nat×List CD)}{ks:List Nat}{more:List (List Value)}{cs:List Cell}{rest:List Value},iM γ h w bl ks more->(∀j k,ks[j]?=some k->γ' (nm (i+j)).1=γ k) ->
  ai (av C' γ' h' w) cs (more.flatten++rest)->∀p,p∈aW nm i bl cs->dJ C' γ' h' w p.1 p.2.box
 |i,[],[],[],cs,rest,_,_,_,p,hp=>by simp[aW] at hp
 |i,(q,ds)::bl,k::ks,v::more,cs,rest,hb,hk,ha,p,hp=>by
  obtain⟨⟨e,l,g,T,h1,h2,h3,h4,h5⟩,hb⟩:=hb;simp only[List.flatten_cons,UM] at ha;simp only[aW,UG] at hp;rcases hp with rfl|hp
  ·refine⟨g,v.toArray,T,(hk 0 k rfl).trans h3,h4,?_⟩;have:=ha.take ds.length
   grind
  ·have h6:=ha.drop ds.length;rw[List.drop_append_of_le_length (by omega),<- h5,Vf,UY,h5] at h6;exact og (i:=i+1) hb (fun j k' hj=>by have:=hk (j+1) k' (by simpa using hj);grind) h6 p hp
theorem iB:∀{l:List (Nat×En)}{p:Nat×En},(l.map (·.1)).Nodup->p∈l->Heap.ofList l p.1=some p.2
 |(k,e)::r,p,hn,hp=>by
  simp only[UO,List.nodup_cons] at hn;simp only[Heap.ofList];rcases UG.1 hp with rfl|hp;·simp
  ·by_cases hk:p.1=k
   ·grind
   ·rw[if_neg hk];exact iB hn.2 hp
theorem pO:∀{l:List (Nat×En)}{k:Nat}{e:En},Heap.ofList l k=some e->(k,e)∈l
 |(j,e')::r,k,e,he=>by
  simp only[Heap.ofList] at he;split at he;·grind
  ·exact UA _ (pO he)
theorem yR{α:Type}(f:Nat->Nat)(hf:∀i j,f i=f j->i=j)(src:Nat->α)(d:α)(n:Nat):∃g:Nat->α,(∀i,i<n->g (f i)=src i)/\∀k,(∀i,i<n->f i≠k)->g k=d:=by
 induction n with
 |zero=>exact⟨fun _=>d,fun i hi=>by omega,fun _ _=>rfl⟩
 |succ n ih=>
  obtain⟨g,h1,h2⟩:=ih;refine⟨fun k=>if k=f n then src n else g k,fun i hi=>?_,fun k hk=>?_⟩;·grind
  grind
theorem nY:∀{l:List Nat},nodupB l=true->l.Nodup
 |[],_=>by simp
 |a::r,he=>by
  simp only[nodupB,UB,Bool.not_eq_true'] at he;rw[List.nodup_cons];exact⟨by grind,nY he.2⟩
theorem Ca:∀{l:List Nat}{i j:Nat},l.Nodup->(hi:i<l.length)->(hj:j<l.length)->l[i]=l[j]->i=j
 |a::l,0,0,_,_,_,_=>rfl
 |a::l,0,j+1,hn,_,hj,e=>by
  grind
 |a::l,i+1,0,hn,hi,_,e=>by
  grind
 |a::l,i+1,j+1,hn,hi,hj,e=>by
  simp only[List.getElem_cons_succ] at e;rw[List.nodup_cons] at hn;exact congrArg _ (Ca hn.2 (by simpa using hi) (by simpa using hj) e)
theorem Kb{sh:Shape}{st:St}{a:Abs sh.T}(he:sh.abs st=some a):a.keys.Nodup/\∀k,k∈a.m.deps->k ∉ a.keys:=by
 unfold Shape.abs at he;split at he
 ·split at he
  ·split at he
   ·split at he
    ·rename_i hcond;simp only[Uw] at he;subst he;simp_all [nY,Abs.keys]
    ·cases he
   ·cases he
  ·cases he
 ·cases he
theorem uy:∀{bl:List (Option Nat×List CD)}{cs all:List Cell}{bm0 bm:List Nat}{n:Nat},bD h bl cs bm0=some (all,bm)->n<=bl.length->((bl.take n).all fun p=>p.1.isNone)=true ->
  (∀i,i<bm0.length->bm[i]?=bm0[i]?)/\∀i,i<n->bm[bm0.length+i]?=some (nmJ (bm0.length+i)).1/\∃e,h (nmJ (bm0.length+i)).1=some e/\e.ver=0
 |[],cs,all,bm0,bm,n,he,hn,_=>by
  simp_all [bD]
 |(q,ds)::bl,cs,all,bm0,bm,n,he,hn,hp=>by
  have step:∀{k:Nat}{cs':List Cell},bD h bl cs' (bm0++[k])=some (all,bm)->∀m,m<=bl.length->((bl.take m).all fun p=>p.1.isNone)=true ->
    (∀i,i<bm0.length->bm[i]?=bm0[i]?)/\bm[bm0.length]?=some k/\∀i,i<m->bm[bm0.length+(i+1)]?=some (nmJ (bm0.length+(i+1))).1/\∃e,h (nmJ (bm0.length+(i+1))).1=some e/\e.ver=0:=fun {k cs'} he' m hm hp'=>by
   obtain⟨g1,g2⟩:=uy he' hm hp'
   grind
  cases n with
  |zero=>
   have:∃k cs',bD h bl cs' (bm0++[k])=some (all,bm):=by
    cases q with
    |none=>
     simp only[bD] at he
     grind
    |some p=>
     simp only[bD] at he
     grind
   obtain⟨k,cs',he'⟩:=this;exact⟨(step he' 0 (Nat.zero_le _) (by simp)).1,fun i hi=>by omega⟩
  |succ n=>
   simp only[List.take_succ_cons,Vi,UB] at hp;cases q with
   |some p=>simp at hp
   |none=>
    simp only[bD] at he;split at he
    ·rename_i l hat
     obtain⟨_,he⟩:=aa he;obtain⟨e,hk,hve,_⟩:=aK hat
     obtain⟨g1,g2,g3⟩:=step he n (by simpa using hn) hp.2;refine⟨g1,fun i hi=>?_⟩;cases i with
     |zero=>grind
     |succ i=>grind
    ·cases he
theorem DC{sh:Shape}{st:St}{a:Abs sh.T}(he:sh.abs st=some a){n:Nat}(hp:sh.pins n=true):∀i,i<n->a.bm[i]?=some (nmJ i).1/\∃e,st.h (nmJ i).1=some e/\e.ver=0:=by
 unfold Shape.pins at hp;simp only[UB,UE] at hp
 grind [Shape.abs,uy]
structure MS (C:Ctx) (w:World):Prop where
 frame:∀g,g<C.w0.heap.size->¬C.own g->w.heap[g]?=C.w0.heap[g]?
 size:C.w0.heap.size<=w.heap.size
 os:w.os=C.w0.os
 tape:w.tape=C.w0.tape
 output:w.output=C.w0.output
 new:∀g,C.w0.heap.size<=g->C.own g
 rd:∀g,C.own g->C.rd g
 laid:C.L w
 stable:∀a b:World,C.L a->(∀g,¬C.own g->b.heap[g]?=a.heap[g]?)->C.L b
theorem Inv.invW(I:Inv C γ h w):MS C w:=⟨I.frame,I.size,I.os,I.tape,I.output,I.new,I.rd,I.laid,I.stable⟩
theorem tX{sh:Shape}{st:St}{a:Abs sh.T}(he:sh.abs st=some a){vals:Array Value}(R':Rel C γ w st vals){nm:Nm}(hnm:∀i j,(nm i).1=(nm j).1->i=j)
  (W:MS C' w) (hrd:∀d g,okb C γ st.h d g->g<w.heap.size->(∀x,d=some x->x.1∈a.m.deps)->C'.rd g) (hrdb:∀k e g c l,k∈a.m.deps->st.h k=some e->e.box=.cells l->γ k=some (g,c)->C'.rd g) (hown:∀k e g c,k∈a.keys->st.h k=some e->e.box.live->γ k=some (g,c)->C'.own g)
  (hlent:∀i,i<C'.nl->nm i=nmJ i/\∃k,a.bm[i]?=some k/\γ k=C'.lent i) :
  ∃γ',Rel C' γ' w (sh.mk' nm st.s.length a.x) vals/\a.bm.length=sh.boxes.length/\(∀i k,a.bm[i]?=some k->γ' (nm i).1=γ k/\∃e l,st.h k=some e/\e.box=.cells l)/\(∀j q,a.m.rows[j]?=some q->γ' (nm (sh.boxes.length+j)).1=q.elim none γ):=by
 have I:=R'.inv;unfold Shape.abs at he;split at he
 ·rename_i cs h1;split at he
  ·rename_i all bm h2;split at he
   ·rename_i x met h3;split at he
    ·rename_i hcond;simp only[Uw] at he;subst he;simp only[UB] at hcond;have hnd:=nY hcond.1;have hap:∀k,k∈met.deps->k ∉ bm++met.rows.filterMap id:=fun k hk=>by
      have:=UT.1 hcond.2 k hk;simpa using this
     obtain⟨hg1,hok⟩:=jS R'.slot h1;obtain⟨ks,more,hbm,hbx,hall⟩:=mH I h2 hg1;simp only[UY] at hbm;obtain rfl:ks=bm:=hbm.symm;have hkl:=hbx.len
     let nb:=sh.boxes.length
     let src:Nat->Option (Nat×Nat):=fun i=>if i<nb then(ks[i]?).elim none γ else(met.rows[i-nb]?).elim none (fun q=>q.elim none γ)
     obtain⟨γ',hγ1,hγ2⟩:=yR (fun i=>(nm i).1) hnm src none (nb+met.rows.length);have hγb:∀i k,ks[i]?=some k->γ' (nm i).1=γ k:=fun i k hi=>by
      have hlt:i<nb:=by have:=(UI.1 hi).1;omega
      rw[hγ1 i (by omega)];simp only[src,if_pos hlt,hi,Option.elim_some]
     have hγr:∀j q,met.rows[j]?=some q->γ' (nm (nb+j)).1=q.elim none γ:=fun j q hj=>by
      have hlt:=(UI.1 hj).1;rw[hγ1 (nb+j) (by omega)];simp only[src];rw[if_neg (by omega),Nat.add_sub_cancel_left,hj];rfl
     let ml:=mkL nm sh.all x nb
     let ps:=aA (List.replicate st.s.length V.dead) sh.slots ml.1
     let bs:=aW nm 0 sh.boxes ps.2
     let h':=Heap.ofList (bs++ml.2.1)
     have hmk:sh.mk' nm st.s.length x=⟨ps.1,h'⟩:=rfl;have hkeysM:∀(l:List CD) (cs:List Cell) (y:TL l) (mt:Met) (m:Nat),fK st.h ks l cs=some (y,mt)->(mkL nm l y m).2.1.map (·.1)=(List.range mt.rows.length).map (fun j=>(nm (m+j)).1)/\(mkL nm l y m).2.2=m+mt.rows.length:=by
      intro l
      induction l with
      |nil=>
       intro cs y mt m ha;cases cs with
       |nil=>
        simp only[fK,Uw,UC] at ha;obtain⟨_,rfl⟩:=ha;simp[mkL]
       |cons _ _=>simp[fK] at ha
      |cons c l ih=>
       intro cs y mt m ha;cases cs with
       |nil=>simp[fK] at ha
       |cons z cs=>
        simp only[fK] at ha;split at ha
        ·rename_i y1 m1 h1';split at ha
         ·rename_i y2 m2 h2';simp only[Uw,UC] at ha;obtain⟨rfl,rfl⟩:=ha;have hone:(c.mk nm y1 m).2.1.map (·.1)=(List.range m1.rows.length).map (fun j=>(nm (m+j)).1)/\(c.mk nm y1 m).2.2=m+m1.rows.length:=by
           unfold CD.abs at h1'
           (repeat' split at h1')<;>first|(cases h1';done)|(have e:=(Prod.mk.inj (Ux h1')).2;subst e;simp[CD.mk])
          obtain⟨g1,g2⟩:=ih cs y2 m2 (m+m1.rows.length) h2';simp only[mkL,hone.2];refine⟨?_,by rw[g2,UD];omega⟩;rw[U6,hone.1,g1,UD,List.range_add,U6,List.map_map];congr 1;apply List.map_congr_left;intro j _;simp[Vk]
         ·cases ha
        ·cases ha
     obtain⟨hkr,_⟩:=hkeysM sh.all all x met nb h3;have hkb:=iJ nm 0 sh.boxes ps.2;have hkeys:(bs++ml.2.1).map (·.1)=(List.range (nb+met.rows.length)).map fun i=>(nm i).1:=by
      rw[U6,show bs.map (·.1)=_ from hkb,show ml.2.1.map (·.1)=_ from hkr,List.range_add,U6,List.map_map];simp only[Nat.zero_add];rfl
     have hnd':((bs++ml.2.1).map (·.1)).Nodup:=by
      rw[hkeys];exact List.Pairwise.map _ (fun i j e e'=>e (hnm i j e')) List.nodup_range
     have hent:∀p,p∈bs++ml.2.1->h' p.1=some p.2:=fun p hp=>iB hnd' hp
     have origin:∀k' e',h' k'=some e'->∃i,i<nb+met.rows.length/\k'=(nm i).1:=fun k' e' hk=>by
      have hm:=pO hk;have:k'∈(bs++ml.2.1).map (·.1):=UR.2 ⟨_,hm,rfl⟩;rw[hkeys] at this;obtain⟨i,hi,rfl⟩:=UR.1 this;exact⟨i,by simpa using hi,rfl⟩
     have rowLive:∀k,some k∈met.rows->∃e,st.h k=some e/\e.box.live:=by
      have:∀(l:List CD) (cs:List Cell) (y:TL l) (mt:Met),fK st.h ks l cs=some (y,mt)->∀k,some k∈mt.rows->∃e,st.h k=some e/\e.box.live:=by
       intro l
       induction l with
       |nil=>
        intro cs y mt ha k hk;cases cs with
        |nil=>
         simp only[fK,Uw,UC] at ha;obtain⟨_,rfl⟩:=ha;simp at hk
        |cons _ _=>simp[fK] at ha
       |cons c l ih=>
        intro cs y mt ha k hk;cases cs with
        |nil=>simp[fK] at ha
        |cons z cs=>
         simp only[fK] at ha;split at ha
         ·rename_i y1 m1 h1';split at ha
          ·rename_i y2 m2 h2';simp only[Uw,UC] at ha;obtain⟨rfl,rfl⟩:=ha;rcases UK.1 hk with hk|hk
           ·unfold CD.abs at h1'
            (repeat' split at h1')<;>first
             |(cases h1';done)
             |(have e:=(Prod.mk.inj (Ux h1')).2;subst e;simp at hk;done)
             |(
              rename_i hat _ _ _ _;have e:=(Prod.mk.inj (Ux h1')).2;subst e;simp only[UV,Uw] at hk;subst hk;obtain⟨en,hen,_,hbx'⟩:=aK hat
              exact⟨en,hen,by rw[hbx'];trivial⟩)
           ·exact ih cs y2 m2 h2' k hk
          ·cases ha
         ·cases ha
      exact this sh.all all x met h3
     have back:∀i g c,i<nb+met.rows.length->γ' (nm i).1=some (g,c)->∃k0 e0,k0∈ks++met.rows.filterMap id/\st.h k0=some e0/\e0.box.live/\γ k0=some (g,c)/\(if i<nb then ks[i]?=some k0 else met.rows[i-nb]?=some (some k0)):=by
      intro i g c hi hγ;by_cases hlt:i<nb
      ·have hki:ks[i]?=some ks[i]:=by simp
       rw[hγb i _ hki] at hγ;obtain⟨e,l,g',h4,h5,h6⟩:=hbx.get hki;exact⟨ks[i],e,by simp,h4,by rw[h5];trivial,hγ,by rw[if_pos hlt];exact hki⟩
      ·have hj:i-nb<met.rows.length:=by omega
       have hq:met.rows[i-nb]?=some met.rows[i-nb]:=by simp[hj]
       have:=hγr (i-nb) _ hq;rw[show nb+(i-nb)=i by omega] at this;rw[this] at hγ;cases hqq:met.rows[i-nb] with
       |none=>rw[hqq] at hγ;simp at hγ
       |some k0=>
        rw[hqq] at hγ hq;obtain⟨e,h4,h5⟩:=rowLive k0 (List.mem_of_getElem? hq);exact⟨k0,e,by simp only[UK,List.mem_filterMap];exact .inr ⟨some k0,List.mem_of_getElem? hq,rfl⟩,h4,h5,hγ,by rw[if_neg hlt];exact hq⟩
     have N:Ren C γ st.h w C' γ' h' (ks++met.rows.filterMap id) met.deps:=by
      refine⟨fun k' e' g c hk hl hγ=>?_,hap,hrd,hrdb⟩;obtain⟨i,hi,rfl⟩:=origin k' e' hk;obtain⟨k0,e0,h4,h5,h6,h7,_⟩:=back i g c hi hγ;exact⟨k0,e0,c,h4,h5,h6,h7⟩
     have hboxN:∀i k,ks[i]?=some k->(∃e l,h' (nm i).1=some e/\e.ver=(nm i).2/\e.box=.cells l)/\γ' (nm i).1=γ k:=fun i k hi=>by
      refine⟨?_,hγb i k hi⟩;have hlt:i<sh.boxes.length:=by have:=(UI.1 hi).1;omega
      have:∀(i0:Nat) (bl:List (Option Nat×List CD)) (cs:List Cell) (j:Nat),j<bl.length->∃l,((nm (i0+j)).1,(⟨(nm (i0+j)).2,0,.cells l⟩:En))∈aW nm i0 bl cs:=by
       intro i0 bl
       induction bl generalizing i0 with
       |nil=>intro cs j hj;simp at hj
       |cons b bl ih=>
        intro cs j hj;obtain⟨p,ds⟩:=b;cases j with
        |zero=>exact⟨_,by simp only[aW,Nat.add_zero];exact U4⟩
        |succ j=>
         obtain⟨l,hl⟩:=ih (i0+1) (cs.drop ds.length) j (by simpa using hj);exact⟨l,by simp only[aW];rw[show i0+(j+1)=i0+1+j by omega];exact UA _ hl⟩
      obtain⟨l,hl⟩:=this 0 sh.boxes ps.2 i hlt;rw[Nat.zero_add] at hl;exact⟨_,l,hent _ (List.mem_append_left _ hl),rfl,rfl⟩
     obtain⟨hcells,_,hboxes⟩:=yF I N (nm:=nm) hboxN (m:=nb) h3 hall (fun k hk=>hk) (fun k hk=>by simp only[UK,List.mem_filterMap];exact .inr ⟨some k,hk,rfl⟩) (fun p hp=>hent p (List.mem_append_right _ hp)) hγr;obtain⟨hl1,hl2,hl3⟩:=bQ (C:=C') (γ:=γ') (h:=h') (w:=w) (sl:=sh.slots) (l:=List.replicate st.s.length V.dead) hok (fun i v hv=>by
      rw[List.getElem?_replicate] at hv;split at hv;·simp only[Uw] at hv;subst hv;trivial
      ·cases hv) hcells
     refine⟨γ',?_,hkl,fun i k hi=>⟨hγb i k hi,?_⟩,hγr⟩
     ·rw[hmk];refine⟨by rw[R'.size];simpa using hl1.symm,hl2,⟨fun k e hk=>?_,fun k k' e e' g c c' hk hl hk' hl' h4 h5=>?_,fun k e g c hk hl h4=>?_,W.frame,W.size,W.os,W.tape,W.output,W.new,W.rd,W.laid,W.stable,fun i hi=>?_⟩⟩
      ·have hm:=pO hk;rcases UK.1 hm with hm|hm
       ·exact og (C':=C') (γ':=γ') (h':=h') (rest:=[]) (i:=0) hbx (fun j k' hj=>by rw[Nat.zero_add];exact hγb j k' hj) (by simpa using hl3) _ hm
       ·exact hboxes _ hm
      ·obtain⟨i,hi,rfl⟩:=origin k e hk;obtain⟨j,hj,rfl⟩:=origin k' e' hk';obtain⟨k0,e0,_,h6,h7,h8,h9⟩:=back i g c hi h4;obtain⟨k1,e1,_,h10,h11,h12,h13⟩:=back j g c' hj h5;have hkk:=I.inj k0 k1 e0 e1 g c c' h6 h7 h10 h11 h8 h12;subst hkk;have hfm:∀(l:List (Option Nat)) (i j:Nat) (k:Nat),(l.filterMap id).Nodup->l[i]?=some (some k)->l[j]?=some (some k)->i=j:=by
        intro l
        induction l with
        |nil=>intro i j k _ hi;simp at hi
        |cons q l ih=>
         intro i j k hn hi hj;cases i with
         |zero=>
          cases j with
          |zero=>rfl
          |succ j=>
           simp only[U0,Uw] at hi;subst hi;simp only[List.filterMap_cons,id,List.nodup_cons] at hn;exact absurd ((List.mem_filterMap (f:=id)).2 ⟨some k,List.mem_of_getElem? (i:=j) (by simpa using hj),rfl⟩) hn.1
         |succ i=>
          have hn':(l.filterMap id).Nodup:=by
           cases q with
           |none=>simpa using hn
           |some q=>simp only[List.filterMap_cons,id,List.nodup_cons] at hn;exact hn.2
          cases j with
          |zero=>
           simp only[U0,Uw] at hj;subst hj;simp only[List.filterMap_cons,id,List.nodup_cons] at hn;exact absurd ((List.mem_filterMap (f:=id)).2 ⟨some k,List.mem_of_getElem? (i:=i) (by simpa using hi),rfl⟩) hn.1
          |succ j=>exact congrArg _ (ih i j k hn' (by simpa using hi) (by simpa using hj))
       rw[List.nodup_append] at hnd;by_cases hi':i<nb<;>by_cases hj':j<nb
       ·rw[if_pos hi'] at h9;rw[if_pos hj'] at h13;have:i=j:=by
         have e1:=UI.1 h9;have e2:=UI.1 h13;obtain⟨b1,e1⟩:=e1;obtain⟨b2,e2⟩:=e2;exact Ca hnd.1 b1 b2 (e1.trans e2.symm)
        rw[this]
       ·rw[if_pos hi'] at h9;rw[if_neg hj'] at h13;exact absurd rfl (hnd.2.2 k0 (List.mem_of_getElem? h9) k0 (List.mem_filterMap.2 ⟨some k0,List.mem_of_getElem? h13,rfl⟩))
       ·rw[if_neg hi'] at h9;rw[if_pos hj'] at h13;exact absurd rfl (hnd.2.2 k0 (List.mem_of_getElem? h13) k0 (List.mem_filterMap.2 ⟨some k0,List.mem_of_getElem? h9,rfl⟩))
       ·rw[if_neg hi'] at h9;rw[if_neg hj'] at h13;have:=hfm met.rows _ _ k0 hnd.2.1 h9 h13;rw[show i=j by omega]
      ·obtain⟨i,hi,rfl⟩:=origin k e hk;obtain⟨k0,e0,h5,h6,h7,h8,_⟩:=back i g c hi h4;exact hown k0 e0 g c h5 h6 h7 h8
      ·obtain⟨hn,k,hk,hγk⟩:=hlent i hi;obtain⟨⟨e,l,h4,_,_⟩,h5⟩:=hboxN i k hk;rw[hn] at h4 h5;exact⟨e,h4,fun _=>h5.trans hγk⟩
     ·obtain⟨e,l,g,h4,h5,_⟩:=hbx.get hi;exact⟨e,l,h4,h5⟩
    ·cases he
   ·cases he
  ·cases he
 ·cases he
end
end Rv
namespace Rv
open Go
def Sat(P:Program)(L:World->Prop)(f:FuncId)(sp:Spec):Prop:=
 ∀x y,sp.f x=some y->∀(C:Ctx) (γ:Gam) (vals:Array Value),C.L=L->C.nl=sp.a.boxes.length->Rel C γ C.w0 (sp.a.mk' nmJ sp.a.slots.length x) vals ->
  Calls P f vals C.w0 fun e w'=>∃(γ':Gam) (rs:Array Value),e=.returned (if h:rs.size=1 then rs[0] else .tuple rs)/\Rel C γ' w' (sp.r.mk' nmJ sp.r.slots.length y) rs
def aB(P:Program)(f:FuncId):Prop:=∃fn,P.funcs[f]?=some fn/\fn.body.isSome=true/\(fn.name == "runtime.NumGoroutine")=false
section
variable{P:Program}{C C':Ctx}{γ γ':Gam}{h h':Heap}{w:World}{R:Type}{r:R}
theorem Rd.free{ok ok':Nat->Prop}:∀{t:Ty}{x:t.D}{cs:List Value},t.hasSl=false->Rd w ok t x cs->Rd w ok' t x cs
 | .int _,_,_,_,h=>h
 | .bool,_,_,_,h=>h
 | .str,_,_,_,h=>h
 | .sl _,_,_,hs,_=>by simp[Ty.hasSl] at hs
 | .nil,_,_,_,h=>h
 | .fn,_,_,hs,_=>by simp[Ty.hasSl] at hs
 | .pair a b,_,_,hs,⟨c1,c2,h,h1,h2⟩=>by
  simp only[Ty.hasSl,Bool.or_eq_false_iff] at hs;exact⟨c1,c2,h,h1.free hs.1,h2.free hs.2⟩
theorem QY{nm nm':Nm}{cd:CD}{y:cd.T}{m m':Nat}{v:Value}(hv:av C γ h w (cd.mk nm y m).1 v)(tr:cd.shares=true->∀g,okb C γ h none g->g<w.heap.size->okb C' γ' h' none g)
  (he:∀p,p∈(cd.mk nm y m).2.1->h p.1=some p.2) (he':∀p,p∈(cd.mk nm' y m').2.1->h' p.1=some p.2) (hg:cd.isRow=true->γ' (nm' m').1=γ (nm m).1)
  (hb:∀i,cd.boxN=some i->(∃e l,h (nm i).1=some e/\e.ver=(nm i).2/\e.box=.cells l)/\(∃e l,h' (nm' i).1=some e/\e.ver=(nm' i).2/\e.box=.cells l)/\γ' (nm' i).1=γ (nm i).1)
  (hbr:∀p,p∈(cd.mk nm y m).2.1->dJ C γ h w p.1 p.2.box) :
  av C' γ' h' w (cd.mk nm' y m').1 v/\∀p,p∈(cd.mk nm' y m').2.1->dJ C' γ' h' w p.1 p.2.box:=by
 cases cd with
 |int k=>exact⟨hv,fun p hp=>by simp[CD.mk] at hp⟩
 |bool=>exact⟨hv,fun p hp=>by simp[CD.mk] at hp⟩
 |str=>exact⟨hv,fun p hp=>by simp[CD.mk] at hp⟩
 |raw u=>exact⟨hv,fun p hp=>by simp[CD.mk] at hp⟩
 |err=>exact⟨hv,fun p hp=>by simp[CD.mk] at hp⟩
 |ifo t k=>exact⟨hv,fun p hp=>by simp[CD.mk] at hp⟩
 |any=>exact⟨hv,fun p hp=>by simp[CD.mk] at hp⟩
 |fn=>exact⟨⟨hv.1,hv.2.mono (Uz _) fun g ho hgs=>⟨rfl,tr rfl g ho hgs⟩⟩,fun p hp=>by simp[CD.mk] at hp⟩
 |pp t=>
  obtain⟨g,p,x,ds,hvv,hx,ho,hg,hrd,hcc⟩:=hv.2;exact⟨⟨hv.1,g,p,x,ds,hvv,hx,tr rfl g ho hg,hg,hrd.mono (Uz _) fun g ho hgs=>⟨rfl,tr rfl g ho hgs⟩,hcc⟩,fun p hp=>by simp[CD.mk] at hp⟩
 |sl t=>
  refine⟨⟨hv.1,RdS.iff.2 ((RdS.iff.1 hv.2).mono (Uz _) fun g ho hgs=>⟨rfl,tr rfl g ho hgs⟩)⟩,fun p hp=>by simp[CD.mk] at hp⟩
 |slc t=>
  refine⟨⟨hv.1,RdS.iff.2 ((RdS.iff.1 hv.2.1).mono (Uz _) fun g ho hgs=>⟨rfl,tr rfl g ho hgs⟩),hv.2.2⟩,fun p hp=>by simp[CD.mk] at hp⟩
 |row e t=>
  have h1:=he _ (List.mem_singleton_self _);have h2:=he' _ (List.mem_singleton_self _);have hgg:=hg rfl;refine⟨⟨hv.1,aY h2 rfl fun n hn=>?_⟩,fun p hp=>?_⟩;·simp only[Box.len] at hn;rw[hgg];exact hv.2.get h1 rfl n hn
  ·simp only[CD.mk,UV] at hp;subst hp;have:=hbr _ (List.mem_singleton_self _);rcases this with⟨h0,hx⟩|⟨g,c,cur,hγ,hb,hc,hcm,hcs,hsz,hr⟩
   ·exact .inl ⟨by rw[hgg];exact h0,hx⟩
   ·refine .inr ⟨g,c,cur,by rw[hgg];exact hγ,hb,hc,hcm,hcs,hsz,fun i x hx=>?_⟩;cases hsl:t.hasSl with
    |false=>exact(hr i x hx).free hsl
    |true=>exact(hr i x hx).mono (Uz _) fun g ho hgs=>⟨rfl,tr hsl g ho hgs⟩
 |ptr i off=>
  obtain⟨⟨e,l,h1,h2,h3⟩,⟨e',l',h1',h2',h3'⟩,hgg⟩:=hb i rfl;refine⟨⟨hv.1,aY h1' h2' fun l'' _=>?_⟩,fun p hp=>by simp[CD.mk] at hp⟩;rw[hgg];exact hv.2.get h1 h2 l h3
 |clr i fs=>
  obtain⟨⟨e,l,h1,h2,h3⟩,⟨e',l',h1',h2',h3'⟩,hgg⟩:=hb i rfl;refine⟨⟨hv.1,aY h1' h2' fun l'' _=>?_⟩,fun p hp=>by simp[CD.mk] at hp⟩;obtain⟨b,c,g,hγ,hvv,hcl⟩:=hv.2.get h1 h2 l h3;exact⟨b,c,g,by rw[hgg];exact hγ,hvv,fun j f hj=>⟨tr rfl g (hcl j f hj).1 (hcl j f hj).2.1,(hcl j f hj).2⟩⟩
theorem dP(nm:Nm):∀(l:List CD) (y:TL l) (m:Nat),(mkL nm l y m).2.2=m+(l.filter CD.isRow).length/\(mkL nm l y m).2.1.map (·.1)=(List.range (l.filter CD.isRow).length).map (fun j=>(nm (m+j)).1)/\(mkL nm l y m).1.length=l.length
 |[],_,m=>by simp[mkL]
 |c::l,y,m=>by
  have hc:(c.mk nm y.1 m).2.2=m+([c].filter CD.isRow).length/\(c.mk nm y.1 m).2.1.map (·.1)=(List.range ([c].filter CD.isRow).length).map (fun j=>(nm (m+j)).1):=by
   cases c<;>simp[CD.mk,CD.isRow,List.filter]
  obtain⟨h1,h2,h3⟩:=dP nm l y.2 (m+([c].filter CD.isRow).length);have hf:((c::l).filter CD.isRow).length=([c].filter CD.isRow).length+(l.filter CD.isRow).length:=by
   rw[show c::l=[c]++l from rfl,List.filter_append,UD]
  simp only[mkL,hc.1];refine⟨by rw[h1,hf];omega,?_,by simp[h3]⟩;rw[U6,hc.2,h2,hf,List.range_add,U6,List.map_map];congr 1;apply List.map_congr_left;intro j _;simp[Vk]
theorem G6{nm nm':Nm}:∀{l:List CD}{y:TL l}{m m':Nat}{vs:List Value},ai (av C γ h w) (mkL nm l y m).1 vs->(l.any CD.shares=true->∀g,okb C γ h none g->g<w.heap.size->okb C' γ' h' none g) ->
  (∀p,p∈(mkL nm l y m).2.1->h p.1=some p.2)->(∀p,p∈(mkL nm' l y m').2.1->h' p.1=some p.2)->(∀j,j<(l.filter CD.isRow).length->γ' (nm' (m'+j)).1=γ (nm (m+j)).1) ->
  (∀i c,c∈l->c.boxN=some i->(∃e l,h (nm i).1=some e/\e.ver=(nm i).2/\e.box=.cells l)/\(∃e l,h' (nm' i).1=some e/\e.ver=(nm' i).2/\e.box=.cells l)/\γ' (nm' i).1=γ (nm i).1) ->
  (∀p,p∈(mkL nm l y m).2.1->dJ C γ h w p.1 p.2.box) ->
  ai (av C' γ' h' w) (mkL nm' l y m').1 vs/\∀p,p∈(mkL nm' l y m').2.1->dJ C' γ' h' w p.1 p.2.box
 |[],_,_,_,vs,ha,_,_,_,_,_,_=>by
  cases vs with
  |nil=>exact⟨trivial,fun p hp=>by simp[mkL] at hp⟩
  |cons _ _=>exact ha.elim
 |c::l,y,m,m',vs,ha,tr,he,he',hg,hb,hbr=>by
  cases vs with
  |nil=>exact ha.elim
  |cons v vs=>
   have hc1:(c.mk nm y.1 m).2.2=m+([c].filter CD.isRow).length:=by cases c<;>simp[CD.mk,CD.isRow,List.filter]
   have hc2:(c.mk nm' y.1 m').2.2=m'+([c].filter CD.isRow).length:=by cases c<;>simp[CD.mk,CD.isRow,List.filter]
   have hf:((c::l).filter CD.isRow).length=([c].filter CD.isRow).length+(l.filter CD.isRow).length:=by
    rw[show c::l=[c]++l from rfl,List.filter_append,UD]
   simp only[mkL,UK] at he he' hbr;obtain⟨g1,g2⟩:=QY (nm:=nm) (nm':=nm') (cd:=c) (y:=y.1) (m:=m) (m':=m') ha.1 (fun hs=>tr (by simp[hs])) (fun p hp=>he p (.inl hp)) (fun p hp=>he' p (.inl hp))
    (fun hr=>by have:=hg 0 (by rw[hf];simp[hr];omega);simpa using this) (fun i e=>hb i c (by simp) e) (fun p hp=>hbr p (.inl hp))
   obtain⟨g3,g4⟩:=G6 (nm:=nm) (nm':=nm') (l:=l) (y:=y.2) (m:=m+([c].filter CD.isRow).length) (m':=m'+([c].filter CD.isRow).length) (vs:=vs) (by have:=ha.2;rw[hc1] at this;exact this) (fun hs=>tr (by simp[hs])) (fun p hp=>he p (.inr (by rw[hc1];exact hp))) (fun p hp=>he' p (.inr (by rw[hc2];exact hp)))
    (fun j hj=>by have:=hg (([c].filter CD.isRow).length+j) (by omega);rwa [<- Vk,<- Vk] at this) (fun i c hm e=>hb i c (by simp[hm]) e) (fun p hp=>hbr p (.inr (by rw[hc1];exact hp)))
   simp only[mkL,hc2];exact⟨⟨g1,g3⟩,fun p hp=>(UK.1 hp).elim (g2 p) (g4 p)⟩
theorem aU:∀{l:List (Nat×En)}{h:Heap}{k:Nat},k ∉ l.map (·.1)->l.foldl (fun h p=>Heap.set h p.1 p.2) h k=h k
 |[],_,_,_=>rfl
 |p::l,h,k,hk=>by
  simp only[UO,UG,not_or] at hk;simp only[U9];rw[aU hk.2,bn _ _ hk.1]
theorem tK:∀{l:List (Nat×En)}{h:Heap}{p:Nat×En},(l.map (·.1)).Nodup->p∈l->l.foldl (fun h p=>Heap.set h p.1 p.2) h p.1=some p.2
 |q::l,h,p,hn,hp=>by
  simp only[UO,List.nodup_cons] at hn;simp only[U9];rcases UG.1 hp with rfl|hp;·rw[aU hn.1,bO]
  ·exact tK hn.2 hp
theorem fu:∀{l:List (Nat×En)}{h:Heap}{k:Nat},k∈l.map (·.1)->∃p,p∈l/\p.1=k/\l.foldl (fun h p=>Heap.set h p.1 p.2) h k=some p.2
 |q::l,h,k,hk=>by
  simp only[U9];by_cases hm:k∈l.map (·.1);·obtain⟨p,h1,h2,h3⟩:=fu (h:=Heap.set h q.1 q.2) hm;exact⟨p,by simp[h1],h2,h3⟩
  ·simp only[UO,UG] at hk;have:=hk.resolve_right hm;subst this;exact⟨q,by simp,rfl,by rw[aU hm,bO]⟩
end
end Rv
namespace Rv
open Go
section
variable{P:Program}{C C':Ctx}{γ γ':Gam}{h h':Heap}{w w':World}{R:Type}{r:R}
def callee(C:Ctx)(γ:Gam)(h:Heap)(w:World)(bm keys deps:List Nat):Ctx where
 w0:=w
 own:=fun g=>w.heap.size<=g\/∃k e c,k∈keys/\h k=some e/\e.box.live/\γ k=some (g,c)
 rd:=fun g=>w.heap.size<=g\/(∃k e c,k∈keys/\h k=some e/\e.box.live/\γ k=some (g,c))\/(∃d,okb C γ h d g/\∀x,d=some x->x.1∈deps)\/∃k e c l,k∈deps/\h k=some e/\e.box=.cells l/\γ k=some (g,c)
 L:=C.L
 nl:=bm.length
 lent:=fun i=>(bm[i]?).bind γ
theorem Nl(I:Inv C γ h w)(bm keys deps:List Nat):MS (callee C γ h w bm keys deps) w where
 frame:=fun _ _ _=>rfl
 size:=Uz _
 os:=rfl
 tape:=rfl
 output:=rfl
 new:=fun _ hg=>.inl hg
 rd:=fun _ hg=>hg.elim .inl (fun h=>.inr (.inl h))
 laid:=I.laid
 stable:=fun a b ha hab=>I.stable a b ha fun g hno=>hab g fun ho=>hno (by
  rcases ho with ho|⟨k,e,c,_,hk,hl,hg⟩;·exact I.new g (UW I.size ho)
  ·exact I.own k e g c hk hl hg)
theorem lZ{st:St}{a:Act}(R':Rel C γ w st a.tmps):∀{l:List Operand}{vs:List V},ja st l=some vs->ai (bv C γ st.h w) vs (l.map a.eval)
 |[],vs,he=>by simp only[ja,Uw] at he;subst he;trivial
 |x::l,vs,he=>by
  simp only[ja] at he;split at he
  ·rename_i v hv;split at he
   ·rename_i l' hl;simp only[Uw] at he;subst he;exact⟨jB R' hv,lZ R' hl⟩
   ·cases he
  ·cases he
theorem JF{st:St}{tmps:Array Value}(R':Rel C γ w st tmps){vs:List V}{us:List Value}(ha:ai (bv C γ st.h w) vs us):Rel C γ w ⟨vs,st.h⟩ us.toArray:=by
 refine⟨by simp[ha.length],fun i v hi=>?_,R'.inv⟩;obtain⟨u,hu,hr⟩:=ha.get hi;simp_all
theorem O4{l:List V}{rs:Array Value}(hl:rs.size=l.length)(hs:∀i v,l[i]?=some v->bv C γ h w v (rs.getD i undef))(hv:∀v,v∈l->∃x,v=.v x):bv C γ h w (O3 l) (if h:rs.size=1 then rs[0] else .tuple rs):=by
 have tup:rs.size≠1->bv C γ h w (.tup (l.map V.toV1)) (.tuple rs):=fun hne=>by
  refine⟨rs.toList,by simp,?_⟩;have:∀(l:List V) (m:List Value),l.length=m.length->(∀(i:Nat) v,l[i]?=some v->∃u,m[i]?=some u/\bv C γ h w v u)->(∀v,v∈l->∃x,v=.v x)->ai (aM C γ h w) (l.map V.toV1) m:=by
   intro l
   induction l with
   |nil=>intro m hm _ _;cases m with
    |nil=>trivial
    |cons _ _=>simp at hm
   |cons v l ih=>
    intro m hm hh hx;cases m with
    |nil=>simp at hm
    |cons u m=>
     obtain⟨x,rfl⟩:=hx v (by simp);obtain⟨u',hu',hr⟩:=hh 0 _ rfl;simp only[U0,Uw] at hu';subst hu';exact⟨hr,ih m (by simpa using hm) (fun i v hi=>by have:=hh (i+1) v (by simpa using hi);grind) fun v hv=>hx v (by simp[hv])⟩
  simp_all [UI]
 match l,hl,hs,hv,tup with
 |[],hl,_,_,tup=>
  have h0:rs.size=0:=hl;rw[dif_neg (by omega)];exact tup (by omega)
 |[v],hl,hs,_,_=>
  have h1:rs.size=1:=hl;rw[dif_pos h1];show bv C γ h w v _;have:=hs 0 v rfl;simpa[Array.getD,h1] using this
 |a::b::r,hl,_,_,tup=>
  have h2:rs.size=r.length+1+1:=hl;rw[dif_neg (by omega)];exact tup (by omega)
theorem cz:∀{sl:List (Nat×SD)}{l:List V}{cs:List Cell},(aA l sl cs).1.length=l.length
 |[],_,_=>rfl
 |(i,.c _)::sl,l,cs=>by simp only[aA];rw[cz];simp
 |(i,.agg _)::sl,l,cs=>by simp only[aA];rw[cz];simp
 |(i,.clo _ _)::sl,l,cs=>by simp only[aA];rw[cz];simp
theorem dQ:∀{sl:List (Nat×SD)}{l:List V}{cs:List Cell}{i:Nat},i ∉ sl.map (·.1)->(aA l sl cs).1[i]?=l[i]?
 |[],_,_,_,_=>rfl
 |(j,.c _)::sl,l,cs,i,hi=>by
  simp only[UO,UG,not_or] at hi;simp only[aA];rw[dQ hi.2,List.getElem?_set,if_neg (fun e=>hi.1 e.symm)]
 |(j,.agg _)::sl,l,cs,i,hi=>by
  simp only[UO,UG,not_or] at hi;simp only[aA];rw[dQ hi.2,List.getElem?_set,if_neg (fun e=>hi.1 e.symm)]
 |(j,.clo _ _)::sl,l,cs,i,hi=>by
  simp only[UO,UG,not_or] at hi;simp only[aA];rw[dQ hi.2,List.getElem?_set,if_neg (fun e=>hi.1 e.symm)]
theorem sw:∀{sl:List (Nat×SD)}{l:List V}{cs:List Cell}{i:Nat},(∀p,p∈sl->p.2.isV=true)->i∈sl.map (·.1)->i<l.length->∃x,(aA l sl cs).1[i]?=some (.v x)
 |(j,.c _)::sl,l,cs,i,hv,hi,hl=>by
  simp only[aA];by_cases hm:i∈sl.map (·.1);·exact sw (fun p hp=>hv p (by simp[hp])) hm (by simpa using hl)
  simp_all [dQ]
 |(j,.agg _)::sl,l,cs,i,hv,hi,hl=>by
  simp only[aA];by_cases hm:i∈sl.map (·.1);·exact sw (fun p hp=>hv p (by simp[hp])) hm (by simpa using hl)
  simp_all [dQ]
 |(j,.clo f ds)::sl,l,cs,i,hv,hi,hl=>by
  have:=hv (j,.clo f ds) (by simp);cases this
theorem gX{vals:Array Value}:∀{sl:List (Nat×SD)}{l:List V}{cs:List Cell},(sl.map (·.1)).Nodup->(∀i,i∈sl.map (·.1)->i<l.length)->(sl.flatMap fun p=>p.2.cds).length<=cs.length ->
  (∀i v,(aA l sl cs).1[i]?=some v->bv C γ h w v (vals.getD i undef)) ->
  ai (av C γ h w) (cs.take (sl.flatMap fun p=>p.2.cds).length) (bg vals sl)/\dU vals sl/\(aA l sl cs).2=cs.drop (sl.flatMap fun p=>p.2.cds).length
 |[],_,cs,_,_,hc,_=>⟨by simp only[List.flatMap_nil,U2,Vp];trivial,fun i ds hm=>by simp at hm,by simp[aA]⟩
 |(i,.c d)::sl,l,cs,hn,hb,hc,hs=>by
  simp only[UO,List.nodup_cons] at hn;have e:(SD.c d).cds.length=1:=rfl;simp only[U7,UD,e] at hc⊢;cases cs with
  |nil=>grind
  |cons c cs=>
   simp only[aA,List.headD_cons,List.tail_cons] at hs⊢;obtain⟨h1,h2,h3⟩:=gX (sl:=sl) (l:=l.set i (.v (.c c))) (cs:=cs) hn.2 (fun j hj=>by grind) (by grind) hs;have h0:=hs i (.v (.c c)) (by simp_all [dQ]);refine⟨?_,h2.cons trivial,?_⟩;·rw[Nat.add_comm,List.take_succ_cons];exact⟨h0,h1⟩
   grind
 |(i,.agg d)::sl,l,cs,hn,hb,hc,hs=>by
  simp only[UO,List.nodup_cons] at hn;have e:(SD.agg d).cds.length=d.length:=rfl;simp only[U7,UD,e] at hc⊢;simp only[aA] at hs⊢;obtain⟨h1,h2,h3⟩:=gX (sl:=sl) (l:=l.set i (.v (.agg (cs.take d.length)))) (cs:=cs.drop d.length) hn.2 (fun j hj=>by grind) (by grind) hs;obtain⟨us,hu,ha⟩:=hs i _ (by rw[dQ hn.1,List.getElem?_set,if_pos rfl,if_pos (hb i (by simp))]);have hul:=ha.length;rw[U1] at hul;refine⟨?_,h2.cons ⟨us,hu,by omega⟩,by simp_all⟩;simp only[bg,hu,Value.cells];have:=ha.append h1
  grind
 |(i,.clo f d)::sl,l,cs,hn,hb,hc,hs=>by
  simp only[UO,List.nodup_cons] at hn;have e:(SD.clo f d).cds.length=d.length:=rfl;simp only[U7,UD,e] at hc⊢;simp only[aA] at hs⊢;obtain⟨h1,h2,h3⟩:=gX (sl:=sl) (l:=l.set i (.clo f (cs.take d.length))) (cs:=cs.drop d.length) hn.2 (fun j hj=>by grind) (by grind) hs;obtain⟨us,hu,ha⟩:=hs i _ (by rw[dQ hn.1,List.getElem?_set,if_pos rfl,if_pos (hb i (by simp))]);have hul:=ha.length;rw[U1] at hul;refine⟨?_,h2.cons ⟨us,hu,by omega⟩,by simp_all⟩;simp only[bg,hu,qW];have:=ha.append h1
  grind
theorem mI{vals:Array Value}{sl:List (Nat×SD)}{l:List V}{cs:List Cell}(hn:(sl.map (·.1)).Nodup)(hb:∀i,i∈sl.map (·.1)->i<l.length)(hc:cs.length=(sl.flatMap fun p=>p.2.cds).length)
  (hs:∀i v,(aA l sl cs).1[i]?=some v->bv C γ h w v (vals.getD i undef)):ai (av C γ h w) cs (bg vals sl)/\dU vals sl:=by
 grind [gX,List.take_length]
theorem vg(nm:Nm):∀(i0:Nat) (bl:List (Option Nat×List CD)) (cs:List Cell) (j:Nat),j<bl.length->∃l,((nm (i0+j)).1,(⟨(nm (i0+j)).2,0,.cells l⟩:En))∈aW nm i0 bl cs:=by
 intro i0 bl
 induction bl generalizing i0 with
 |nil=>grind
 |cons b bl ih=>
  intro cs j hj;obtain⟨p,ds⟩:=b;cases j with
  |zero=>simp_all [aW]
  |succ j=>
   obtain⟨l,hl⟩:=ih (i0+1) (cs.drop ds.length) j (by simpa using hj)
   grind [aW]
theorem tO(I:Inv C γ h w){nm:Nm}:∀{bl:List (Option Nat×List CD)}{i:Nat}{cs:List Cell},cs.length=(bl.flatMap (·.2)).length->(∀p,p∈aW nm i bl cs->h p.1=some p.2) ->
  ∃more,iM γ h w bl ((List.range bl.length).map fun j=>(nm (i+j)).1) more/\ai (av C γ h w) cs more.flatten
 |[],i,cs,hc,_=>by
  simp only[List.flatMap_nil,U2,List.length_eq_zero_iff] at hc;subst hc;exact⟨[],trivial,trivial⟩
 |(q,ds)::bl,i,cs,hc,he=>by
  simp only[U7,UD] at hc;simp only[aW] at he;have h0:=he _ U4;have hb:=I.box _ _ h0;obtain⟨g,us,T,hγ,hbl,ha⟩:=hb;obtain⟨more,h1,h2⟩:=tO I (nm:=nm) (bl:=bl) (i:=i+1) (cs:=cs.drop ds.length) (by grind) (fun p hp=>he p (UA _ hp));have hul:=ha.length;rw[U1] at hul;refine⟨us.toList::more,?_,?_⟩
  ·rw[UN,List.range_succ_eq_map,UO,List.map_map];refine⟨⟨_,_,g,T,h0,rfl,hγ,by simpa using hbl,by omega⟩,?_⟩;have:(List.range bl.length).map ((fun j=>(nm (i+j)).1) ∘ Nat.succ)=(List.range bl.length).map fun j=>(nm (i+1+j)).1:=by
    grind [List.map_congr_left]
   grind
  ·simp only[List.flatten_cons];have:=ha.append h2;simp_all
theorem mW{deps:List Nat}{p:Nat×En}(hp:p∈cu h deps):p.1∈deps/\∃e a t xs,h p.1=some e/\e.box=.row a t xs/\p.2=⟨e.ver,e.dver,.pub t xs⟩:=by
 unfold cu at hp
 grind
theorem zA{deps:List Nat}{k:Nat}{e:En}{a:TypeId}{t:Ty}{xs:List t.D}(hk:k∈deps)(he:h k=some e)(hb:e.box=.row a t xs):k∈(cu h deps).map (·.1):=by
 refine UR.2 ⟨(k,⟨e.ver,e.dver,.pub t xs⟩),List.mem_filterMap.2 ⟨k,hk,?_⟩,rfl⟩;obtain⟨v,dv,b⟩:=e
 grind
theorem FV{st:St}{a:Act}(R':Rel C γ w st a.tmps){sp:Spec}{ab:Abs sp.a.T}{d:Nat}{dst:Option Nat}{y:sp.r.T}(hpl:sp.r.okRes ab.bm.length=true)(hb0:ab.bm.all (qo st.h)=true)(hnk:((aX d sp.r).all fun k=>!ab.keys.contains k)=true)
  (hkn:ab.keys.Nodup) (hdk:∀k,k∈ab.m.deps->k ∉ ab.keys) (hnb0:(!(sp.r.all.any CD.shares)||ab.m.deps.all (oP st.h))=true) (hbm:∀k,k∈ab.bm->∃e l,st.h k=some e/\e.box=.cells l)
  {γr:Gam} {rs:Array Value} (Rr:Rel (callee C γ st.h w ab.bm ab.keys ab.m.deps) γr w' (sp.r.mk' nmJ sp.r.slots.length y) rs) :
  ∃γ',Rel C γ' w' (st.app dst (iQ st d sp ab y)) (a.put dst (if h:rs.size=1 then rs[0] else .tuple rs)).tmps:=by
 have I:=R'.inv;have Ir:=Rr.inv;unfold Shape.okRes at hpl;simp only[UB,UE] at hpl;obtain⟨⟨⟨⟨hnb,hpin⟩,hidx⟩,hptr⟩,hisv⟩:=hpl
 let nb:=sp.r.boxes.length
 let nr:=(sp.r.all.filter CD.isRow).length
 let nm2:=nmI st.h d ab.bm
 let M1:=sp.r.mkAll nmJ sp.r.slots.length y
 let M2:=sp.r.mkAll nm2 sp.r.slots.length y
 let rk:=ab.m.rows.filterMap id
 let pubs:=if sp.r.all.any CD.shares then cu st.h ab.m.deps else[]
 let kp:=if ab.keys.isEmpty then[] else nN st.h ab.m.deps
 let h2:Heap:=(kp++(pubs++(iH st.h rk++(M2.bs++M2.rs)))).foldl (fun h p=>Heap.set h p.1 p.2) st.h
 have hnb':ab.bm.length=nb:=hnb.symm;have nmB:∀i k,ab.bm[i]?=some k->nm2 i=(k,match st.h k with|some e=>e.ver|none=>0):=fun i k hi=>by
  show nmI st.h d ab.bm i=_;simp only[nmI,hi];rfl
 have nmR:∀j,nm2 (nb+j)=(16*d+(nb+j),st.h.next (16*d+(nb+j))):=fun j=>by
  show nmI st.h d ab.bm (nb+j)=_;unfold nmI;rw[List.getElem?_eq_none (by omega)];rfl
 have kr1:M1.rs.map (·.1)=(List.range nr).map (fun j=>(nmJ (nb+j)).1):=(dP nmJ sp.r.all y sp.r.boxes.length).2.1;have kr2:M2.rs.map (·.1)=aX d sp.r:=by
  have:=(dP nm2 sp.r.all y sp.r.boxes.length).2.1;rw[show M2.rs=(mkL nm2 sp.r.all y sp.r.boxes.length).2.1 from rfl,this];unfold aX;apply List.map_congr_left;intro j _;rw[nmR j]
 have kb1:M1.bs.map (·.1)=(List.range nb).map (fun j=>(nmJ j).1):=by
  have:=iJ nmJ 0 sp.r.boxes (aA (List.replicate sp.r.slots.length V.dead) sp.r.slots (mkL nmJ sp.r.all y sp.r.boxes.length).1).2;simp only[Nat.zero_add] at this;exact this
 have kb2:M2.bs.map (·.1)=ab.bm:=by
  have:=iJ nm2 0 sp.r.boxes (aA (List.replicate sp.r.slots.length V.dead) sp.r.slots (mkL nm2 sp.r.all y sp.r.boxes.length).1).2;simp only[Nat.zero_add] at this;refine Eq.trans this ?_;apply List.ext_getElem?;intro i;by_cases hi:i<ab.bm.length
  ·have h1:ab.bm[i]?=some ab.bm[i]:=by simp[hi]
   rw[Vo,List.getElem?_range (by omega),Vh,nmB i _ h1,h1]
  ·rw[List.getElem?_eq_none (by simpa using by omega),List.getElem?_eq_none (by omega)]
 have hr1:(sp.r.mk' nmJ sp.r.slots.length y).h=Heap.ofList (M1.bs++M1.rs):=rfl;have nd1:((M1.bs++M1.rs).map (·.1)).Nodup:=by
  rw[U6,kb1,kr1];have:(List.range (nb+nr)).map (fun j=>(nmJ j).1)=(List.range nb).map (fun j=>(nmJ j).1)++(List.range nr).map (fun j=>(nmJ (nb+j)).1):=by
   rw[List.range_add,U6,List.map_map];rfl
  rw[<- this];exact List.Pairwise.map _ (fun i j e e'=>e (by simp only[nmJ] at e';omega)) List.nodup_range
 have hnk':∀k,k∈aX d sp.r->k ∉ ab.keys:=fun k hk=>by
  have:=UT.1 hnk k hk;simpa using this
 have ndk:(aX d sp.r).Nodup:=by
  unfold aX;exact List.Pairwise.map _ (fun i j e e'=>e (by omega)) List.nodup_range
 have bmk:∀k,k∈ab.bm->k∈ab.keys:=fun k hk=>List.mem_append_left _ hk
 have rkk:∀k,k∈rk->k∈ab.keys:=fun k hk=>List.mem_append_right _ hk
 have hbrk:∀k,k∈ab.bm->k ∉ rk:=fun k h1 h2=>by
  have:=(List.nodup_append.1 hkn).2.2 k h1 k h2;exact this rfl
 have nd2:((M2.bs++M2.rs).map (·.1)).Nodup:=by
  rw[U6,kb2,kr2,List.nodup_append];refine⟨(List.nodup_append.1 hkn).1,ndk,fun k h1 k' h2 e=>?_⟩;subst e;exact hnk' k h2 (bmk k h1)
 have hnew:∀p,p∈M2.bs++M2.rs->h2 p.1=some p.2:=fun p hp=>by
  show(kp++(pubs++(iH st.h rk++(M2.bs++M2.rs)))).foldl _ st.h p.1=_;rw[List.foldl_append,List.foldl_append,List.foldl_append];exact tK nd2 hp
 have pubm:∀p,p∈pubs->sp.r.all.any CD.shares=true/\p.1∈ab.m.deps/\∃e a t xs,st.h p.1=some e/\e.box=.row a t xs/\p.2=⟨e.ver,e.dver,.pub t xs⟩:=fun p hp=>by
  by_cases hs:sp.r.all.any CD.shares=true;·simp only[pubs,hs,if_true] at hp;exact⟨hs,mW hp⟩
  ·simp only[pubs,hs] at hp;simp at hp
 have kpm:∀p,p∈kp->st.h p.1=some p.2:=fun p hp=>by
  by_cases hs:ab.keys.isEmpty=true;·simp only[kp,hs,if_true] at hp;simp at hp
  ·simp only[kp,hs] at hp;have hp:p∈nN st.h ab.m.deps:=by simpa using hp
   obtain⟨k,_,hk⟩:=List.mem_filterMap.1 hp;obtain⟨e,he,hpe⟩:=Option.map_eq_some_iff.1 hk;subst hpe;exact he
 have hkp:∀k,kp.foldl (fun h p=>Heap.set h p.1 p.2) st.h k=st.h k:=fun k=>by
  by_cases hm:k∈kp.map (·.1);·obtain⟨p,h3,rfl,h5⟩:=fu (h:=st.h) hm;rw[h5,kpm p h3]
  ·exact aU hm
 have hcase:∀k,k ∉ ab.bm->k ∉ aX d sp.r->(h2 k=st.h k/\k ∉ ab.keys)\/(k∈rk/\h2 k=some ⟨st.h.next k,0,.gone⟩) \/
   ∃e a t xs,sp.r.all.any CD.shares=true/\k∈ab.m.deps/\st.h k=some e/\e.box=.row a t xs/\h2 k=some ⟨e.ver,e.dver,.pub t xs⟩:=fun k hkb hkn'=>by
  have h0:h2 k=(iH st.h rk).foldl (fun h p=>Heap.set h p.1 p.2) (pubs.foldl (fun h p=>Heap.set h p.1 p.2) (kp.foldl (fun h p=>Heap.set h p.1 p.2) st.h)) k:=by
   show(kp++(pubs++(iH st.h rk++(M2.bs++M2.rs)))).foldl _ st.h k=_;rw[List.foldl_append,List.foldl_append,List.foldl_append];exact aU (by rw[U6,kb2,kr2,UK];exact fun h=>h.elim hkb hkn')
  by_cases hr:k∈rk;·right;left;refine⟨hr,?_⟩;have hm:k∈(iH st.h rk).map (·.1):=UR.2 ⟨(k,⟨st.h.next k,0,.gone⟩),UR.2 ⟨k,hr,rfl⟩,rfl⟩;obtain⟨p,h3,rfl,h5⟩:=fu (h:=pubs.foldl (fun h p=>Heap.set h p.1 p.2) (kp.foldl (fun h p=>Heap.set h p.1 p.2) st.h)) hm;rw[h0,h5];obtain⟨k',_,hp⟩:=UR.1 h3;subst hp;rfl
  ·have hm:k ∉ (iH st.h rk).map (·.1):=fun hm=>by
    obtain⟨p,h3,rfl⟩:=UR.1 hm;obtain⟨k',hk',hp⟩:=UR.1 h3;subst hp;exact hr hk'
   rw[h0,aU hm];by_cases hp:k∈pubs.map (·.1);·obtain⟨p,h3,rfl,h5⟩:=fu (h:=kp.foldl (fun h p=>Heap.set h p.1 p.2) st.h) hp;obtain⟨hs,h6,e,a,t,xs,h7,h8,h9⟩:=pubm p h3;exact .inr (.inr ⟨e,a,t,xs,hs,h6,h7,h8,by rw[h5,h9]⟩)
   ·refine .inl ⟨by rw[aU hp,hkp],fun hk=>?_⟩;rcases UK.1 hk with hk|hk
    ·exact hkb hk
    ·exact hr hk
 have hboxc:∀i k,ab.bm[i]?=some k->i<nb/\∃e l0 l,st.h k=some e/\e.dver=0/\e.box=.cells l0/\h2 k=some ⟨e.ver,0,.cells l⟩:=fun i k hi=>by
  have hlt:i<nb:=by have:=(UI.1 hi).1;omega
  obtain⟨l,hl⟩:=vg nm2 0 sp.r.boxes (aA (List.replicate sp.r.slots.length V.dead) sp.r.slots (mkL nm2 sp.r.all y sp.r.boxes.length).1).2 i hlt;have h3:=hnew _ (List.mem_append_left _ hl);rw[Nat.zero_add,nmB i k hi] at h3;simp only at h3;obtain⟨e,l0,h4,h5⟩:=hbm k (List.mem_of_getElem? hi);rw[h4] at h3;have h6:=UT.1 hb0 k (List.mem_of_getElem? hi);unfold qo at h6;rw[h4] at h6;exact⟨hlt,e,l0,l,h4,by simpa using h6,h5,h3⟩
 obtain⟨γn,hγ1,_⟩:=yR (fun j=>16*d+(nb+j)) (fun i j e=>by simp at e;omega) (fun j=>γr (nmJ (nb+j)).1) none nr
 let γ':Gam:=fun k=>if k∈aX d sp.r then γn k else γ k
 have newk:∀k,k∈aX d sp.r->∃j,j<nr/\k=16*d+(nb+j):=fun k hk=>by
  obtain⟨j,hj,rfl⟩:=UR.1 hk;exact⟨j,by simpa using hj,rfl⟩
 have knew:∀j,j<nr->16*d+(nb+j)∈aX d sp.r:=fun j hj=>UR.2 ⟨j,by simpa using hj,rfl⟩
 have hγnew:∀j,j<nr->γ' (16*d+(nb+j))=γr (nmJ (nb+j)).1:=fun j hj=>by
  simp only[γ',if_pos (knew j hj)];exact hγ1 j hj
 have hγold:∀k,k ∉ aX d sp.r->γ' k=γ k:=fun k hk=>by simp only[γ',if_neg hk]
 have hbn:∀k,k∈ab.bm->k ∉ aX d sp.r:=fun k h1 h2=>hnk' k h2 (bmk k h1)
 have entB:∀i,i<nb->∃l,(sp.r.mk' nmJ sp.r.slots.length y).h (nmJ i).1=some ⟨0,0,.cells l⟩:=fun i hi=>by
  obtain⟨l,hl⟩:=vg nmJ 0 sp.r.boxes (aA (List.replicate sp.r.slots.length V.dead) sp.r.slots (mkL nmJ sp.r.all y sp.r.boxes.length).1).2 i hi;rw[Nat.zero_add] at hl;exact⟨l,by rw[hr1];exact iB nd1 (List.mem_append_left _ hl)⟩
 have hγlent:∀i k,ab.bm[i]?=some k->γr (nmJ i).1=γ k:=fun i k hi=>by
  have hlt:i<nb:=(hboxc i k hi).1;obtain⟨e,he,hv⟩:=Ir.lent i (by show i<ab.bm.length;omega);obtain⟨l,hl⟩:=entB i hlt;rw[hl] at he;simp only[Uw] at he;subst he;rw[hv rfl];show(ab.bm[i]?).bind γ=_;rw[hi];rfl
 have shapeRow:∀(nm nm':Nm) (l:List CD) (x:TL l) (m m':Nat) (j:Nat) (p:Nat×En),(mkL nm l x m).2.1[j]?=some p->∃p',(mkL nm' l x m').2.1[j]?=some p'/\p'.2.box=p.2.box/\p.2.box.live:=by
  intro nm nm' l
  induction l with
  |nil=>intro x m m' j p hp;simp[mkL] at hp
  |cons c l ih=>
   intro x m m' j p hp;simp only[mkL] at hp⊢;cases c with
   |row e t=>
    cases j with
    |zero=>
     simp only[CD.mk,List.cons_append,UY,U0,Uw] at hp⊢;subst hp;exact⟨_,rfl,rfl,trivial⟩
    |succ j=>
     simp only[CD.mk,List.cons_append,UY,List.getElem?_cons_succ] at hp⊢;exact ih x.2 _ _ j p hp
   |_=>simp only[CD.mk,UY] at hp⊢;exact ih x.2 _ _ j p hp
 have liveR:∀j,j<nr->∃e,(sp.r.mk' nmJ sp.r.slots.length y).h (nmJ (nb+j)).1=some e/\e.box.live:=fun j hj=>by
  have hlen:M1.rs.length=nr:=by have:=congrArg List.length kr1;simpa using this
  have h3:M1.rs[j]?=some M1.rs[j]:=by simp
  have h4:=congrArg (fun l=>l[j]?) kr1;simp only[Vo,h3,Vh,List.getElem?_range hj] at h4;simp only[Uw] at h4;obtain⟨p',_,_,h5⟩:=shapeRow nmJ nmJ sp.r.all y sp.r.boxes.length sp.r.boxes.length j _ h3;exact⟨_,by rw[hr1,<- h4];exact iB nd1 (List.mem_append_right _ (List.mem_of_getElem? h3)),h5⟩
 have newblk:∀j g c,j<nr->γr (nmJ (nb+j)).1=some (g,c)->w.heap.size<=g\/∃k e c',k∈rk/\st.h k=some e/\e.box.live/\γ k=some (g,c'):=fun j g c hj hγ=>by
  obtain⟨e,h3,h4⟩:=liveR j hj;rcases Ir.own _ e g c h3 h4 hγ with h5|⟨k,e',c',hk,h6,h7,h8⟩;·exact .inl h5
  ·rcases UK.1 hk with hk|hk
   ·obtain⟨i,hi⟩:=List.mem_iff_getElem?.1 hk;have h9:=hγlent i k hi;obtain⟨l,hl⟩:=entB i (hboxc i k hi).1;have:=Ir.inj _ _ _ _ g c' c hl trivial h3 h4 (h9.trans h8) hγ;have hlt:=(hboxc i k hi).1;simp only[nmJ] at this;omega
   ·exact .inr ⟨k,e',c',hk,h6,h7,h8⟩
 have verR:∀p,p∈M2.rs->p.2.ver=st.h.next p.1:=fun p hp=>by
  have gen:∀(l:List CD) (x:TL l) (m:Nat) (p:Nat×En),nb<=m->p∈(mkL nm2 l x m).2.1->p.2.ver=st.h.next p.1:=by
   intro l
   induction l with
   |nil=>intro x m p _ hp;simp[mkL] at hp
   |cons c l ih=>
    intro x m p hm hp;simp only[mkL,UK] at hp;have hm':nb<=(c.mk nm2 x.1 m).2.2:=by cases c<;>simp[CD.mk]<;>omega
    rcases hp with hp|hp;·cases c<;>simp[CD.mk] at hp;subst hp;have:=nmR (m-nb);rw[show nb+(m-nb)=m by omega] at this;rw[this]
    ·exact ih _ _ p hm' hp
  exact gen _ _ _ p (Uz _) hp
 have ownFrame:∀g,g<w.heap.size->(∀k e c,k∈ab.keys->st.h k=some e->e.box.live->γ k≠some (g,c))->w'.heap[g]?=w.heap[g]?:=fun g hg hno=>
  Ir.frame g hg (by
   simp only[callee,not_or,not_exists];exact⟨by omega,fun k e c ⟨hk,h3,h4,h5⟩=>hno k e c hk h3 h4 h5⟩)
 have liveOld:∀k e g c,k ∉ aX d sp.r->h2 k=some e->e.box.live->γ' k=some (g,c)->∃e0,st.h k=some e0/\e0.box.live/\γ k=some (g,c)/\(k∈ab.bm\/(k ∉ ab.keys/\e=e0)):=fun k e g c hm hk hl hγ=>by
  rw[hγold k hm] at hγ;by_cases hb:k∈ab.bm;·obtain⟨i,hi⟩:=List.mem_iff_getElem?.1 hb;obtain⟨_,e0,l0,l,h4,_,h6,_⟩:=hboxc i k hi;exact⟨e0,h4,by rw[h6];trivial,hγ,.inl hb⟩
  ·rcases hcase k hb hm with⟨h3,h4⟩|⟨_,h4⟩|⟨e0,a0,t,xs,hs,hdp,h4,h5,h6⟩
   ·exact⟨e,by rw[<- h3];exact hk,hl,hγ,.inr ⟨h4,rfl⟩⟩
   ·rw[hk] at h4;simp only[Uw] at h4;subst h4;exact hl.elim
   ·rw[hk] at h6;simp only[Uw] at h6;subst h6;exact hl.elim
 have T:cK C γ st.h w C γ' h2 w':=by
  refine⟨Ir.size,fun k e hk=>?_,fun g hg H=>?_,fun k e' c g hk hl hγ hg=>?_,fun _ _ h=>h,fun _ h=>h⟩
  ·by_cases hm:k∈aX d sp.r
   ·have hm':=hm;rw[<- kr2] at hm';obtain⟨p,hp,rfl⟩:=UR.1 hm';refine⟨p.2,hnew p (List.mem_append_right _ hp),.inl ?_⟩;rw[verR p hp];exact lF hk
   ·by_cases hb:k∈ab.bm
    ·obtain⟨i,hi⟩:=List.mem_iff_getElem?.1 hb;obtain⟨_,e0,l0,l,h4,h5,h6,h7⟩:=hboxc i k hi;rw[hk] at h4;simp only[Uw] at h4;subst h4;exact⟨_,h7,.inr ⟨rfl,hγold k hm,by unfold Alike;rw[h6];exact h5.symm⟩⟩
    ·rcases hcase k hb hm with⟨h3,_⟩|⟨_,h4⟩|⟨e0,a0,t,xs,hs,hdp,h4,h5,h6⟩
     ·exact⟨e,by rw[h3];exact hk,.inr ⟨rfl,hγold k hm,Alike.refl e⟩⟩
     ·exact⟨_,h4,.inl (lF hk)⟩
     ·rw[hk] at h4;simp only[Uw] at h4;subst h4;exact⟨_,h6,.inr ⟨rfl,hγold k hm,by unfold Alike;rw[h5];exact⟨⟨rfl,rfl⟩,rfl⟩⟩⟩
  ·refine ownFrame g hg fun k e c hk h3 h4 h5=>?_
   obtain⟨h6,e',h7,h8,_⟩:=H k e c h3 h4 h5;have hm:k ∉ aX d sp.r:=fun hm=>hnk' k hm hk
   by_cases hb:k∈ab.bm;·obtain⟨i,hi⟩:=List.mem_iff_getElem?.1 hb;obtain⟨_,e0,l0,l,h9,_,h10,_⟩:=hboxc i k hi;rw[h3] at h9;simp only[Uw] at h9;subst h9;rw[h10] at h6;exact h6
   ·rcases hcase k hb hm with⟨_,h9⟩|⟨_,h9⟩|⟨e0,a0,t,xs,hs,hdp,h9,_⟩
    ·exact h9 hk
    ·rw[h7] at h9;simp only[Uw] at h9;subst h9;have:=lF h3;simp only at h8;omega
    ·exact hdk k hdp hk
  ·by_cases hm:k∈aX d sp.r
   ·obtain⟨j,hj,rfl⟩:=newk k hm;rw[hγnew j hj] at hγ;rcases newblk j g c hj hγ with h3|⟨k0,e0,c0,h3,h4,h5,h6⟩
    ·omega
    ·refine⟨k0,e0,c0,h4,h5,h6,.inr ?_⟩;have hm0:k0 ∉ aX d sp.r:=fun hm0=>hnk' k0 hm0 (rkk k0 h3)
     have hb0':k0 ∉ ab.bm:=fun hb=>hbrk k0 hb h3
     rcases hcase k0 hb0' hm0 with⟨_,h9⟩|⟨_,h9⟩|⟨_,_,_,_,_,hdp,_⟩;·exact absurd (rkk k0 h3) h9
     ·exact⟨_,h9,lF h4⟩
     ·exact absurd (rkk k0 h3) (hdk k0 hdp)
   ·obtain⟨e0,h3,h4,h5,_⟩:=liveOld k e' g c hm hk hl hγ;exact⟨k,e0,c,h3,h4,h5,.inl rfl⟩
 have tr:sp.r.all.any CD.shares=true->∀g,okb (callee C γ st.h w ab.bm ab.keys ab.m.deps) γr (sp.r.mk' nmJ sp.r.slots.length y).h none g->g<w'.heap.size->okb C γ' h2 none g:=by
  intro hs g ho _;have nob:¬ ∃k e c l,k∈ab.m.deps/\st.h k=some e/\e.box=.cells l/\γ k=some (g,c):=fun⟨k,e,c,l,h3,h4,h5,_⟩=>by
   rw[hs,Bool.not_true,Bool.false_or] at hnb0;have:=UT.1 hnb0 k h3;obtain⟨v0,d0,b0⟩:=e;simp only at h5;subst h5;simp only[oP,h4] at this;cases this
  have hrd:C.rd g:=by
   rcases ho.1 with h3|⟨k,e,c,hk,h3,h4,h5⟩|⟨dd,h3,_⟩|h3;·exact I.rd g (I.new g (UW I.size h3))
   ·exact I.rd g (I.own k e g c h3 h4 h5)
   ·exact h3.1
   ·exact absurd h3 nob
  refine⟨hrd,fun k e' c hk hl hγ=>?_⟩;by_cases hm:k∈aX d sp.r;·obtain⟨j,hj,rfl⟩:=newk k hm;rw[hγnew j hj] at hγ;obtain⟨e,h3,h4⟩:=liveR j hj;have:=(ho.2 _ e c h3 h4 hγ).1;simp at this
  ·obtain⟨e0,h3,h4,h5,h6⟩:=liveOld k e' g c hm hk hl hγ;rcases h6 with hb|⟨hnk0,rfl⟩
   ·obtain⟨i,hi⟩:=List.mem_iff_getElem?.1 hb;obtain⟨l,hl'⟩:=entB i (hboxc i k hi).1;have:=(ho.2 _ _ c hl' trivial ((hγlent i k hi).trans h5)).1;simp at this
   ·have hlt:=jh I h3 hl h5;rcases ho.1 with h7|⟨k',e1,c',hk',h7,h8,h9⟩|⟨dd,h7,h8⟩|h7
    rotate_left 3
    ·exact absurd h7 nob
    ·omega
    ·have:=I.inj k k' e' e1 g c c' h3 h4 h7 h8 h5 h9;subst this;exact absurd hk' hnk0
    ·obtain⟨h9,h10⟩:=h7.2 k e' c h3 hl h5;have hkd:=h8 _ h9;simp only at hkd;cases hb:e'.box with
     |row a0 t xs=>
      exfalso;have hpub:=zA (h:=st.h) hkd h3 hb;have hbk:k ∉ ab.bm:=fun h=>hnk0 (bmk k h)
      rcases hcase k hbk hm with⟨h11,_⟩|⟨h11,_⟩|⟨_,_,_,_,_,_,_,_,h14⟩
      ·have hpm:k∈pubs.map (·.1):=by simp only[pubs,hs,if_true];exact hpub
       have h0:h2 k=pubs.foldl (fun h p=>Heap.set h p.1 p.2) (kp.foldl (fun h p=>Heap.set h p.1 p.2) st.h) k:=by
        show(kp++(pubs++(iH st.h rk++(M2.bs++M2.rs)))).foldl _ st.h k=_;rw[List.foldl_append,List.foldl_append,List.foldl_append];rw[aU (by rw[U6,kb2,kr2,UK];exact fun h=>h.elim hbk hm)];refine aU fun hm'=>?_
        obtain⟨p,h12,rfl⟩:=UR.1 hm';obtain⟨k'',hk'',hp⟩:=UR.1 h12;subst hp;exact hnk0 (rkk _ hk'')
       obtain⟨p,h12,rfl,h13⟩:=fu (h:=kp.foldl (fun h p=>Heap.set h p.1 p.2) st.h) hpm;obtain⟨_,_,e2,a2,t2,xs2,_,_,h15⟩:=pubm p h12;rw[h13,hk] at h0;simp only[Uw] at h0;rw[h0,h15] at hl;exact hl.elim
      ·exact hnk0 (rkk k h11)
      ·rw[hk] at h14;simp only[Uw] at h14;rw[h14] at hl;exact hl.elim
     |_=>rw[hb] at h10;exact h10.elim
 let S:=(sp.r.slots.flatMap fun p=>p.2.cds).length
 have hlenA:(mkL nmJ sp.r.all y sp.r.boxes.length).1.length=S+(sp.r.boxes.flatMap (·.2)).length:=by
  rw[(dP nmJ sp.r.all y sp.r.boxes.length).2.2];unfold Shape.all;rw[UD]
 have hnds:(sp.r.slots.map (·.1)).Nodup:=by rw[hidx];exact List.nodup_range
 have hlt:∀i,i∈sp.r.slots.map (·.1)->i<(List.replicate sp.r.slots.length V.dead).length:=fun i hi=>by
  rw[hidx] at hi;simpa using hi
 obtain⟨hcS,hok,hrest⟩:=gX (cs:=(mkL nmJ sp.r.all y sp.r.boxes.length).1) hnds hlt (by omega) Rr.slot;have hbs1:M1.bs=aW nmJ 0 sp.r.boxes ((mkL nmJ sp.r.all y sp.r.boxes.length).1.drop S):=by
  show aW nmJ 0 sp.r.boxes (aA _ _ _).2=_;rw[hrest]
 obtain⟨more,hmore,hcB⟩:=tO Ir (nm:=nmJ) (bl:=sp.r.boxes) (i:=0) (cs:=(mkL nmJ sp.r.all y sp.r.boxes.length).1.drop S) (by rw[U5];omega) (fun p hp=>by
  rw[hr1];exact iB nd1 (List.mem_append_left _ (by rw[hbs1];exact hp)))
 have hcR:ai (av (callee C γ st.h w ab.bm ab.keys ab.m.deps) γr (sp.r.mk' nmJ sp.r.slots.length y).h w') (mkL nmJ sp.r.all y sp.r.boxes.length).1 (bg rs sp.r.slots++more.flatten):=by
  have:=hcS.append hcB
  rwa [List.take_append_drop] at this
 obtain⟨hcN,hbN⟩:=G6 (nm':=nm2) (γ':=γ') (h':=h2) (C':=C) (m':=sp.r.boxes.length) hcR tr (fun p hp=>by rw[hr1];exact iB nd1 (List.mem_append_right _ hp)) (fun p hp=>hnew p (List.mem_append_right _ hp))
  (fun j hj=>by
   rw[nmR j];exact hγnew j hj)
  (fun i c hm hcb=>by
   have:=CD.ptrB_lt hcb (UT.1 hptr _ hm);have hi:ab.bm[i]?=some ab.bm[i]:=by simp[this]
   obtain⟨h3,e,l0,l,h4,_,_,h7⟩:=hboxc i _ hi;obtain⟨l',hl'⟩:=entB i h3;refine⟨⟨_,l',hl',rfl,rfl⟩,⟨⟨e.ver,0,.cells l⟩,l,?_,?_,rfl⟩,?_⟩;·rw[nmB i _ hi];exact h7
   ·rw[nmB i _ hi];simp only[h4]
   ·rw[nmB i _ hi,hγold _ (hbn _ (List.mem_of_getElem? hi))];exact(hγlent i _ hi).symm)
  (fun p hp=>Ir.box p.1 p.2 (by rw[hr1];exact iB nd1 (List.mem_append_right _ hp)))
 obtain⟨hs1,hs2,hs3⟩:=bQ (C:=C) (γ:=γ') (h:=h2) (w:=w') (vals:=rs) (sl:=sp.r.slots) (l:=List.replicate sp.r.slots.length V.dead) (rest:=more.flatten) hok (fun i v hi=>by
   rw[List.getElem?_replicate] at hi;split at hi;·simp only[Uw] at hi;subst hi;trivial
   ·cases hi) hcN
 have hboxN:∀p,p∈M2.bs->dJ C γ' h2 w' p.1 p.2.box:=og (C':=C) (γ':=γ') (h':=h2) (nm:=nm2) (i:=0) (rest:=[]) hmore (fun j k hj=>by
   simp only[Vo,Option.map_eq_some_iff] at hj;obtain⟨j',hj',rfl⟩:=hj;have hjl:j<nb:=by have:=(UI.1 hj').1;simpa using this
   rw[List.getElem?_range hjl] at hj';simp only[Uw] at hj';subst hj';have hi:ab.bm[j]?=some ab.bm[j]:=by simp[show j<ab.bm.length by omega]
   rw[Nat.zero_add,nmB j _ hi,hγold _ (hbn _ (List.mem_of_getElem? hi))];exact(hγlent j _ hi).symm) (by rw[UU];exact hs3)
 have hrs:rs.size=M2.s.length:=by
  rw[Rr.size];show(aA _ _ _).1.length=(aA _ _ _).1.length;rw[cz,cz]
 have hres:bv C γ' h2 w' (O3 M2.s) (if h:rs.size=1 then rs[0] else .tuple rs):=by
  refine O4 hrs hs2 fun v hv=>?_
  obtain⟨i,hi,rfl⟩:=List.getElem_of_mem hv;have hil:i<sp.r.slots.length:=by have:M2.s.length=_:=hs1;rw[Vm] at this;omega
  obtain⟨x,hx⟩:=sw (sl:=sp.r.slots) (l:=List.replicate sp.r.slots.length V.dead) (cs:=(mkL nm2 sp.r.all y sp.r.boxes.length).1) (i:=i) (fun p hp=>UT.1 hisv p hp) (by rw[hidx];simpa using hil) (by simpa using hil);have:M2.s[i]?=some (.v x):=hx;rw[UF hi] at this;simp only[Uw] at this;exact⟨x,this⟩
 have S':Step C w w':=⟨Ir.size,fun g hg hno=>ownFrame g hg fun k e c _ h3 h4 h5=>hno (I.own k e g c h3 h4 h5),Ir.os,Ir.tape,Ir.output⟩
 have keepBlk:∀k e g c,k ∉ ab.keys->st.h k=some e->e.box.live->γ k=some (g,c)->w'.heap[g]?=w.heap[g]?:=fun k e g c hk h3 h4 h5=>
  ownFrame g (jh I h3 h4 h5) fun k' e' c' hk' h6 h7 h8=>by
   have:=I.inj k k' e e' g c c' h3 h4 h6 h7 h5 h8;subst this;exact hk hk'
 have I':Inv C γ' h2 w':=by
  refine I.step S' T (fun k e hk=>?_) (fun k k' e e' g c c' hk hl hk' hl' h1 h1'=>?_) (fun k e g c hk hl h1=>?_)
  ·by_cases hm:k∈aX d sp.r
   ·have hm':=hm;rw[<- kr2] at hm';obtain⟨p,hp,rfl⟩:=UR.1 hm';have:=hnew p (List.mem_append_right _ hp);rw[hk] at this;simp only[Uw] at this;subst this;exact hbN p hp
   ·by_cases hb:k∈ab.bm
    ·have hb':=hb;rw[<- kb2] at hb';obtain⟨p,hp,rfl⟩:=UR.1 hb';have:=hnew p (List.mem_append_left _ hp);rw[hk] at this;simp only[Uw] at this;subst this;exact hboxN p hp
    ·rcases hcase k hb hm with⟨h3,hnk0⟩|⟨_,h4⟩|⟨e0,a0,t,xs,hs,hdp,h4,h5,h6⟩
     ·rw[h3] at hk;exact dJ.step T (I.box k e hk) (hγold k hm) fun hl g c hγ=>keepBlk k e g c hnk0 hk hl hγ
     ·rw[hk] at h4;simp only[Uw] at h4;subst h4;trivial
     ·rw[hk] at h6;simp only[Uw] at h6;subst h6;have hrow:∀v,d9 (γ k) xs.length v->Rd w' (okb C γ' h2 none) (.sl t) xs [v]:=fun v hv=>by
       obtain⟨A,c,hv',hle,hx⟩:=I.row h4 h5 (Uz _) hv;rw[List.take_length] at hv' hle hx;refine RdS.iff.1 ⟨A,c,hv',hle,fun i x hi=>?_⟩;obtain⟨g,o,ds,hA,ho,hg,hrd,hcell⟩:=hx i x hi;have hfr:w'.heap[g]?=w.heap[g]?:=ownFrame g hg fun k' e' c' hk' h6 h7 h8=>by
        obtain⟨h9,_⟩:=ho.2 k' e' c' h6 h7 h8;simp only[Uw,UC] at h9;obtain⟨rfl,_,_⟩:=h9;exact hdk _ hdp hk'
       refine⟨g,o,ds,hA,⟨ho.1,fun k' e' c' hk' hl' hγ'=>?_⟩,Vd hg Ir.size,hrd.mono T.sz fun g ho hg=>T.okb (d:=none) trivial ho hg,fun j u hj=>(World.cell?_of_block hfr).trans (hcell j u hj)⟩;by_cases hm':k'∈aX d sp.r
       ·obtain⟨j,hj,rfl⟩:=newk k' hm';rw[hγnew j hj] at hγ';rcases newblk j g c' hj hγ' with h7|⟨k0,e1,c1,h7,h8,h9,h10⟩
        ·omega
        ·obtain⟨h11,_⟩:=ho.2 k0 e1 c1 h8 h9 h10;simp only[Uw,UC] at h11;obtain⟨rfl,_,_⟩:=h11;exact absurd (rkk _ h7) (hdk _ hdp)
       ·obtain⟨e1,h7,h8,h9,_⟩:=liveOld k' e' g c' hm' hk' hl' hγ';obtain⟨h11,_⟩:=ho.2 k' e1 c' h7 h8 h9;simp only[Uw,UC] at h11;obtain⟨rfl,_,_⟩:=h11;rw[hk] at hk';simp only[Uw] at hk';subst hk';exact hl'.elim
      show ∃v,_;rw[hγold k hm];have hbx:=I.box k e0 h4;rw[h5] at hbx;rcases hbx with⟨h0,hx⟩|⟨g,c,cur,hγ,_⟩
      ·have hv:d9 (γ k) xs.length (.slice none 0 0):=by rw[h0];exact⟨by rw[hx];rfl,rfl⟩
       exact⟨_,hv,hrow _ hv⟩
      ·have hv:d9 (γ k) xs.length (.slice (some ⟨g,0,none⟩) xs.length c):=by rw[hγ];rfl
       exact⟨_,hv,hrow _ hv⟩
  ·
   have cross:∀j g c k e c',j<nr->γr (nmJ (nb+j)).1=some (g,c)->k ∉ aX d sp.r->h2 k=some e->e.box.live->γ' k=some (g,c')->False:=fun j g c k e c' hj hγj hm hk hl hγk=>by
    obtain⟨e0,h3,h4,h5,h6⟩:=liveOld k e g c' hm hk hl hγk;rcases h6 with hb|⟨hnk0,rfl⟩;·obtain⟨i,hi⟩:=List.mem_iff_getElem?.1 hb;obtain⟨l,hl'⟩:=entB i (hboxc i k hi).1;obtain⟨e1,h7,h8⟩:=liveR j hj;have:=Ir.inj _ _ _ _ g c' c hl' trivial h7 h8 ((hγlent i k hi).trans h5) hγj;have hlt:=(hboxc i k hi).1;simp only[nmJ] at this;omega
    ·rcases newblk j g c hj hγj with h7|⟨k0,e1,c1,h7,h8,h9,h10⟩
     ·have:=jh I h3 h4 h5;omega
     ·have:=I.inj k k0 _ e1 g c' c1 h3 h4 h8 h9 h5 h10;subst this;exact hnk0 (rkk k h7)
   by_cases hm:k∈aX d sp.r<;>by_cases hm':k'∈aX d sp.r
   ·obtain⟨j,hj,rfl⟩:=newk k hm;obtain⟨j',hj',rfl⟩:=newk k' hm';rw[hγnew j hj] at h1;rw[hγnew j' hj'] at h1';obtain⟨e1,h3,h4⟩:=liveR j hj;obtain⟨e2,h5,h6⟩:=liveR j' hj';have:=Ir.inj _ _ e1 e2 g c c' h3 h4 h5 h6 h1 h1';simp only[nmJ] at this;omega
   ·obtain⟨j,hj,rfl⟩:=newk k hm;rw[hγnew j hj] at h1;exact(cross j g c k' e' c' hj h1 hm' hk' hl' h1').elim
   ·obtain⟨j,hj,rfl⟩:=newk k' hm';rw[hγnew j hj] at h1';exact(cross j g c' k e c hj h1' hm hk hl h1).elim
   ·obtain⟨e1,h3,h4,h5,_⟩:=liveOld k e g c hm hk hl h1;obtain⟨e2,h6,h7,h8,_⟩:=liveOld k' e' g c' hm' hk' hl' h1';exact I.inj k k' e1 e2 g c c' h3 h4 h6 h7 h5 h8
  ·by_cases hm:k∈aX d sp.r
   ·obtain⟨j,hj,rfl⟩:=newk k hm;rw[hγnew j hj] at h1;rcases newblk j g c hj h1 with h3|⟨k0,e0,c0,h3,h4,h5,h6⟩
    ·exact I.new g (UW I.size h3)
    ·exact I.own k0 e0 g c0 h4 h5 h6
   ·obtain⟨e0,h3,h4,h5,_⟩:=liveOld k e g c hm hk hl h1;exact I.own k e0 g c h3 h4 h5
 exact⟨γ',Rel.app R' T I' hres⟩
end
end Rv
namespace Rv
open Go
section
variable{P:Program}{C:Ctx}{γ:Gam}{h:Heap}{w:World}{R:Type}{r:R}
theorem Ro{st:St}{tmps:Array Value}(R':Rel C γ w st tmps){k:Nat}{e:En}{a:TypeId}{t:Ty}{xs:List t.D}(hk:st.h k=some e)(hb:e.box=.row a t xs) :
  Rel C γ w ⟨st.s,st.h.set k ⟨e.ver,e.dver,.pub t xs⟩⟩ tmps:=by
 have I:=R'.inv;have live:e.box.live:=by rw[hb];trivial
 have old:∀k' e',(st.h.set k ⟨e.ver,e.dver,.pub t xs⟩) k'=some e'->e'.box.live->st.h k'=some e'/\k'≠k:=fun k' e' hk' hl=>by
  by_cases hkk:k'=k;·subst hkk;rw[bO] at hk';obtain rfl:=Ux hk';exact hl.elim
  ·rw[bn _ _ hkk] at hk';exact⟨hk',hkk⟩
 have T:cK C γ st.h w C γ (st.h.set k ⟨e.ver,e.dver,.pub t xs⟩) w:=by
  refine⟨Uz _,fun k' e' hk'=>?_,fun g hg _=>rfl,fun k' e' c g hk' hl hg _=>?_,fun _ _ hh=>hh,fun _ hh=>hh⟩
  ·by_cases hkk:k'=k
   ·subst hkk;rw[hk] at hk';obtain rfl:=Ux hk';refine⟨_,bO _ _ _,.inr ⟨rfl,rfl,?_⟩⟩;unfold Alike;rw[hb];exact⟨⟨rfl,rfl⟩,rfl⟩
   ·exact⟨e',by rw[bn _ _ hkk];exact hk',.inr ⟨rfl,rfl,Alike.refl _⟩⟩
  ·exact⟨k',e',c,(old k' e' hk' hl).1,hl,hg,.inl rfl⟩
 refine R'.step T ⟨fun k' e' hk'=>?_,fun k1 k2 e1 e2 g c c' h1 l1 h2 l2=>?_,fun k' e' g c hk' hl=>?_,I.frame,I.size,I.os,I.tape,I.output,I.new,I.rd,I.laid,I.stable,T.lent I.lent⟩
 ·by_cases hkk:k'=k
  ·subst hkk;rw[bO] at hk';obtain rfl:=Ux hk';have hbx:=I.box k' e hk;rw[hb] at hbx;rcases hbx with⟨h0,hx⟩|⟨g,c,cur,hγ,hbl,hc,hcm,hcs,hsz,hr⟩
   ·subst hx;exact⟨.slice none 0 0,by rw[h0];exact⟨rfl,rfl⟩,none,0,rfl,Uz _,fun i x hx=>by simp at hx⟩
   ·refine⟨.slice (some ⟨g,0,none⟩) xs.length c,by rw[hγ];rfl,some ⟨g,0,none⟩,c,rfl,hc,fun i x hx=>?_⟩;have hgs:g<w.heap.size:=(Array.getElem?_eq_some_iff.1 hbl).1;refine⟨g,0,_,rfl,⟨I.rd g (I.own k' e g c hk live hγ),fun k2 e2 c2 hk2 hl2 hγ2=>?_⟩,hgs,(hr i x hx).mono (Uz _) fun g ho hg=>T.okb (d:=none) trivial ho hg,fun j u hj=>?_⟩
    ·obtain⟨h2,hne⟩:=old k2 e2 hk2 hl2;exact absurd (I.inj k' k2 e e2 g c c2 hk live h2 hl2 hγ hγ2).symm hne
    ·rw[cell_of_row w g _ cur a (0,0) hbl];rw[UZ] at hj;split at hj
     ·rw[Va] at hj;simpa using hj
     ·cases hj
  ·rw[bn _ _ hkk] at hk';exact dJ.step T (I.box k' e' hk') rfl fun _ _ _ _=>rfl
 ·exact I.inj k1 k2 e1 e2 g c c' (old k1 e1 h1 l1).1 l1 (old k2 e2 h2 l2).1 l2
 ·exact I.own k' e' g c (old k' e' hk' hl).1 hl
theorem Mj{h:Heap}{k:Nat}{e:En}(hk:h k=some e):h.set k e=h:=by
 funext j;by_cases hj:j=k;·subst hj;rw[bO,hk]
 ·rw[bn _ _ hj]
theorem yh{tmps:Array Value}:∀{l:List (Nat×En)}{st:St},Rel C γ w st tmps ->
  (∀p,p∈l->(∃e a t xs,st.h p.1=some e/\e.box=.row a t xs/\p.2=⟨e.ver,e.dver,.pub t xs⟩)\/(st.h p.1=some p.2/\∃t xs,p.2.box=.pub t xs))->Rel C γ w ⟨st.s,iK st.h l⟩ tmps
 |[],st,R',_=>R'
 |p::l,st,R',hl=>by
  show Rel C γ w ⟨st.s,iK (st.h.set p.1 p.2) l⟩ tmps;rcases hl p (by simp) with⟨e,a,t,xs,h1,h2,h3⟩|⟨h1,_⟩
  ·refine yh (st:=⟨st.s,st.h.set p.1 p.2⟩) (by rw[h3];exact Ro R' h1 h2) fun q hq=>?_
   by_cases hqp:q.1=p.1
   ·rcases hl q (by simp[hq]) with⟨e',a',t',xs',h4,h5,h6⟩|⟨h4,t',xs',h5⟩
    ·rw[hqp,h1] at h4;obtain rfl:=Ux h4;have hqe:q.2=p.2:=by
      rw[h2] at h5;obtain⟨rfl,rfl,h7⟩:=Box.row.inj h5;obtain rfl:=eq_of_heq h7;rw[h3,h6]
     refine .inr ⟨?_,t',xs',by rw[h6]⟩;show(st.h.set p.1 p.2) q.1=some q.2;rw[hqp,bO,hqe]
    ·rw[hqp,h1] at h4;obtain rfl:=Ux h4;rw[h2] at h5;cases h5
   ·rcases hl q (by simp[hq]) with⟨e',a',t',xs',h4,h5,h6⟩|⟨h4,h5⟩
    ·exact .inl ⟨e',a',t',xs',by show(st.h.set p.1 p.2) q.1=_;rw[bn _ _ hqp];exact h4,h5,h6⟩
    ·exact .inr ⟨by show(st.h.set p.1 p.2) q.1=_;rw[bn _ _ hqp];exact h4,h5⟩
  ·rw[Mj h1];exact yh R' fun q hq=>hl q (by simp[hq])
theorem wD{st:St}{tmps:Array Value}(R':Rel C γ w st tmps)(ks:List Nat):Rel C γ w (dm st ks) tmps:=
 yh R' fun p hp=>by
  obtain⟨_,e,a,t,xs,h1,h2,h3⟩:=mW hp;exact .inl ⟨e,a,t,xs,h1,h2,h3⟩
theorem xh:∀{l:List (Nat×En)}{h:Heap}{k:Nat},k∈l.map (·.1)->∃p,p∈l/\p.1=k/\iK h l k=some p.2:=fun hk=>fu hk
theorem JN{l:List (Nat×En)}{h:Heap}{k:Nat}(hk:k ∉ l.map (·.1)):iK h l k=h k:=aU hk
theorem zy{st:St}{ks:List Nat}(k:Nat):(dm st ks).h k=st.h k\/∃e a t xs,st.h k=some e/\e.box=.row a t xs/\(dm st ks).h k=some ⟨e.ver,e.dver,.pub t xs⟩:=by
 by_cases hm:k∈(cu st.h ks).map (·.1);·obtain⟨p,h1,rfl,h2⟩:=xh (h:=st.h) hm;obtain⟨_,e,a,t,xs,h3,h4,h5⟩:=mW h1;exact .inr ⟨e,a,t,xs,h3,h4,by rw[<- h5];exact h2⟩
 ·exact .inl (JN hm)
theorem OV(st:St)(ks:List Nat)(k:Nat):(dm st ks).h.next k=st.h.next k:=by
 unfold Heap.next
 rcases zy (st:=st) (ks:=ks) k with h|⟨e,a,t,xs,h1,h2,h3⟩;·rw[h]
 ·rw[h1,h3]
theorem AL{st:St}{ks:List Nat}{k v:Nat}{t:Ty}{xs:List t.D}(hk:k∈ks)(ha:(∃a,st.h.at k v=some (.row a t xs))\/st.h.at k v=some (.pub t xs)):∃e,(dm st ks).h k=some e/\e.ver=v/\e.box=.pub t xs:=by
 rcases ha with⟨a,ha⟩|ha;·obtain⟨e,h1,h2,h3⟩:=aK ha;obtain⟨p,h4,rfl,h5⟩:=xh (h:=st.h) (zA hk h1 h3);obtain⟨_,e',a',t',xs',h6,h7,h8⟩:=mW h4;rw[h1] at h6;obtain rfl:=Ux h6;rw[h3] at h7;obtain⟨rfl,rfl,h9⟩:=Box.row.inj h7;obtain rfl:=eq_of_heq h9;exact⟨_,h5,by rw[h8];exact h2,by rw[h8]⟩
 ·obtain⟨e,h1,h2,h3⟩:=aK ha;rcases zy (st:=st) (ks:=ks) k with h|⟨e',a',t',xs',h4,h5,h6⟩
  ·exact⟨e,by rw[h];exact h1,h2,h3⟩
  ·rw[h1] at h4;obtain rfl:=Ux h4;rw[h3] at h5;cases h5
theorem xc{st:St}{tmps:Array Value}{ks:List Nat}(R1:Rel C γ w (dm st ks) tmps){c:Cell}(hc:∀k,k∈c.ownK->k∈ks){v:Value}(hv:av C γ (dm st ks).h w c v):av C γ (dm st ks).h w (gW st.h c) v:=by
 have own:∀{k kv:Nat}{t:Ty}{xs:List t.D},k∈ks->((∃a,st.h.at k kv=some (.row a t xs))\/st.h.at k kv=some (.pub t xs))->∀m,m<=xs.length->v.oneCell'=true ->
   (∀e,(dm st ks).h k=some e->e.ver=kv->∀n,e.box.len=some n->d9 (γ k) m v)->av C γ (dm st ks).h w (.sl none t (xs.take m)) v:=fun {k kv t xs} hk ha m hm h1 hO=>by
  obtain⟨e,h2,h3,h4⟩:=AL hk ha;have hbx:=R1.inv.box k e h2;rw[h4] at hbx;obtain⟨u,hu,A,c,hA,hle,hx⟩:=hbx;have ho:=hO e h2 h3 xs.length (by rw[h4];rfl);simp only[List.cons.injEq,and_true] at hA;refine⟨h1,?_⟩;cases hγ:γ k with
  |none=>
   rw[hγ] at ho;obtain⟨rfl,rfl⟩:=ho;exact⟨none,0,by simp,by simp,fun i x e=>by simp at e⟩
  |some p=>
   obtain⟨g,cc⟩:=p;rw[hγ] at ho hu;rw[show u=_ from hu] at hA;simp only[Value.slice.injEq,true_and] at hA;obtain⟨rfl,rfl⟩:=hA;refine⟨some ⟨g,0,none⟩,cc,?_,by simp;omega,fun i x e=>?_⟩
   ·rw[show v=_ from ho];simp;omega
   ·rw[UZ] at e;split at e
    ·exact hx i x e
    ·cases e
 cases c with
 |own k kv=>
  have hk:=hc k (by simp[Cell.ownK]);have fin:∀{t:Ty}{xs:List t.D},((∃a,st.h.at k kv=some (.row a t xs))\/st.h.at k kv=some (.pub t xs))->av C γ (dm st ks).h w (.sl none t xs) v:=fun {t xs} ha=>by
   have:=own hk ha xs.length (Uz _) hv.1 fun e h2 h3 n hn=>by
    obtain⟨e',h4,h5,h6⟩:=AL hk ha;rw[h2] at h4;obtain rfl:=Ux h4;have:=hv.2.get h2 h3 n hn;rw[h6] at hn;simp only[Box.len,Uw] at hn;rw[hn];exact this
   rwa [List.take_length] at this
  simp only[gW];split;·rename_i ha;exact fin (.inl ⟨_,ha⟩)
  ·rename_i ha;exact fin (.inr ha)
  ·exact hv
 |ownP k kv n=>
  have hk:=hc k (by simp[Cell.ownK]);have fin:∀{t:Ty}{xs:List t.D},((∃a,st.h.at k kv=some (.row a t xs))\/st.h.at k kv=some (.pub t xs))->av C γ (dm st ks).h w (.sl none t (xs.take n)) v:=fun {t xs} ha=>by
   obtain⟨e',h4,h5,h6⟩:=AL hk ha;have hn:=(hv.2.get h4 h5 xs.length (by rw[h6];rfl)).1;exact own hk ha n hn hv.1 fun e h2 h3 m hm=>(hv.2.get h2 h3 m hm).2
  simp only[gW];split;·rename_i ha;exact fin (.inl ⟨_,ha⟩)
  ·rename_i ha;exact fin (.inr ha)
  ·exact hv
 |_=>exact hv
theorem ve{st:St}{tmps:Array Value}{ks:List Nat}(R1:Rel C γ w (dm st ks) tmps):∀{cs:List Cell}{vs:List Value},(∀k,k∈cs.flatMap Cell.ownK->k∈ks)->ai (av C γ (dm st ks).h w) cs vs->ai (av C γ (dm st ks).h w) (cs.map (gW st.h)) vs
 |[],[],_,_=>trivial
 |c::cs,v::vs,hk,ha=>⟨xc R1 (fun k hm=>hk k (by simp[hm])) ha.1,ve R1 (fun k hm=>hk k (by
   rw[U7];exact List.mem_append_right _ hm)) ha.2⟩
 |[],_::_,_,ha=>ha.elim
 |_::_,[],_,ha=>ha.elim
theorem V1.pub_cells_eq(h:Heap)(x:V1):(x.pub h).cells=x.cells.map (gW h):=by
 cases x<;>rfl
theorem yj{st:St}{a:Act}(R':Rel C γ w st a.tmps)(ks:List Nat):cK C γ st.h w C γ (dm st ks).h w:=by
 refine⟨Uz _,fun k e hk=>?_,fun g hg _=>rfl,fun k e' c g hk hl hg _=>?_,fun _ _ hh=>hh,fun _ hh=>hh⟩
 ·rcases zy (st:=st) (ks:=ks) k with h|⟨e',a',t,xs,h1,h2,h3⟩
  ·exact⟨e,by rw[h];exact hk,.inr ⟨rfl,rfl,Alike.refl _⟩⟩
  ·rw[hk] at h1;obtain rfl:=Ux h1;refine⟨_,h3,.inr ⟨rfl,rfl,?_⟩⟩;unfold Alike;rw[h2];exact⟨⟨rfl,rfl⟩,rfl⟩
 ·rcases zy (st:=st) (ks:=ks) k with h|⟨e2,a',t,xs,h1,h2,h3⟩
  ·exact⟨k,e',c,by rw[<- h];exact hk,hl,hg,.inl rfl⟩
  ·rw[h3] at hk;obtain rfl:=Ux hk;exact hl.elim
theorem LJ{st:St}{a:Act}(R':Rel C γ w st a.tmps){ks:List Nat}{x:V1}{v:Value}(hk:∀k,k∈x.ownKs->k∈ks)(hr:aM C γ st.h w x v):aM C γ (dm st ks).h w (x.pub st.h) v:=by
 have R1:=wD R' ks;have h1:=aM.step (yj R' ks) hr;cases x with
 |c c=>exact xc R1 (fun k hm=>hk k (by simpa[V1.ownKs,V1.cells] using hm)) h1
 |agg cs=>
  obtain⟨vs,hv,ha⟩:=h1;exact⟨vs,hv,ve R1 hk ha⟩
theorem JA{st:St}{a:Act}(R':Rel C γ w st a.tmps){x y:V1}{v:Value}(hr:aM C γ st.h w y v):aM C γ (dm st (l6 x y)).h w (qA st.h x y) v:=by
 unfold qA;split;·exact LJ R' (fun k hk=>hk) hr
 ·exact aM.step (yj R' _) hr
theorem uZ{st:St}{a:Act}(R':Rel C γ w st a.tmps){ks:List Nat}:∀{ps:List (Nat×V1)}{qs:List (Nat×Value)},(∀k,k∈ps.flatMap (fun p=>p.2.ownKs)->k∈ks) ->
  ai (fun(p:Nat×V1) (q:Nat×Value)=>p.1=q.1/\ai (av C γ st.h w) p.2.cells q.2.cells.toList) ps qs ->
  ai (fun(p:Nat×V1) (q:Nat×Value)=>p.1=q.1/\ai (av C γ (dm st ks).h w) p.2.cells q.2.cells.toList) (ps.map fun p=>(p.1,p.2.pub st.h)) qs
 |[],[],_,_=>trivial
 |p::ps,q::qs,hk,ha=>by
  refine⟨⟨ha.1.1,?_⟩,uZ R' (fun k hm=>hk k (by rw[U7];exact List.mem_append_right _ hm)) ha.2⟩;show ai _ (p.2.pub st.h).cells _;rw[V1.pub_cells_eq];exact ve (wD R' ks) (fun k hm=>hk k (by rw[U7];exact List.mem_append_left _ hm)) (ha.1.2.mono fun _ _ hh=>av.step (yj R' ks) hh)
 |[],_::_,_,ha=>ha.elim
 |_::_,[],_,ha=>ha.elim
theorem gH.pub{st:St}{a:Act}{o:Oper}{ks:List Nat}{v:V}{rd rd':List Nat}{up:List (Nat×En)}(h:gH P C w (dm st ks) a o ⟨v,rd,up⟩):gH P C w st a o ⟨v,rd',cu st.h ks++up⟩:=by
 intro next Q hn
 refine h next Q fun γ' w' val hr=>hn γ' w' val ?_
 have e:st.app o.dst ⟨v,rd',cu st.h ks++up⟩=(dm st ks).app o.dst ⟨v,rd,up⟩:=by
  unfold St.app dm iK;simp only[List.foldl_append]
 rw[e];exact hr
theorem Eu{te:TypeId->Option TI}(hte:∀t i,te t=some i->aS P t i){st:St}{a:Act}(R':Rel C γ w st a.tmps){o:Oper}{sT e:TypeId}{lo co:Operand}(ho:o.op=.makeSlice sT lo co)
  (hs:(te sT).bind (·.elem)=some e) {ti:TI} (hti:te e=some ti) {kl kc:IntKind} {n m:Int} (hl:opd st lo=some (.c (.int kl n))) (hc:opd st co=some (.c (.int kc m))) {t:Ty} (ht:ti.ty=some t) {z:t.D} (hz:t.ofCells ti.zero=some z)
  (hn:0<=n/\m=n/\(ti.bytes:Int)*n<=281474976710656/\0<ti.bytes/\0<ti.size) {rd:List Nat} :
  gH P C w st a o ⟨.v (.c (.own (dk o.dst) (st.h.next (dk o.dst)))),rd,[(dk o.dst,⟨st.h.next (dk o.dst),0,.row e t (List.replicate n.toNat z)⟩)]⟩:=by
 obtain⟨hn0,rfl,hnb,hb0,hs0⟩:=hn;have hi:=hte _ _ hti;have hsl:P.underlying sT=some (.slice e):=by
  cases h0:te sT with
  |none=>rw[h0] at hs;simp at hs
  |some i0=>rw[h0] at hs;exact(hte _ _ h0).elem e hs
 have hts:=(hi.ty t ht).1;have hsz:0<t.size:=by omega
 obtain⟨inf,h1,h2,h3,zv,h4,h5,h6⟩:=hi.info;have hza:ai (av C γ st.h w) ti.zero zv.cells.toList:=h6.mono fun _ _ hp=>uY hp
 have hzd:=Rd.ofCells hz hza;obtain⟨n,rfl⟩:=Int.eq_ofNat_of_zero_le hn0;have hzero:=CO hzd n hsz;have hbn:n<=ti.bytes*n:=Nat.le_mul_of_pos_left n hb0;have hnb':ti.bytes*n<=281474976710656:=by
  have:((ti.bytes*n:Nat):Int)<=281474976710656:=by rw[Int.natCast_mul];exact hnb
  omega
 have hlen:(List.replicate n z).length=n:=by simp
 have e1:((n:Int)).toNat=n:=UL n;rw[e1];refine Mc (e:=e) (c:=n) R' hzero (Nat.le_of_eq hlen) (by simp only[maxLen];omega) (by simp) hsz ?_;have hev1:a.eval lo=.int kl n:=(R'.opd hl).1;have hev2:a.eval co=.int kc n:=(R'.opd hc).1;have hrun:=run_make (P:=P) w sT e inf zv hsl h1 h4 kl kc (n:Int) (n:Int) (by omega) (Int.le_refl _) (by rw[h3];exact hnb) (by omega);rw[e1,h2,<- hts] at hrun;have hmc:madeCells zv.cells (n*t.size)=(Array.range (n*t.size)).map (zv.cells[· % zv.cells.size]!):=rfl;rw[hlen];simp only[execOp,ho,hev1,hev2,UJ,hrun,hmc,Uy,UQ]
end
end Rv
