/- Texts put together. -/
import Derived.Test.YtfphlcngbllgoaaGreatDoorW3
import Derived.BigCall
import Derived.Laws.BytesString
import Derived.Lib.ConvBytes
import Derived.Tactics
import Derived.Deep.LoopGhost
import Derived.Orders
import Derived.ScopeJumps
import Derived.KernelRfl
set_option linter.all false
namespace Rv
open Go
def jP(P:Program)(L:World->Prop)(M:Nat->TypeId->Option (Cell->Option (Cell×Bool))):Prop:=
 ∀g t F,M g t=some F->∃v:Value,v.oneCell'=true/\∀w,L w->w.cell? ⟨g,0,none⟩=some v/\(Instr.loadAt t (.pointer (some ⟨g,0,none⟩))).run P w=.ok v w /\
  ∀kc kv p,(∀s,kc=.str s->kv=.string (mkS s))->(∀k n,kc=.int k n->kv=.int k n)->F kc=some p->∃rv,p.1.plain=some rv/\∀ok,(Instr.lookup t v kv ok).run P w=.ok (if ok=true then .tuple #[rv,.bool p.2] else rv) w
structure ib (P:Program) (L:World->Prop) (nl:Nat) {R:Type} (E:Env R):Prop where
 te:∀t i,E.te t=some i->aD P t i
 spec:∀f ids sp,E.spec f ids=some sp->Sat P L f sp/\az P f
 nl:E.nl=nl
 maps:jP P L E.maps
section
variable{P:Program}{C C':Ctx}{γ γ':Gam}{h h':Heap}{w w':World}{R:Type}{r:R}
theorem dN{f:FuncId}(he:az P f)(args:Array Value)(w:World):(callFunc f args).run P w=.ok (.enter f args) w:=by
 obtain⟨fn,hf,hb,hn⟩:=he;have hb':fn.body.isNone=false:=by cases h:fn.body<;>simp_all
 have h1:¬fn.name = "runtime.NumGoroutine" := fun e=>by simp[e] at hn
 have h2:¬fn.body=none:=fun e=>by simp[e] at hb
 simp[callFunc,go_sem,hf];rw[if_neg h1,if_neg h2]
theorem zf{te:TypeId->Option TI}(hte:∀t i,te t=some i->aD P t i){st:St}{a:Act}(R':Rel C γ w st a.tmps){o:Oper}{rd:List Nat}{K:Dl->Option R}(he:(vop te st o.op fun v=>K ⟨v,rd,[]⟩)=some r) :
  ∃x,K x=some r/\dJ P C w st a o x:=by
 obtain⟨y,val,hk,hr,hrun⟩:=zh hte R' he;refine⟨⟨y,rd,[]⟩,hk,fun next Q hn=>bX (hrun w (Ext.refl w)) (hn γ w val ?_)⟩;exact R'.put o.dst hr
theorem mQ(a:Act)(args:Array Operand):(args.toList.map a.eval).toArray=args.map a.eval:=by
 apply Array.ext';simp
theorem kN{h:Heap}:∀{cs:List Cell}{caps:List Value},af (aj C γ h w) cs caps->af (aO C γ h w) (cs.map fun c=>V.v (.c c)) caps
 |[],[],_=>trivial
 |[],_::_,h=>h.elim
 |_::_,[],h=>h.elim
 |_::_,_::_,h=>⟨h.1,kN h.2⟩
theorem wT{st:St}{a:Act}(R':Rel C γ w st a.tmps){o:Oper}{c:Operand}{args:Array Operand}{argTypes:Array TypeId}(ho:o.op=.call { callee:=.value c,args,argTypes }){f:FuncId}{cs:List Cell}
  (hc:gy st c=some (f,cs)) (he:az P f):∃caps:List Value,af (aj C γ st.h w) cs caps/\(execOp a.eval o).run P w=.ok (.enter f ((args.toList.map a.eval).toArray++caps.toArray)) w:=by
 rw[mQ];obtain⟨dst,op,ty,pos,after,guard⟩:=o;simp only at ho;subst ho;unfold gy at hc;split at hc;·simp only[DL,DT] at hc;obtain⟨rfl,rfl⟩:=hc;refine⟨[],trivial,?_⟩;rw[execOp_call_go,dN he];simp
 ·rename_i t;split at hc
  ·rename_i f' cs' hs;obtain⟨hlt,hc⟩:=aa hc;simp only[DL,DT] at hc;obtain⟨rfl,rfl⟩:=hc;obtain⟨caps,hv,ha⟩:=R'.slot t _ hs;refine⟨caps,ha,?_⟩;have hx:execOp a.eval { dst,op:=.call { callee:=.value (.tmp t),args,argTypes },type:=ty,pos,after,guard }=(do let d <- Deferred.ofValue (a.tmps.getD t undef) (args.map a.eval);invoke d.target d.args):=rfl;rw[ja hlt] at hv;rw[hx,hv];have hx2:(do let d <- Deferred.ofValue (.func (.func f') #[] caps.toArray) (args.map a.eval);invoke d.target d.args)=callFunc f' (#[]++args.map a.eval++caps.toArray):=rfl;rw[hx2,dN he];simp
  ·rename_i f' x y hs;split at hc
   ·rename_i hxy;simp only[DL,DT] at hc;obtain⟨rfl,rfl⟩:=hc;simp only[DW,Array.isEmpty_iff] at hxy;obtain⟨rfl,rfl⟩:=hxy;have hv:a.tmps.getD t undef=.func (.func f') #[] #[]:=(R'.slot t _ hs).1;refine⟨[],trivial,?_⟩;have hx:execOp a.eval { dst,op:=.call { callee:=.value (.tmp t),args,argTypes },type:=ty,pos,after,guard }=(do let d <- Deferred.ofValue (a.tmps.getD t undef) (args.map a.eval);invoke d.target d.args):=rfl;rw[hx,hv];have hx2:(do let d <- Deferred.ofValue (.func (.func f') #[] #[]) (args.map a.eval);invoke d.target d.args)=callFunc f' (#[]++args.map a.eval++#[]):=rfl;rw[hx2,dN he];simp
   ·cases hc
  ·cases hc
 ·cases hc
theorem xS{st:St}{a:Act}(R':Rel C γ w st a.tmps){o:Oper}{c:Operand}{args:Array Operand}{argTypes:Array TypeId}(ho:o.op=.call { callee:=.value c,args,argTypes }){f:FuncId}{cs:List Cell}
  (hc:gN st c=some (f,cs)) {vs:List V} (hv:fe st args.toList=some vs) :
  ∃vals:List Value,af (aO C γ st.h w) (cs.map (fun c=>V.v (.c c))++vs) vals/\(az P f->∃caps:List Value,af (aj C γ st.h w) [] caps/\(execOp a.eval o).run P w=.ok (.enter f (vals.toArray++caps.toArray)) w):=by
 obtain⟨dst,op,ty,pos,after,guard⟩:=o;simp only at ho;subst ho;unfold gN at hc;split at hc
 ·rename_i t;split at hc
  ·rename_i f' cs' hs;split at hc
   ·cases hc
   ·rename_i hge;simp only[DL,DT] at hc;obtain⟨hfg,rfl⟩:=hc;obtain⟨caps,hvv,ha⟩:=R'.slot t _ hs;refine⟨caps++args.toList.map a.eval,(kN ha).append (iy R' hv),fun he=>⟨[],trivial,?_⟩⟩;have hx:execOp a.eval { dst,op:=.call { callee:=.value (.tmp t),args,argTypes },type:=ty,pos,after,guard }=(do let d <- Deferred.ofValue (a.tmps.getD t undef) (args.map a.eval);invoke d.target d.args):=rfl;rw[zZ hge,hfg] at hvv;rw[hx,hvv];have hx2:(do let d <- Deferred.ofValue (.func (.func f) caps.toArray #[]) (args.map a.eval);invoke d.target d.args)=callFunc f (caps.toArray++args.map a.eval++#[]):=rfl;rw[hx2,dN he,<- mQ];simp
  ·cases hc
 ·cases hc
theorem BA{E:Env R}(hE:ib P C.L C.nl E){st:St}{a:Act}(R':Rel C γ w st a.tmps){o:Oper}{vals:List Value}
  {f:FuncId} {cs:List Cell} (hrun:az P f->∃caps:List Value,af (aj C γ st.h w) cs caps/\(execOp a.eval o).run P w=.ok (.enter f (vals.toArray++caps.toArray)) w)
  {ids:List FuncId} {sp:Spec} (hsp:E.spec f ids=some sp) {vs:List V} (hv:af (aO C γ st.h w) vs vals) {ab:Abs sp.a.T} (hab:sp.a.abs ⟨vs++cs.map (fun c=>V.v (.c c)),st.h⟩=some ab)
  (hok:jT st.h (o.dst.getD 0) sp ab (vs.length+cs.length)=true) {y:sp.r.T} (hy:sp.f ab.x=some y) :
  dJ P C w st a o (eU st (o.dst.getD 0) sp ab y):=by
 intro next Q hn
 obtain⟨hsat,hent⟩:=hE.spec f ids sp hsp;unfold jT at hok;simp only[DW,D6] at hok;obtain⟨⟨⟨⟨hlen,hpl⟩,hb0⟩,hnk⟩,hnb0⟩:=hok;obtain⟨caps,hcaps,hex⟩:=hrun hent;have hcs:=kN hcaps;have Ra0:=xA R' (hv.append hcs);have hargs:(vals++caps).toArray=vals.toArray++caps.toArray:=by
  apply Array.ext';simp
 rw[hargs] at Ra0;obtain⟨hkn,hdk⟩:=xO hab;obtain⟨γa,Rb,hbl,hbb,_⟩:=l8 hab Ra0 (C':=callee C γ st.h w ab.bm ab.keys ab.m.deps) (nm:=nmJ) (fun i j e=>by simp only[nmJ] at e;omega) (zK R'.inv ab.bm ab.keys ab.m.deps)
  (fun d g ho hg hd=>.inr (.inr (.inl ⟨d,ho,hd⟩))) (fun k e g c l hk he hb hg=>.inr (.inr (.inr ⟨k,e,c,l,hk,he,hb,hg⟩))) (fun k e g c hk he hl hg=>.inr ⟨k,e,c,hk,he,hl,hg⟩)
  (fun i hi=>by
   have hi:i<ab.bm.length:=hi;have h1:ab.bm[i]?=some ab.bm[i]:=Ef hi;refine⟨rfl,ab.bm[i],h1,?_⟩;show γ _=(ab.bm[i]?).bind γ;rw[h1];rfl)
 have hl:(vs++cs.map (fun c=>V.v (.c c))).length=sp.a.slots.length:=by rw[DZ,Et];exact hlen
 rw[hl] at Rb;unfold Oper.wp;rw[hex,Oper.upon_enter];refine Calls.mono (hsat ab.x y hy (callee C γ st.h w ab.bm ab.keys ab.m.deps) γa _ rfl hbl Rb) fun e w' hh=>?_
 obtain⟨γr,rs,rfl,Rr⟩:=hh;obtain⟨γ',hfin⟩:=vF (d:=o.dst.getD 0) (dst:=o.dst) R' (by rw[hbl];exact hpl) hb0 hnk hkn hdk (by simpa using hnb0) (fun k hk=>by
  obtain⟨i,hi⟩:=List.mem_iff_getElem?.1 hk;exact(hbb i k hi).2) Rr
 exact hn γ' w' _ hfin
theorem BN{I:World}{x:List Cap}{gs:List Nat}(ha:af (jl I (okb C γ h none)) gs x):af (aj C γ h I) (x.map Cap.cell) (gs.map fun g=>Value.pointer (some ⟨g,0,none⟩)):=by
 induction gs generalizing x with
 |nil=>cases x with
  |nil=>trivial
  |cons _ _=>exact ha.elim
 |cons g gs ih=>cases x with
  |nil=>exact ha.elim
  |cons c x=>
   refine⟨?_,ih ha.2⟩;have h1:=ha.1;cases c with
   |c0 c=>
    obtain⟨ho,hg,hc⟩:=h1;cases c with
    |ci k n=>exact⟨rfl,g,0,n,[.int k n],rfl,rfl,ho,hg,rfl,fun j u hj=>by
      cases j with
      |zero=>simp only[Ee,DL] at hj;subst hj;exact hc
      |succ j=>simp at hj⟩
    |cs s=>exact⟨rfl,g,0,s,[.string (mkS s)],rfl,rfl,ho,hg,rfl,fun j u hj=>by
      cases j with
      |zero=>simp only[Ee,DL] at hj;subst hj;exact hc
      |succ j=>simp at hj⟩
   |cf f=>
    obtain⟨ho,hg,hs,hc,hh⟩:=h1;refine⟨rfl,g,0,(f.1,f.2.map Cap.c0),[fnV f.1 hs],rfl,rfl,ho,hg,⟨hs,rfl,?_⟩,fun j u hj=>by
      cases j with
      |zero=>simp only[Ee,DL] at hj;subst hj;exact hc
      |succ j=>simp at hj⟩
    have:∀{hs:List Nat}{l:List ow},af (iV I (okb C γ h none)) hs l->af (jl I (okb C γ h none)) hs (l.map Cap.c0):=by
     intro hs
     induction hs with
     |nil=>intro l hl;cases l with
      |nil=>trivial
      |cons _ _=>exact hl.elim
     |cons a hs ih=>intro l hl;cases l with
      |nil=>exact hl.elim
      |cons c l=>exact⟨hl.1,ih hl.2⟩
    exact this hh
theorem CF{st:St}{a:Act}(R':Rel C γ w st a.tmps){o:Oper}{c:Operand}{args:Array Operand}{argTypes:Array TypeId}(ho:o.op=.call { callee:=.value c,args,argTypes }){x:Fn}
  (hc:qF st c=some x) (he:az P x.1):∃caps:List Value,af (aj C γ st.h w) (x.2.map Cap.cell) caps/\(execOp a.eval o).run P w=.ok (.enter x.1 ((args.toList.map a.eval).toArray++caps.toArray)) w:=by
 rw[mQ];obtain⟨dst,op,ty,pos,after,guard⟩:=o;simp only at ho;subst ho;unfold qF at hc;split at hc
 ·rename_i t;split at hc
  ·rename_i x' hs;simp only[DL] at hc;subst hc;obtain⟨_,gs,hv,ha⟩:=R'.slot t _ hs;simp only[List.cons.injEq,and_true] at hv;refine⟨_,BN ha,?_⟩;have hx:execOp a.eval { dst,op:=.call { callee:=.value (.tmp t),args,argTypes },type:=ty,pos,after,guard }=(do let d <- Deferred.ofValue (a.tmps.getD t undef) (args.map a.eval);invoke d.target d.args):=rfl;rw[hx,hv];have hx2:(do let d <- Deferred.ofValue (fnV x'.1 gs) (args.map a.eval);invoke d.target d.args)=callFunc x'.1 (#[]++args.map a.eval++(gs.map fun g=>Value.pointer (some ⟨g,0,none⟩)).toArray):=rfl;rw[hx2,dN he];simp
  ·cases hc
 ·cases hc
theorem pU{x:Fn}{F:Fn->Option R}:∀{l:List Fn},l.foldr (fun key next=>if x=key then F key else next) none=some r->F x=some r
 |[],he=>by cases he
 |key::l,he=>by
  simp only[List.foldr_cons] at he;split at he;·rename_i e;rw[e];exact he
  ·exact pU he
theorem oF{E:Env R}(hE:ib P C.L C.nl E){st:St}{a:Act}(R':Rel C γ w st a.tmps){o:Oper}{vals:List Value}
  {f:FuncId} {cs:List Cell} (hrun:az P f->∃caps:List Value,af (aj C γ st.h w) cs caps/\(execOp a.eval o).run P w=.ok (.enter f (vals.toArray++caps.toArray)) w)
  {vs:List V} (hv:af (aO C γ st.h w) vs vals) {K:Dl->Option R} (he:gH E st o.dst f cs vs K=some r):∃x,K x=some r/\dJ P C w st a o x:=by
 unfold gH at he;split at he
 ·rename_i sp hsp;split at he
  ·rename_i ab hab;obtain⟨hok,he⟩:=aa he;cases hy:sp.f ab.x with
   |none=>rw[hy] at he;cases he
   |some y=>
    rw[hy] at he;exact⟨_,he,BA hE R' hrun hsp hv hab hok hy⟩
  ·cases he
 ·cases he
theorem sO{te:TypeId->Option TI}(hte:∀t i,te t=some i->aD P t i){src dst:TypeId}(hh:qV te src dst=true):∃e,P.underlying src=some (.slice e)/\P.underlying e=some (.int .u8)/\P.underlying dst=some .string:=by
 unfold qV at hh;simp only[DW] at hh;obtain⟨h1,h2⟩:=hh;have hd:P.underlying dst=some .string:=by
  unfold isStr at h1;split at h1;·rename_i ti hti;exact(hte _ _ hti).str h1
  ·cases h1
 split at h2
 ·rename_i e he;split at h2
  ·rename_i ti hti;split at h2
   ·rename_i hk;refine⟨e,?_,(hte _ _ hti).int _ hk,hd⟩;cases h0:te src with
    |none=>rw[h0] at he;simp at he
    |some i0=>rw[h0] at he;exact(hte _ _ h0).elem e he
   ·cases h2
  ·cases h2
 ·cases h2
theorem pE{te:TypeId->Option TI}(hte:∀t i,te t=some i->aD P t i){src dst:TypeId}(hh:mh te src dst=true):∃e,P.underlying src=some .string/\P.underlying dst=some (.slice e)/\P.underlying e=some (.int .u8):=by
 unfold mh at hh;simp only[DW] at hh;obtain⟨h1,h2⟩:=hh;have hd:P.underlying src=some .string:=by
  unfold isStr at h1;split at h1;·rename_i ti hti;exact(hte _ _ hti).str h1
  ·cases h1
 split at h2
 ·rename_i e he;split at h2
  ·rename_i ti hti;split at h2
   ·rename_i hk;refine⟨e,hd,?_,(hte _ _ hti).int _ hk⟩;cases h0:te dst with
    |none=>rw[h0] at he;simp at he
    |some i0=>rw[h0] at he;exact(hte _ _ h0).elem e he
   ·cases h2
  ·cases h2
 ·cases h2
theorem zG{st:St}{a:Act}(R':Rel C γ w st a.tmps){o:Oper}{src dst e:TypeId}{x:Operand}{s:Str}(ho:o.op=.convert src dst x)(h1:P.underlying src=some .string)(h2:P.underlying dst=some (.slice e))(h3:P.underlying e=some (.int .u8))
  (hx:opd st x=some (.c (.str s))):dJ P C w st a o ⟨.v (.c (.sl none (.int .u8) (s.map fun b=>(b.toNat:Int)))),[],[]⟩:=by
 intro next Q hn
 have hv:a.eval x=.string (mkS s):=(R'.opd hx).1;have hsz:(mkS s).size=s.length:=rfl;have hrun:(execOp a.eval o).run P w=.ok (.value (.slice (some ⟨w.heap.size,0,none⟩) (mkS s).size (grownCap w (mkS s).size 0 e))) (Lib.bytesWorld w e (mkS s)):=by
  have hx:execOp a.eval o=(do pure (.value (<- convert src dst (a.eval x)))):=by simp[execOp,ho]
  rw[hx,DX,hv,Lib.run_convert_string_bytes w src dst e (mkS s) h1 h2 h3,DR,D7]
 have hE:Ext w (Lib.bytesWorld w e (mkS s)):=⟨by rw[Lib.bytesWorld_size];omega,fun g hg=>Lib.bytesWorld_at_old w e (mkS s) g hg⟩
 have S:Step C w (Lib.bytesWorld w e (mkS s)):=Step.of_ext hE rfl rfl rfl;have R1:=R'.ext hE S;have I:=R'.inv;have hrep:aO C γ st.h (Lib.bytesWorld w e (mkS s)) (.v (.c (.sl none (.int .u8) (s.map fun b=>(b.toNat:Int))))) (.slice (some ⟨w.heap.size,0,none⟩) (mkS s).size (grownCap w (mkS s).size 0 e)):=?hrep;·exact bX hrun (hn γ _ _ (R1.put o.dst hrep))
 refine⟨rfl,?_⟩;refine⟨some ⟨w.heap.size,0,none⟩,grownCap w (mkS s).size 0 e,by simp[hsz],?_,fun i n hi=>?_⟩;·have:=grownCap_ge w (mkS s).size 0 e;simpa[hsz] using this
 ·simp only[Ez,Option.map_eq_some_iff] at hi;obtain⟨b,hb,rfl⟩:=hi;have hlt:i<s.length:=(DY.1 hb).1;refine⟨w.heap.size,0,[.int .u8 b.toNat],rfl,⟨I.rd _ (I.new _ I.size),fun k e' c hk hl hγ=>?_⟩,by rw[Lib.bytesWorld_size];omega,rfl,fun j u hj=>?_⟩
  ·have:=fA I hk hl hγ;omega
  ·cases j with
   |zero=>
    simp only[Ee,DL] at hj;subst hj;have:=Lib.bytesWorld_cell w e (mkS s) i (by rw[hsz];exact hlt);have hg:(mkS s).data.toList.getD i 0=b:=by
     show s.getD i 0=b;rw[List.getD_eq_getElem?_getD,hb];rfl
    rw[hg] at this;simpa[Ty.size] using this
   |succ j=>simp at hj
theorem xe(ns:List Int):∀(s:ByteArray),ns.foldl (fun r n=>r.push (UInt8.ofNat n.toNat)) s=⟨s.data++(bytesOf ns).toArray⟩:=by
 induction ns with
 |nil=>intro s;simp[bytesOf]
 |cons n ns ih=>
  intro s;simp only[Eo,ih];congr 1;simp[bytesOf,ByteArray.push,Array.push_append]
theorem rT{ok:Nat->Prop}{k:IntKind}:∀{xs:List Int}{news:List Value},aR w ok (.int k) xs news->news.length=xs.length->news=xs.map (Value.int k)
 |[],news,_,hl=>by simpa using hl
 |x::xs,[],_,hl=>by simp at hl
 |x::xs,v::news,hr,hl=>by
  have h0:=hr 0 x rfl;simp only[Ty.size,Nat.zero_mul,EH,List.take_succ_cons,List.take_zero] at h0;have h0:[v]=[.int k x]:=h0;simp only[List.cons.injEq,and_true] at h0;rw[h0,Ea];congr 1;refine rT (ok:=ok) (fun i y hy=>?_) (by simpa using hl);have:=hr (i+1) y (by simpa using hy);simpa[Ty.size] using this
theorem xV(I:Inv C γ h w){x:V1}{xs:List Int}(hm:gK h (.int .u8) x=some xs){v:Value}(hv:aA C γ h w x v):∃A c,v=.slice A xs.length c/\(Conv.bytesToString v).run P w=.ok (.string (mkS (bytesOf xs))) w:=by
 obtain⟨d,hr⟩:=jd I hm hv;obtain⟨A,c,news,hA,hl,hrow,_,hc⟩:=flat hr;have hl':news.length=xs.length:=by simpa[Ty.size] using hl
 have hn:=rT hrow hl';refine⟨A,c,hA,?_⟩;rw[hA];cases A with
 |none=>
  rcases hc with h0|⟨a,ha,_⟩;·have:xs=[]:=List.length_eq_zero_iff.1 h0;subst this;simp[Conv.bytesToString,D7];rfl
  ·cases ha
 |some a=>
  have hload:(loadCells a xs.length).run P w=.ok (xs.map (Value.int .u8)).toArray w:=by
   have:=run_loadCells_list (P:=P) w a (xs.map (Value.int .u8)) fun j u e=>by
    rcases hc with h0|⟨b,hb,hcell⟩;·have:xs=[]:=List.length_eq_zero_iff.1 h0;subst this;simp at e
    ·simp only[DL] at hb;subst hb;exact hcell j u (by rw[hn];exact e)
   simpa using this
  rw[run_bytesToString w a xs.length c xs hload,xe];congr 2;simp[mkS]
theorem nY{E:Env R}(hE:ib P C.L C.nl E){st:St}{a:Act}(R':Rel C γ w st a.tmps){o:Oper}{K:Dl->Option R}(he:aP E st o K=some r):∃x,K x=some r/\dJ P C w st a o x:=by
 unfold aP at he;split at he
 ·rename_i t ho;split at he
  ·rename_i ti hti;exact⟨_,he,zn R' (hE.te _ _ hti) ho⟩
  ·cases he
 ·rename_i t x ho;obtain⟨v,hv,he⟩:=ae he;exact⟨_,he,zx R' hv ho⟩
 ·rename_i t n parts ho;split at he
  ·cases he
  ·rename_i e hel;split at he
   ·rename_i ti hti hp;split at he
    ·rename_i k v fs hc;split at he
     ·rename_i cs hat
      obtain⟨hq,he⟩:=aa he;exact⟨_,he,vw hE.te R' ho hel hti hc hat hq⟩
     ·cases he
    ·cases he
   ·rename_i ti ps hti hp;split at he
    ·rename_i t' ht;split at he
     ·rename_i z hz;obtain⟨hn,he⟩:=aa he;obtain⟨xs,hx,he⟩:=ae he;refine⟨_,he,dJ.pub (rd:=[dk o.dst]) ?_⟩;rw[<- Az];exact sF hE.te (nN R' _) ho hel hti (mZ R' (fun k hk=>hk) (gu R' hp)) ht hz hn hx
     ·cases he
    ·cases he
   ·cases he
 ·rename_i t x v ho;split at he
  ·rename_i hd;obtain⟨xv,hx,he⟩:=ae he;obtain⟨vv,hv,he⟩:=ae he;obtain⟨up,hk,hok⟩:=AY hE.te (nN R' _) ho hd (x:=xv) (by rw[<- hx];rfl) (xw R' (R'.opd hv).1) he (rd:=[]);exact⟨_,hk,hok.pub⟩
  ·cases he
 ·rename_i args argTypes ho;split at he
  ·rename_i s x sT xT ha hat
   obtain⟨hst,he1⟩:=aa he;subst hst;obtain⟨sv,hs,he⟩:=ae he1;obtain⟨xv,hx,he⟩:=ae he;exact wK hE.te R' ho ha hat hs hx he
  ·cases he
 ·rename_i c args argTypes ho;split at he
  ·rename_i vs hv;split at he
   ·rename_i p hc;obtain⟨vals,hvals,hrun⟩:=xS (P:=P) R' ho hc hv;exact oF hE R' hrun hvals he
   ·split at he
    ·rename_i p hc;exact oF hE R' (fun hent=>wT R' ho hc hent) (iy R' hv) he
    ·split at he
     ·rename_i x hc;exact oF hE R' (fun hent=>CF R' ho hc hent) (iy R' hv) (pU he)
     ·cases he
  ·cases he
 ·rename_i t g ho;split at he
  ·rename_i F hF;obtain⟨v,h1,h2⟩:=hE.maps g t F hF;refine⟨_,he,fun next Q hn=>bX (val:=v) (w':=w) ?_ (hn γ w v (R'.put o.dst (y:=.v (.c (.glob g))) ⟨h1,fun w' hw'=>(h2 w' hw').1⟩))⟩;have hx:execOp a.eval o=(do pure (.value (<- Instr.loadAt t (.pointer (some ⟨g,0,none⟩))))):=by simp[execOp,ho,Act.eval]
   rw[hx,DX,(h2 w R'.inv.laid).2.1,DR,D7]
  ·cases he
 ·rename_i t x k ok ho;split at he
  ·rename_i g kc hx hk;split at he
   ·rename_i F hF;obtain⟨p,hp,he⟩:=ae he;obtain⟨v,h1,h2⟩:=hE.maps g t F hF;have hv:a.eval x=v:=by
     have:=(R'.opd hx).1.2 w R'.inv.laid;rw[(h2 w R'.inv.laid).1] at this;simpa using this.symm
    have hkv:=(R'.opd hk).1;obtain⟨rv,h3,h4⟩:=(h2 w R'.inv.laid).2.2 kc (a.eval k) p (fun s e=>by subst e;exact hkv) (fun k n e=>by subst e;exact hkv) hp;have hrp:aj C γ st.h w p.1 rv:=mY h3;refine⟨_,he,fun next Q hn=>bX (val:=if ok=true then .tuple #[rv,.bool p.2] else rv) (w':=w) ?_ (hn γ w _ (R'.put o.dst ?_))⟩
    ·have hx:execOp a.eval o=(do pure (.value (<- Instr.lookup t (a.eval x) (a.eval k) ok))):=by simp[execOp,ho]
     rw[hx,DX,hv,h4 ok,DR,D7]
    ·cases ok with
     |true=>exact⟨[rv,.bool p.2],rfl,hrp,rfl,trivial⟩
     |false=>exact hrp
   ·cases he
  ·cases he
 ·rename_i t l c ho;split at he
  ·cases he
  ·rename_i e hel;split at he
   ·rename_i ti kl n kc m hti hl hc;split at he
    ·rename_i t' ht;split at he
     ·rename_i z hz;obtain⟨hn,he⟩:=aa he;exact⟨_,he,uy hE.te R' ho hel hti hl hc ht hz hn⟩
     ·cases he
    ·cases he
   ·cases he
 ·rename_i src dst x ho;split at he
  ·rename_i hsc;obtain⟨v,hv,he⟩:=ae he;obtain⟨xs,hxs,he⟩:=ae he;refine⟨_,he,fun next Q hn=>?_⟩;obtain⟨e,h1,h2,h3⟩:=sO hE.te hsc;obtain⟨A,c,hA,hrun⟩:=xV (P:=P) R'.inv hxs (R'.opd hv).1;refine bX (val:=.string (mkS (bytesOf xs))) (w':=w) ?_ (hn γ w _ (R'.put o.dst (y:=.v (.c (.str (bytesOf xs)))) rfl));have hx:execOp a.eval o=(do pure (.value (<- convert src dst (a.eval x)))):=by simp[execOp,ho]
   rw[hx,DX,hA,run_convert_bytes_string w src dst e A xs.length c h1 h2 h3,<- hA,hrun,DR,D7]
  ·split at he
   ·rename_i hbc;split at he
    ·rename_i s hx;obtain⟨e,h1,h2,h3⟩:=pE hE.te hbc;exact⟨_,he,zG R' ho h1 h2 h3 hx⟩
    ·cases he
   ·rw[<- ho] at he;exact zf hE.te R' he
 ·exact zf hE.te R' he
end
end Rv
namespace Rv
open Go
section
variable{P:Program}{C:Ctx}{γ:Gam}{w:World}{R:Type}{r:R}
structure Good (E:Env R) (a:Act):Prop where
 size:a.tmps.size=E.N
 defers:a.defers=[]
theorem Good.put{E:Env R}{a:Act}(g:Good E a)(d:Option Nat)(v:Value):Good E (a.put d v):=by
 cases d with
 |none=>exact g
 |some d=>exact⟨by simpa[Act.put] using g.size,g.defers⟩
def fU(C:Ctx)(E:Env R)(r:R)(K:St->Option R)(Q:Act->World->Prop):Prop:=
 ∀γ st a w,Rel C γ w st a.tmps->Good E a->K st=some r->Q a w
theorem lK{st:St}{a:Act}(R':Rel C γ w st a.tmps){ops:Array Oper}{j d:Nat}(hd:(ops[j]?).bind (·.dst)=some d){v:V}(hs:st.s[d]?=some v):∃u,a.tmps[d]?=some u/\aO C γ st.h w v u/\yielded ops a.tmps j=(match u with | .bool b=>some b|_=>none):=by
 have hlt:d<a.tmps.size:=by rw[R'.size];exact(DY.1 hs).1
 refine⟨a.tmps[d],by simp[hlt],?_,?_⟩;·have:=R'.slot d v hs;simpa[Array.getD,hlt] using this
 ·unfold yielded;rw[hd];simp only[DV,Array.getElem?_eq_getElem hlt];cases a.tmps[d]<;>rfl
theorem ql{st:St}{a:Act}(R':Rel C γ w st a.tmps){ops:Array Oper}{o:Oper}{j d:Nat}{want:Bool}(hg:o.guard=some (j,want))(hd:(ops[j]?).bind (·.dst)=some d)(hs:st.s[d]?=some (.v (.c (.bool want)))) :
  Region.wanted o (yielded ops a.tmps)=true:=by
 obtain⟨u,hu,hr,hy⟩:=lK R' hd hs;have:u=.bool want:=hr;subst this;simp[Region.wanted,hg,hy]
theorem nK{st:St}{a:Act}(R':Rel C γ w st a.tmps){ops:Array Oper}{o:Oper}{j d:Nat}{want:Bool}(hg:o.guard=some (j,want))(hd:(ops[j]?).bind (·.dst)=some d)(hs:st.s[d]?=some (.v (.c (.bool !want)))\/st.s[d]?=some (.tup [])) :
  Region.wanted o (yielded ops a.tmps)=false:=by
 rcases hs with hs|hs;·obtain⟨u,hu,hr,hy⟩:=lK R' hd hs;have:u=.bool !want:=hr;subst this;simp[Region.wanted,hg,hy]
 ·obtain⟨u,hu,hr,hy⟩:=lK R' hd hs;obtain⟨vs,rfl,hv⟩:=hr;simp[Region.wanted,hg,hy]
theorem St.put_same{st:St}{d:Nat}{v:V}(h:st.s[d]?=some v):st.put (some d) v=st:=by
 obtain⟨hl,he⟩:=DY.1 h;show(⟨st.s.set d v,st.h⟩:St)=st;have:st.s.set d v=st.s:=by rw[<- he];exact List.set_getElem_self hl
 rw[this]
theorem nk{h:Heap}:aO C γ h w (.tup []) undef:=⟨[],rfl,trivial⟩
theorem gp{E:Env R}(hE:ib P C.L C.nl E){ops:Array Oper}{Q:Exit->Act->World->Prop}:∀{l:List Oper}{st:St}{a:Act}{w:World}{γ:Gam}{K:St->Option R},Rel C γ w st a.tmps->Good E a->eQ E ops l st K=some r ->
  fU C E r K (Q .normal)->wpList P ops Q l a w
 |[],st,a,w,γ,K,R',G,he,hK=>hK γ st a w R' G he
 |o::l,st,a,w,γ,K,R',G,he,hK=>by
  have go:∀{K':Dl->Option R},aP E st o K'=some r->(∀x,K' x=eQ E ops l (st.app o.dst x) K)->Region.wanted o (yielded ops a.tmps)=true->wpList P ops Q (o::l) a w:=by
   intro K' h1 h2 h3;obtain⟨x,hx,hok⟩:=nY hE R' h1;unfold wpList;rw[if_pos h3];refine .inl (hok _ _ fun γ' w' val R1=>?_);rw[h2] at hx;exact gp hE R1 (G.put _ _) hx hK
  simp only[eQ] at he;split at he;·rename_i hg;exact go (K':=fun x=>eQ E ops l (st.app o.dst x) K) he (fun _=>rfl) (by simp[Region.wanted,hg])
  ·rename_i j want hg;split at he
   ·cases he
   ·rename_i d hd;split at he
    ·rename_i b hs;split at he
     ·rename_i hb;subst hb;rw[St.put_same hs] at he;exact go (K':=fun x=>eQ E ops l (st.app o.dst x) K) he (fun _=>rfl) (ql R' hg hd hs)
     ·rename_i hb;have hb':b=!want:=by cases b<;>cases want<;>simp_all
      subst hb';rw[St.put_same hs] at he;unfold wpList;rw[if_neg (by rw[nK R' hg hd (.inl hs)];simp)];exact gp hE (R'.put o.dst nk) (G.put _ _) he hK
    ·rename_i hs;unfold wpList;rw[if_neg (by rw[nK R' hg hd (.inr hs)];simp)];exact gp hE (R'.put o.dst nk) (G.put _ _) he hK
    ·cases he
end
end Rv
namespace Rv
open Go
def Agree(h h':Heap)(ks:List Nat):Prop:=∀k,k∈ks->h' k=h k
theorem Agree.sub{h h':Heap}{ks ls:List Nat}(H:Agree h h' ks)(hs:∀k,k∈ls->k∈ks):Agree h h' ls:=fun k hk=>H k (hs k hk)
section
variable{R:Type}{r:R}{h h':Heap}{st st':St}{te:TypeId->Option TI}
theorem at_eq{k:Nat}(e:h' k=h k)(v:Nat):h'.at k v=h.at k v:=by simp[Heap.at,e]
theorem fH{k:Nat}(e:h' k=h k):h'.next k=h.next k:=by simp[Heap.next,e]
theorem dY{k:Nat}(e:h' k=h k)(v:Nat):rowLen h' k v=rowLen h k v:=by simp[rowLen,at_eq e]
theorem gU{d:Dep}(e:∀x,d=some x->h' x.1=h x.1):h'.depOk d=h.depOk d:=by
 cases d with
 |none=>rfl
 |some x=>obtain⟨k,v,dv⟩:=x;simp[Heap.depOk,e _ rfl]
theorem kQ{d:Dep}{t:Ty}{xs:List t.D}(H:Agree h h' (Cell.sl d t xs).keys):h'.depOk d=h.depOk d:=gU fun x e=>H _ (by subst e;simp[Cell.keys])
theorem mD{d:Dep}{t:Ty}{xs:List t.D}{i off:Nat}(H:Agree h h' (Cell.slp d t xs i off).keys):h'.depOk d=h.depOk d:=gU fun x e=>H _ (by subst e;simp[Cell.keys])
theorem rq{d:Dep}{t:Ty}{xs:List t.D}(H:Agree h h' (Cell.slc d t xs).keys):h'.depOk d=h.depOk d:=gU fun x e=>H _ (by subst e;simp[Cell.keys])
theorem o6{c:Cell}(H:Agree h h' c.keys):rowOf h' c=rowOf h c:=by
 cases c with
 |sl d t xs=>simp only[rowOf,kQ H]
 |own k v=>simp only[rowOf];rw[at_eq (H k (by simp[Cell.keys]))]
 |ownP k v n=>simp only[rowOf];rw[at_eq (H k (by simp[Cell.keys]))]
 |_=>rfl
theorem tZ{c:Cell}(H:Agree h h' c.keys):dx h' c=dx h c:=by
 cases c with
 |own k v=>simp only[dx];rw[H k (by simp[Cell.keys])]
 |ownP k v n=>simp only[dx];rw[H k (by simp[Cell.keys])]
 |_=>rfl
theorem dR{c:Cell}:(V1.c c).keys=c.keys:=by simp[V1.keys,V1.cells]
theorem Ak{t:TypeId}{x:V1}{K:V1->Option R}(H:Agree st.h st'.h x.keys):bQ te st' t x K=bQ te st t x K:=by
 cases x with
 |agg cs=>rfl
 |c c=>
  rw[dR] at H;cases hte:te t with
  |none=>cases c<;>simp only[bQ,hte]
  |some ti=>
   cases c with
   |ptr k v off=>simp only[bQ,hte,at_eq (H k (by simp[Cell.keys]))]
   |elt k v i off=>simp only[bQ,hte,at_eq (H k (by simp[Cell.keys]))]
   |slp d t xs i off=>simp only[bQ,hte,mD H]
   |pel k v base n i=>simp only[bQ,hte,at_eq (H k (by simp[Cell.keys]))]
   |_=>rfl
theorem Al{t:TypeId}{x:V1}{K:V->Option R}(H:Agree st.h st'.h x.keys):gJ te st' t x K=gJ te st t x K:=by
 cases x with
 |agg cs=>rfl
 |c c=>
  cases c with
  |cle k v f=>
   rw[dR] at H;simp only[gJ,at_eq (H k (by simp[Cell.keys]))]
  |_=>exact Ak (te:=te) (t:=t) (K:=one K) H
theorem sK{es ar:Option Nat}{el:Option (Nat×Nat)}{x i:V1}{K:V1->Option R}(H:Agree st.h st'.h x.keys):aG st' es ar el x i K=aG st es ar el x i K:=by
 cases x with
 |agg cs=>rfl
 |c c=>
  rw[dR] at H;cases i with
  |agg cs=>cases c<;>rfl
  |c j=>
   cases j with
   |int ik n=>
    cases c with
    |own k v=>simp only[aG,dY (H k (by simp[Cell.keys]))]
    |ownP k v n=>simp only[aG,dY (H k (by simp[Cell.keys]))]
    |sl d t xs=>simp only[aG,kQ H]
    |ptr k v off=>simp only[aG,at_eq (H k (by simp[Cell.keys]))]
    |clr k v fs=>simp only[aG,at_eq (H k (by simp[Cell.keys]))]
    |_=>rfl
   |_=>cases c<;>rfl
theorem yT{str:Bool}{es:Option Nat}{x:V1}{lo hi mx:Option V1}{K:V1->Option R}(H:Agree st.h st'.h x.keys):aK st' str es x lo hi mx K=aK st str es x lo hi mx K:=by
 cases x with
 |agg cs=>rfl
 |c c=>
  rw[dR] at H;have h1:=o6 H;have h2:=tZ H;cases c with
  |own k v=>simp only[aK,dY (H k (by simp[Cell.keys])),h1,h2]
  |ownP k v n=>simp only[aK,dY (H k (by simp[Cell.keys])),h1,h2]
  |sl d t xs=>simp only[aK,kQ H]
  |_=>rfl
theorem yU{str:Bool}{es:Option Nat}{x:V1}{lo hi mx:Option V1}{K:V1->Option R}(H:Agree st.h st'.h x.keys):eH st' str es x lo hi mx K=eH st str es x lo hi mx K:=by
 have hs:=yT (str:=str) (es:=es) (lo:=lo) (hi:=hi) (mx:=mx) (K:=K) H;unfold eH;split;·rw[dR] at H;rw[o6 H,tZ H,hs]
 ·exact hs
theorem BX{str:Bool}{es:Option Nat}{x:V1}{K:Nat->Option R}(H:Agree st.h st'.h x.keys):dS st' str es x K=dS st str es x K:=by
 cases x with
 |agg cs=>rfl
 |c c=>
  rw[dR] at H;cases c with
  |own k v=>simp only[dS,dY (H k (by simp[Cell.keys]))]
  |ownP k v n=>simp only[dS,dY (H k (by simp[Cell.keys]))]
  |sl d t xs=>simp only[dS,kQ H]
  |slc d t xs=>simp only[dS,rq H]
  |clr k v fs=>simp only[dS,at_eq (H k (by simp[Cell.keys]))]
  |_=>rfl
theorem yY{t:TypeId}{x v:V1}{K:List (Nat×En)->Option R}(H:Agree st.h st'.h x.keys):dn te st' t x v K=dn te st t x v K:=by
 cases x with
 |agg cs=>rfl
 |c c=>
  rw[dR] at H;cases hte:te t with
  |none=>cases c<;>simp only[dn,hte]
  |some ti=>
   cases c with
   |ptr k v off=>simp only[dn,hte,H k (by simp[Cell.keys])]
   |pel k v base n i=>simp only[dn,hte,H k (by simp[Cell.keys])]
   |elt k v i off=>simp only[dn,hte,H k (by simp[Cell.keys])]
   |_=>rfl
theorem xR{e:TypeId}{t:Ty}{x:V1}(H:Agree h h' x.keys):gG h' e t x=gG h e t x:=by
 cases x with
 |agg cs=>rfl
 |c c=>
  rw[dR] at H;cases c with
  |own k v=>simp only[gG];rw[at_eq (H k (by simp[Cell.keys]))]
  |ownP k v n=>simp only[gG];rw[at_eq (H k (by simp[Cell.keys]))]
  |_=>rfl
theorem mR{t:Ty}{x:V1}(H:Agree h h' x.keys):gK h' t x=gK h t x:=by
 cases x with
 |agg cs=>rfl
 |c c=>
  rw[dR] at H;have h1:=o6 H;cases c<;>first|rfl|(simp only[gK];rw[h1])
theorem wM{e:TypeId}{t:Ty}{x:V1}{xs:List t.D}{k:Nat}(hb:gG h e t x=some (xs,some k)):k∈x.keys:=by
 unfold gG at hb;split at hb;·simp at hb
 ·rename_i k' v;split at hb
  ·obtain⟨_,hb'⟩:=aa hb;simp only[Option.map_eq_some_iff] at hb';obtain⟨a,_,ha⟩:=hb';simp only[DT,DL] at ha;rw[dR];simp[Cell.keys,ha.2]
  ·cases hb
 ·rename_i k' v n;split at hb
  ·obtain⟨_,hb'⟩:=aa hb;simp only[Option.map_eq_some_iff] at hb';obtain⟨a,_,ha⟩:=hb';simp only[DT,DL] at ha;rw[dR];simp[Cell.keys,ha.2]
  ·cases hb
 ·cases hb
theorem wI{d:Option Nat}{sT:TypeId}{s x:V1}{K:Dl->Option R}(Hs:Agree st.h st'.h s.keys)(Hx:Agree st.h st'.h x.keys)(hd:st'.h (dk d)=st.h (dk d)):eP te st' d sT s x K=eP te st d sT s x K:=by
 unfold eP;split;·rfl
 ·split
  ·rfl
  ·split
   ·rfl
   ·rename_i e _ ti _ t _;rw[xR Hs,mR Hx,fH hd];split
    ·rename_i xs k ys hb _;cases k with
     |none=>rfl
     |some k=>simp only[fH (Hs k (wM hb))]
    ·rfl
theorem wJ{d:Option Nat}{sT:TypeId}{s x:V1}{K:Dl->Option R}(Hs:Agree st.h st'.h s.keys)(Hx:Agree st.h st'.h x.keys)(hd:st'.h (dk d)=st.h (dk d)):dK te st' d sT s x K=dK te st d sT s x K:=by
 have hs:=wI (te:=te) (sT:=sT) (K:=K) Hs Hx hd;unfold dK;split;·rw[dR] at Hs;simp only[mR Hx,rq Hs,fH hd]
 ·exact hs
theorem xP{bm:List Nat}{cd:CD}{c:Cell}{y:cd.T}{m:Met}(ha:cd.abs h bm c=some (y,m))(H:Agree h h' (bm++(m.rows.filterMap id++m.deps))):cd.abs h' bm c=some (y,m):=by
 cases cd with
 |sl t=>
  cases c with
  |sl d t' xs=>
   simp only[CD.abs] at ha⊢;obtain⟨hd,ha1⟩:=aa ha;have hk:∀x,d=some x->h' x.1=h x.1:=fun x e=>H _ (by
    split at ha1;·simp only[DL,DT] at ha1;rw[<- ha1.2,e];simp
    ·cases ha1)
   rw[gU hk];exact ha
  |slc d t' xs=>
   simp only[CD.abs] at ha⊢;obtain⟨hd,ha1⟩:=aa ha;have hk:∀x,d=some x->h' x.1=h x.1:=fun x e=>H _ (by
    split at ha1;·simp only[DL,DT] at ha1;rw[<- ha1.2,e];simp
    ·cases ha1)
   rw[gU hk];exact ha
  |own k v=>
   simp only[CD.abs] at ha⊢;have hk:h' k=h k:=H _ (by
    split at ha
    ·split at ha
     ·simp only[DL,DT] at ha;rw[<- ha.2];simp
     ·cases ha
    ·cases ha)
   rw[at_eq hk];exact ha
  |ownP k v n=>
   simp only[CD.abs] at ha⊢;have hk:h' k=h k:=H _ (by
    split at ha
    ·split at ha
     ·simp only[DL,DT] at ha;rw[<- ha.2];simp
     ·cases ha
    ·cases ha)
   rw[at_eq hk];exact ha
  |_=>exact ha
 |row e t=>
  cases c with
  |own k v=>
   simp only[CD.abs] at ha⊢;have hk:h' k=h k:=H _ (by
    split at ha
    ·obtain⟨_,ha⟩:=aa ha;split at ha
     ·simp only[DL,DT] at ha;rw[<- ha.2];simp
     ·cases ha
    ·cases ha)
   rw[at_eq hk];exact ha
  |ownP k v n=>
   simp only[CD.abs] at ha⊢;have hk:h' k=h k:=H _ (by
    split at ha
    ·obtain⟨_,ha⟩:=aa ha;split at ha
     ·simp only[DL,DT] at ha;rw[<- ha.2];simp
     ·cases ha
    ·cases ha)
   rw[at_eq hk];exact ha
  |_=>exact ha
 |ptr i off=>
  cases c with
  |ptr k v o=>
   simp only[CD.abs] at ha⊢;obtain⟨hb,_⟩:=aa ha;have hk:h' k=h k:=H _ (List.mem_append_left _ (List.mem_of_getElem? hb));rw[at_eq hk];exact ha
  |_=>exact ha
 |slc t=>
  cases c with
  |slc d t' xs=>
   simp only[CD.abs] at ha⊢;obtain⟨hd,ha1⟩:=aa ha;have hk:∀x,d=some x->h' x.1=h x.1:=fun x e=>H _ (by
    split at ha1;·simp only[DL,DT] at ha1;rw[<- ha1.2,e];simp
    ·cases ha1)
   rw[gU hk];exact ha
  |_=>exact ha
 |clr i fs=>
  cases c with
  |clr k v gs=>
   simp only[CD.abs] at ha⊢;obtain⟨hb,_⟩:=aa ha;have hk:h' k=h k:=H _ (List.mem_append_left _ (List.mem_of_getElem? hb));rw[at_eq hk];exact ha
  |_=>exact ha
 |pp t=>
  cases c with
  |slp d t' xs i off=>cases d with
   |none=>exact ha
   |some x=>cases ha
  |ptr k v off=>
   simp only[CD.abs] at ha⊢;have hk:h' k=h k:=H _ (by
    split at ha
    ·obtain⟨_,ha⟩:=aa ha;split at ha
     ·simp only[DL,DT] at ha;rw[<- ha.2];simp
     ·cases ha
    ·cases ha)
   rw[at_eq hk];exact ha
  |_=>exact ha
 |_=>cases c<;>exact ha
theorem vR{bm:List Nat}:∀{l:List CD}{cs:List Cell}{y:TL l}{m:Met},dB h bm l cs=some (y,m)->Agree h h' (bm++(m.rows.filterMap id++m.deps))->dB h' bm l cs=some (y,m)
 |[],[],_,_,ha,_=>ha
 |[],_::_,_,_,ha,_=>by cases ha
 |_::_,[],_,_,ha,_=>by cases ha
 |cd::l,c::cs,y,m,ha,H=>by
  simp only[dB] at ha⊢;split at ha
  ·rename_i y1 m1 h1;split at ha
   ·rename_i y2 m2 h2;simp only[DL,DT] at ha;obtain⟨e1,e2⟩:=ha;subst e2;rw[xP h1 (H.sub fun k hk=>?_),vR h2 (H.sub fun k hk=>?_)]
    ·simp only[e1]
    ·simp only[List.filterMap_append,D9] at hk⊢;rcases hk with hk|hk|hk
     ·exact .inl hk
     ·exact .inr (.inl (.inr hk))
     ·exact .inr (.inr (.inr hk))
    ·simp only[List.filterMap_append,D9] at hk⊢;rcases hk with hk|hk|hk
     ·exact .inl hk
     ·exact .inr (.inl (.inl hk))
     ·exact .inr (.inr (.inl hk))
   ·cases ha
  ·cases ha
theorem eT:∀{bl:List (Option Nat×List CD)}{cs all:List Cell}{bm0 bm:List Nat},aS h bl cs bm0=some (all,bm)->(∀k,k∈bm0->k∈bm)/\bm.length=bm0.length+bl.length
 |[],cs,all,bm0,bm,he=>by
  simp only[aS,DL,DT] at he;obtain⟨_,rfl⟩:=he;exact⟨fun k hk=>hk,by simp⟩
 |(none,ds)::bl,cs,all,bm0,bm,he=>by
  simp only[aS] at he;split at he;·obtain⟨_,he⟩:=aa he;obtain⟨g1,g2⟩:=eT he;exact⟨fun k hk=>g1 k (List.mem_append_left _ hk),by simp at g2⊢;omega⟩
  ·cases he
 |(some p,ds)::bl,cs,all,bm0,bm,he=>by
  simp only[aS] at he;split at he
  ·split at he
   ·obtain⟨_,he⟩:=aa he;obtain⟨g1,g2⟩:=eT he;exact⟨fun k hk=>g1 k (List.mem_append_left _ hk),by simp at g2⊢;omega⟩
   ·cases he
  ·cases he
theorem kV:∀{bl:List (Option Nat×List CD)}{cs all:List Cell}{bm0 bm:List Nat},aS h bl cs bm0=some (all,bm)->Agree h h' bm->aS h' bl cs bm0=some (all,bm)
 |[],cs,all,bm0,bm,he,_=>he
 |(none,ds)::bl,cs,all,bm0,bm,he,H=>by
  simp only[aS] at he⊢;have hk:h' (nmJ bm0.length).1=h (nmJ bm0.length).1:=H _ (by
   split at he;·obtain⟨_,he⟩:=aa he;exact(eT he).1 _ (by simp)
   ·cases he)
  rw[at_eq hk];split at he;·obtain⟨hl,he⟩:=aa he;rw[if_pos hl];exact kV he H
  ·cases he
 |(some p,ds)::bl,cs,all,bm0,bm,he,H=>by
  simp only[aS] at he⊢;split at he
  ·rename_i k v o hp;have hk:h' k=h k:=H _ (by
    split at he;·obtain⟨_,he⟩:=aa he;exact(eT he).1 _ (by simp)
    ·cases he)
   rw[at_eq hk];split at he;·obtain⟨hl,he⟩:=aa he;rw[if_pos hl];exact kV he H
   ·cases he
  ·cases he
theorem uQ{sh:Shape}{l:List V}{a:Abs sh.T}(ha:sh.abs ⟨l,h⟩=some a)(H:Agree h h' (a.keys++a.m.deps)):sh.abs ⟨l,h'⟩=some a:=by
 unfold Shape.abs at ha⊢;split at ha
 ·rename_i cs hg;rw[show bK (St.mk l h').s sh.slots=some cs from hg];split at ha
  ·rename_i all bm hgb;split at ha
   ·rename_i x m hm;obtain⟨hc,ha⟩:=aa ha;simp only[DL] at ha;subst ha;have Hb:Agree h h' bm:=H.sub fun k hk=>by simp[Abs.keys,hk]
    have Hm:Agree h h' (bm++(m.rows.filterMap id++m.deps)):=H.sub fun k hk=>by
     simp only[Abs.keys,D9] at hk⊢;rcases hk with hk|hk|hk;·exact .inl (.inl hk)
     ·exact .inl (.inr hk)
     ·exact .inr hk
    simp only[kV hgb Hb,vR hm Hm,if_pos hc]
   ·cases ha
  ·cases ha
 ·cases ha
theorem ig{l:List V}:∀{sl:List (Nat×SD)}{cs:List Cell},bK l sl=some cs->∀c,c∈cs->∃v,v∈l/\∀k,k∈c.keys->k∈v.keys
 |[],cs,he,c,hc=>by
  simp only[bK,DL] at he;subst he;simp at hc
 |(i,.c d)::sl,cs,he,c,hc=>by
  simp only[bK] at he;split at he
  ·rename_i x hx;split at he
   ·rename_i cs' h1;simp only[DL] at he;subst he;rcases D8.1 hc with rfl|hc
    ·exact⟨_,List.mem_of_getElem? hx,fun k hk=>by simp[V.keys,V1.keys,V1.cells,hk]⟩
    ·exact ig h1 c hc
   ·cases he
  ·cases he
 |(i,.agg d)::sl,cs,he,c,hc=>by
  simp only[bK] at he;split at he
  ·rename_i xs hx;obtain⟨_,he'⟩:=aa he;split at he'
   ·rename_i cs' h1;simp only[DL] at he';subst he';rcases D9.1 hc with hc|hc
    ·exact⟨_,List.mem_of_getElem? hx,fun k hk=>List.mem_flatMap.2 ⟨c,hc,hk⟩⟩
    ·exact ig h1 c hc
   ·cases he'
  ·cases he
 |(i,.clo f d)::sl,cs,he,c,hc=>by
  simp only[bK] at he;split at he
  ·rename_i f' xs hx;obtain⟨_,he'⟩:=aa he;split at he'
   ·rename_i cs' h1;simp only[DL] at he';subst he';rcases D9.1 hc with hc|hc
    ·exact⟨_,List.mem_of_getElem? hx,fun k hk=>List.mem_flatMap.2 ⟨c,hc,hk⟩⟩
    ·exact ig h1 c hc
   ·cases he'
  ·cases he
theorem wy{x:Operand}{v:V1}(h:opd st x=some v):opdV st x=some (.v v):=by
 cases x with
 |tmp t=>
  simp only[opd] at h;simp only[opdV];split at h;·cases h
  ·rename_i y hy hs;simp only[DL] at h;subst h;rw[hs];split<;>first|rfl|(rename_i e;cases e;done)|(rename_i e;simp at e;done)|skip
   all_goals simp_all
  ·cases h
 |_=>simp only[opdV,h]
structure bi (st st':St) (l:List Operand):Prop where
 slot:∀t,Operand.tmp t∈l->st'.s[t]?=st.s[t]?
 heap:Agree st.h st'.h (bB st l)
theorem bi.opd{l:List Operand}(A:bi st st' l){x:Operand}(hx:x∈l):Rv.opd st' x=Rv.opd st x:=by
 cases x with
 |tmp t=>simp only[Rv.opd,A.slot t hx]
 |_=>rfl
theorem bi.keysV{l:List Operand}(A:bi st st' l){x:Operand}(hx:x∈l){v:V}(hv:Rv.opdV st x=some v):Agree st.h st'.h v.keys:=
 A.heap.sub fun k hk=>List.mem_flatMap.2 ⟨x,hx,by rw[hv];exact hk⟩
theorem bi.keys{l:List Operand}(A:bi st st' l){x:Operand}(hx:x∈l){v:V1}(hv:Rv.opd st x=some v):Agree st.h st'.h v.keys:=A.keysV hx (wy hv)
theorem bi.sub{l m:List Operand}(A:bi st st' l)(hs:∀x,x∈m->x∈l):bi st st' m:=
 ⟨fun t ht=>A.slot t (hs _ ht),A.heap.sub fun k hk=>by
  obtain⟨x,hx,hk⟩:=List.mem_flatMap.1 hk;exact List.mem_flatMap.2 ⟨x,hs x hx,hk⟩⟩
theorem ko:∀{l:List Operand},bi st st' l->eX st' l=eX st l
 |[],_=>rfl
 |x::l,A=>by
  simp only[eX];rw[A.opd (by simp),ko (A.sub fun x hx=>by simp[hx])]
theorem iM:∀{l:List (Nat×Operand)},bi st st' (l.map (·.2))->partsOf st' l=partsOf st l
 |[],_=>rfl
 |(i,x)::l,A=>by
  simp only[partsOf];rw[A.opd (by simp),iM (A.sub fun x hx=>by simp only[Ea,D8];exact .inr hx)]
theorem mV{x:Option Operand}(A:bi st st' x.toList):gM st' x=gM st x:=by
 cases x with
 |none=>rfl
 |some x=>simp only[gM];rw[A.opd (by simp)]
theorem bi.opdV{l:List Operand}(A:bi st st' l){x:Operand}(hx:x∈l):Rv.opdV st' x=Rv.opdV st x:=by
 cases x with
 |tmp t=>simp only[Rv.opdV,A.slot t hx]
 |_=>rfl
theorem lm:∀{l:List Operand},bi st st' l->fe st' l=fe st l
 |[],_=>rfl
 |x::l,A=>by
  simp only[fe];rw[A.opdV (by simp),lm (A.sub fun x hx=>by simp[hx])]
theorem kL{c:Operand}(h:∀t,c=.tmp t->st'.s[t]?=st.s[t]?):gN st' c=gN st c:=by
 cases c with
 |tmp t=>simp only[gN,h t rfl]
 |_=>rfl
theorem nT{c:Operand}(h:∀t,c=.tmp t->st'.s[t]?=st.s[t]?):gy st' c=gy st c:=by
 cases c with
 |tmp t=>simp only[gy,h t rfl]
 |_=>rfl
theorem rf:∀{l:List (Nat×Operand)},bi st st' (l.map (·.2))->dO st' l=dO st l
 |[],_=>rfl
 |[(i,x)],A=>by simp only[dO,A.opdV (x:=x) (by simp)]
 |(i,x)::p::r,A=>by
  have ih:=rf (l:=p::r) (A.sub fun x hx=>by simp only[Ea,D8] at hx⊢;exact .inr hx);simp only[dO,A.opdV (x:=x) (by simp)] at ih⊢;rw[ih]
theorem wW{k v:Nat}:∀{l:List (Nat×Operand)}{fs:List FuncId},dO st l=some (k,v,fs)->∃p,p∈l/\∃f,opdV st p.2=some (.clo f [.ptr k v 0])
 |[],fs,h=>by cases h
 |[(i,x)],fs,h=>by
  rw[dO] at h;split at h;·rename_i f k' v' hx;cases h;exact⟨(i,x),by simp,f,hx⟩
  ·cases h
 |(i,x)::p::r,fs,h=>by
  rw[dO] at h;split at h
  ·rename_i f k' v' hx;split at h
   ·rename_i k2 v2 fs2 hr;obtain⟨⟨rfl,rfl⟩,h⟩:=aa h;cases h;exact⟨(i,x),by simp,f,hx⟩
   ·cases h
  ·cases h
  ·rintro⟨⟩
theorem BM{c:Operand}(h:∀t,c=.tmp t->st'.s[t]?=st.s[t]?):qF st' c=qF st c:=by
 cases c with
 |tmp t=>simp only[qF,h t rfl]
 |_=>rfl
theorem yF{v:V}(H:Agree h h' v.keys):iF h' v=iF h v:=by
 cases v with
 |v x=>
  cases x with
  |agg cs=>rfl
  |c c=>
   have H:Agree h h' c.keys:=H.sub fun k hk=>by simp[V.keys,V1.keys,V1.cells,hk]
   cases c with
   |ptr k v off=>simp only[iF,at_eq (H k (by simp[Cell.keys]))]
   |elt k v i off=>simp only[iF,dY (H k (by simp[Cell.keys]))]
   |slp d t xs i off=>simp only[iF,mD H]
   |_=>rfl
 |_=>rfl
theorem ze{op:Op}(A:bi st st' op.operands.toList){K:V->Option R}:vop te st' op K=vop te st op K:=by
 unfold vop;split;·rename_i x;rw[A.opdV (by simp[Op.operands])]
 ·rename_i x;rw[A.opdV (by simp[Op.operands])]
 ·rename_i c a b;rw[A.opd (x:=c) (by simp[Op.operands]),A.opd (x:=a) (by simp[Op.operands]),A.opd (x:=b) (by simp[Op.operands])]
 ·rename_i t parts;rw[iM (A.sub fun x hx=>by simpa[Op.operands] using hx)]
 ·rename_i t x;rw[A.opd (by simp[Op.operands])];cases hx:opd st x with
  |none=>rfl
  |some v=>exact Al (A.keys (by simp[Op.operands]) hx)
 ·rename_i t x f;rw[A.opd (by simp[Op.operands])];cases hx:opd st x with
  |none=>rfl
  |some v=>
   have H:=A.keys (by simp[Op.operands]) hx;cases v with
   |agg cs=>rfl
   |c c=>
    rw[dR] at H;cases hf:(te t).bind (·.fields[f]?) with
    |none=>cases c<;>rfl
    |some fd=>
     cases c with
     |ptr k v off=>simp only[at_eq (H k (by simp[Cell.keys]))]
     |elt k v i off=>simp only[dY (H k (by simp[Cell.keys]))]
     |slp d t xs i off=>simp only[mD H]
     |_=>rfl
 ·rename_i t x f;rw[A.opd (by simp[Op.operands])]
 ·rename_i t x i;rw[A.opd (x:=x) (by simp[Op.operands]),A.opd (x:=i) (by simp[Op.operands])];cases hx:opd st x with
  |none=>rfl
  |some v=>
   cases hi:opd st i with
   |none=>rfl
   |some j=>exact sK (A.keys (by simp[Op.operands]) hx)
 ·rename_i t x i;rw[A.opd (x:=x) (by simp[Op.operands]),A.opd (x:=i) (by simp[Op.operands])]
 ·rename_i t x lo hi mx;rw[A.opd (x:=x) (by simp[Op.operands]),mV (x:=lo) (A.sub fun x hx=>by simp only[Option.mem_toList,Option.mem_def] at hx;simp[Op.operands,hx]),mV (x:=hi) (A.sub fun x hx=>by simp only[Option.mem_toList,Option.mem_def] at hx;simp[Op.operands,hx]),
   mV (x:=mx) (A.sub fun x hx=>by simp only[Option.mem_toList,Option.mem_def] at hx;simp[Op.operands,hx])]
  cases hx:opd st x with
  |none=>rfl
  |some v=>
   simp only[ai];split
   ·split
    ·split
     ·exact yU (A.keys (by simp[Op.operands]) hx)
     ·rfl
    ·rfl
   ·rfl
 ·rename_i op t x y _;rw[A.opd (x:=x) (by simp[Op.operands]),A.opd (x:=y) (by simp[Op.operands])]
 ·rename_i op _ x;rw[A.opd (by simp[Op.operands])]
 ·rename_i src dst x;rw[A.opd (by simp[Op.operands])]
 ·rename_i t x;cases x with
  |tmp s=>simp only[A.slot s (by simp[Op.operands])]
  |_=>rfl
 ·rename_i f first captured
  have h1:eX st' captured.toList=eX st captured.toList:=ko (A.sub fun x hx=>by simp only[Op.operands,Array.toList_append,D9];exact .inr hx);have h2:eX st' first.toList=eX st first.toList:=ko (A.sub fun x hx=>by simp only[Op.operands,Array.toList_append,D9];exact .inl hx)
  rw[h1,h2]
 ·rename_i x;rw[A.opdV (by simp[Op.operands])];cases hx:opdV st x with
  |none=>rfl
  |some v=>
   simp only[ai];rw[yF (A.keysV (by simp[Op.operands]) hx)]
 ·rename_i x i;split
  ·rename_i t;rw[A.slot t (by simp[Op.operands])]
  ·rfl
 ·rename_i args argTypes _;split
  ·rename_i x t ha ht;rw[A.opd (x:=x) (by simp[Op.operands,Call.operands,<- Array.mem_toList_iff,ha])];cases hx:opd st x with
   |none=>rfl
   |some v=>
    simp only[ai];exact BX (A.keys (by simp[Op.operands,Call.operands,<- Array.mem_toList_iff,ha]) hx)
  ·rfl
 ·rename_i args _ _;rw[ko (A.sub fun x hx=>by simp[Op.operands,Call.operands];simpa using hx)]
 ·rename_i args _ _;rw[ko (A.sub fun x hx=>by simp[Op.operands,Call.operands];simpa using hx)]
 ·rfl
end
end Rv
namespace Rv
open Go
section
variable{R:Type}{r:R}{st:St}{te:TypeId->Option TI}
def bZ{α:Type}(F:(α->Option R)->Option R)(K:α->Option R)(r:R):Prop:=∃y,K y=some r/\∀K',F K'=K' y
theorem bZ.one{F:(V1->Option R)->Option R}{K:V->Option R}(h:bZ F (one K) r):bZ (fun K=>F (one K)) K r:=by
 obtain⟨y,h1,h2⟩:=h;exact⟨.v y,h1,fun K'=>h2 _⟩
theorem dU{α:Type}{x:Option α}{K:α->Option R}(he:ai x K=some r):bZ (ai x) K r:=by
 obtain⟨a,rfl,h⟩:=ae he;exact⟨a,h,fun _=>rfl⟩
theorem wO{op:BinOp}{k:IntKind}{x y:Int}{K:Cell->Option R}(he:kJ op k x y K=some r):bZ (kJ op k x y) K r:=by
 unfold kJ at he;split at he<;>first
  |exact⟨_,he,fun K'=>rfl⟩
  |(obtain⟨hy,he'⟩:=iT he;exact⟨_,he',fun K'=>by simp only[kJ,if_neg hy]⟩)
  |cases he
theorem wS{op:BinOp}{x y:Str}{K:Cell->Option R}(he:kK op x y K=some r):bZ (kK op x y) K r:=by
 unfold kK at he;split at he<;>first
  |exact⟨_,he,fun K'=>rfl⟩
  |(obtain⟨hy,he'⟩:=aa he;exact⟨_,he',fun K'=>by simp only[kK,if_pos hy]⟩)
  |cases he
theorem rX{op:BinOp}{k:IntKind}{x y:Int}{K:Cell->Option R}(he:shI op k x y K=some r):bZ (shI op k x y) K r:=by
 unfold shI at he;obtain⟨hy,he⟩:=iT he;split at he;·exact⟨_,he,fun K'=>by simp only[shI,if_neg hy]⟩
 ·rename_i hne;refine⟨_,he,fun K'=>?_⟩;unfold shI;rw[if_neg hy];split
  ·exact absurd rfl hne
  ·rfl
theorem zt{isB isI isX:Bool}{ik:TypeId->Option IntKind}{et:Option Ty}{op:BinOp}{k k':IntKind}{x y:Int}{K:V1->Option R}(h1:op≠.shl)(h2:op≠.shr):fO isB isI isX ik et op (.c (.int k x)) (.c (.int k' y)) K=if k=k' then kJ op k x y fun c=>K (.c c) else none:=by
 cases op<;>first|rfl|exact absurd rfl h1|exact absurd rfl h2
theorem zu{isB isI isX:Bool}{ik:TypeId->Option IntKind}{et:Option Ty}{op:BinOp}{x y:Str}{K:V1->Option R}:fO isB isI isX ik et op (.c (.str x)) (.c (.str y)) K=kK op x y fun c=>K (.c c):=by
 cases op<;>rfl
theorem nW{T:Ty}{xs ys:List Cell}{K:Bool->Option R}(he:jq T xs ys K=some r):bZ (jq T xs ys) K r:=by
 unfold jq at he;split at he;·rename_i hx hy;exact⟨_,he,fun K'=>by simp only[jq,hx,hy]⟩
 ·cases he
theorem wQ{isB isI isX:Bool}{ik:TypeId->Option IntKind}{et:Option Ty}{op:BinOp}{a b:V1}{K:V1->Option R}(he:fO isB isI isX ik et op a b K=some r):bZ (fO isB isI isX ik et op a b) K r:=by
 unfold fO at he;split at he;·obtain⟨y,h1,h2⟩:=rX he;exact⟨_,h1,fun K'=>h2 fun c=>K' (.c c)⟩
 ·obtain⟨y,h1,h2⟩:=rX he;exact⟨_,h1,fun K'=>h2 fun c=>K' (.c c)⟩
 ·rename_i k x k' y hn hn';obtain⟨hk,he⟩:=aa he;obtain⟨z,h1,h2⟩:=wO he;have g1:op≠.shl:=fun e=>by simp[e] at hn
  have g2:op≠.shr:=fun e=>by simp[e] at hn'
  refine⟨_,h1,fun K'=>?_⟩;rw[zt g1 g2,if_pos hk];exact h2 fun c=>K' (.c c)
 ·obtain⟨z,h1,h2⟩:=wS he;refine⟨_,h1,fun K'=>?_⟩;rw[zu];exact h2 fun c=>K' (.c c)
 ·obtain⟨hb,he⟩:=aa he;exact⟨_,he,fun K'=>by simp only[fO,if_pos hb]⟩
 ·obtain⟨hb,he⟩:=aa he;exact⟨_,he,fun K'=>by simp only[fO,if_pos hb]⟩
 ·obtain⟨hb,he⟩:=aa he;exact⟨_,he,fun K'=>by simp only[fO,if_pos hb]⟩
 ·obtain⟨hb,he⟩:=aa he;exact⟨_,he,fun K'=>by simp only[fO,if_pos hb]⟩
 ·obtain⟨hb,he⟩:=aa he;exact⟨_,he,fun K'=>by simp only[fO,if_pos hb]⟩
 ·obtain⟨hb,he⟩:=aa he;exact⟨_,he,fun K'=>by simp only[fO,if_pos hb]⟩
 ·obtain⟨hb,he⟩:=aa he;exact⟨_,he,fun K'=>by simp only[fO,if_pos hb]⟩
 ·obtain⟨hb,he⟩:=aa he;exact⟨_,he,fun K'=>by simp only[fO,if_pos hb]⟩
 ·split at he
  ·obtain⟨y,h1,h2⟩:=nW he;exact⟨_,h1,fun K'=>h2 fun b=>K' (.c (.bool b))⟩
  ·cases he
 ·split at he
  ·obtain⟨y,h1,h2⟩:=nW he;exact⟨_,h1,fun K'=>h2 fun b=>K' (.c (.bool !b))⟩
  ·cases he
 ·cases he
theorem zb{op:UnOp}{a:V1}{K:V1->Option R}(he:unK op a K=some r):bZ (unK op a) K r:=by
 unfold unK at he;split at he;·exact⟨_,he,fun K'=>rfl⟩
 ·exact⟨_,he,fun K'=>rfl⟩
 ·exact⟨_,he,fun K'=>rfl⟩
 ·cases he
theorem vH{t:TypeId}{x:V1}{K:V1->Option R}(he:bQ te st t x K=some r):bZ (bQ te st t x) K r:=by
 unfold bQ at he;split at he
 ·rename_i hti;split at he
  ·rename_i hat
   obtain⟨hle,he⟩:=aa he;obtain⟨y,hm,he⟩:=ae he;exact⟨y,he,fun K'=>by simp only[bQ,hti,hat,if_pos hle,hm,ai]⟩
  ·cases he
 ·rename_i hti;split at he
  ·rename_i hat
   obtain⟨hle,he⟩:=aa he;obtain⟨y,hm,he⟩:=ae he;exact⟨y,he,fun K'=>by simp only[bQ,hti,hat,if_pos hle,hm,ai]⟩
  ·rename_i hat
   obtain⟨hle,he⟩:=aa he;obtain⟨y,hm,he⟩:=ae he;exact⟨y,he,fun K'=>by simp only[bQ,hti,hat,if_pos hle,hm,ai]⟩
  ·cases he
 ·rename_i hti;split at he
  ·rename_i hat
   obtain⟨hle,he⟩:=aa he;obtain⟨y,hm,he⟩:=ae he;exact⟨_,he,fun K'=>by simp only[bQ,hti,hat,if_pos hle,hm,ai]⟩
  ·cases he
 ·rename_i hti;obtain⟨hd,he⟩:=aa he;obtain⟨hle,he⟩:=aa he;obtain⟨y,hm,he⟩:=ae he;exact⟨y,he,fun K'=>by simp only[bQ,hti,if_pos hd,if_pos hle,hm,ai]⟩
 ·cases he
theorem vJ{t:TypeId}{x:V1}{K:V->Option R}(he:gJ te st t x K=some r):bZ (gJ te st t x) K r:=by
 unfold gJ at he;split at he
 ·split at he
  ·rename_i hti hat
   obtain⟨h1,he⟩:=aa he;exact⟨_,he,fun K'=>by simp only[gJ,hti,hat,if_pos h1]⟩
  ·cases he
 ·rename_i hne;obtain⟨y,h1,h2⟩:=(vH he).one;refine⟨y,h1,fun K'=>?_⟩;unfold gJ;split
  ·exact absurd rfl (hne _ _ _)
  ·exact h2 K'
theorem oL{es ar:Option Nat}{el:Option (Nat×Nat)}{x i:V1}{K:V1->Option R}(he:aG st es ar el x i K=some r):bZ (aG st es ar el x i) K r:=by
 unfold aG at he;split at he;·obtain⟨h1,he⟩:=aa he;obtain⟨h2,he⟩:=aa he;obtain⟨h3,he⟩:=aa he;exact⟨_,he,fun K'=>by simp only[aG,if_pos h1,if_pos h2,if_pos h3]⟩
 ·split at he
  ·rename_i hl;obtain⟨h2,he⟩:=aa he;obtain⟨h3,he⟩:=aa he;exact⟨_,he,fun K'=>by simp only[aG,hl,if_pos h2,if_pos h3]⟩
  ·cases he
 ·split at he
  ·rename_i hl;obtain⟨h2,he⟩:=aa he;obtain⟨h3,he⟩:=aa he;exact⟨_,he,fun K'=>by simp only[aG,hl,if_pos h2,if_pos h3]⟩
  ·cases he
 ·rename_i k v fs ik i;obtain⟨h1,he⟩:=aa he;split at he
  ·rename_i hat
   obtain⟨m,f,_,_,h3,h4⟩:=mX he;exact⟨_,h3,fun K'=>by simp only[aG,if_pos h1,hat];exact h4 _⟩
  ·cases he
 ·split at he
  ·rename_i har hat
   obtain⟨h3,he⟩:=aa he;exact⟨_,he,fun K'=>by simp only[aG,hat,if_pos h3]⟩
  ·rename_i hat
   split at he;·obtain⟨m,_,_,_,h3,h4⟩:=lD he;exact⟨_,h3,fun K'=>by simp only[aG,hat];exact h4 _⟩
   ·cases he
  ·cases he
 ·cases he
theorem uq{str:Bool}{ar:Option Nat}{x i:V1}{K:V1->Option R}(he:iE str ar x i K=some r):bZ (iE str ar x i) K r:=by
 unfold iE at he;split at he;·obtain⟨h2,he⟩:=aa he;obtain⟨h3,he⟩:=aa he;exact⟨_,he,fun K'=>by simp only[iE,if_pos h2,if_pos h3]⟩
 ·split at he
  ·obtain⟨h2,he⟩:=aa he;obtain⟨h3,he⟩:=aa he;obtain⟨c,hm,he⟩:=ae he;exact⟨_,he,fun K'=>by simp only[iE,if_pos h2,if_pos h3,hm,ai]⟩
  ·cases he
 ·cases he
theorem xn{str:Bool}{es:Option Nat}{x:V1}{K:Nat->Option R}(he:dS st str es x K=some r):bZ (dS st str es x) K r:=by
 unfold dS at he;split at he;·obtain⟨h1,he⟩:=aa he;exact⟨_,he,fun K'=>by simp only[dS,if_pos h1]⟩
 ·obtain⟨h1,he⟩:=aa he;obtain⟨h2,he⟩:=aa he;exact⟨_,he,fun K'=>by simp only[dS,if_pos h1,if_pos h2]⟩
 ·obtain⟨h1,he⟩:=aa he;exact⟨_,he,fun K'=>by simp only[dS,if_pos h1]⟩
 ·obtain⟨h1,he⟩:=aa he;obtain⟨h2,he⟩:=aa he;exact⟨_,he,fun K'=>by simp only[dS,if_pos h1,if_pos h2]⟩
 ·split at he
  ·rename_i hat
   obtain⟨h1,he⟩:=aa he;exact⟨_,he,fun K'=>by simp only[dS,hat,if_pos h1]⟩
  ·cases he
 ·split at he
  ·rename_i hl;obtain⟨h1,he⟩:=aa he;exact⟨_,he,fun K'=>by simp only[dS,hl,if_pos h1]⟩
  ·cases he
 ·split at he
  ·rename_i hl;obtain⟨h1,he⟩:=aa he;exact⟨_,he,fun K'=>by simp only[dS,hl,if_pos h1]⟩
  ·cases he
 ·cases he
def mP(lo:Option V1)(h:Int)(K:Nat->Nat->Option R):Option R:=
 match lo with
 |none=>K 0 h.toNat
 |some (.c (.int _ l))=>if 0<=l/\l<=h then K l.toNat h.toNat else none
 |some _=>none
theorem lh{lo:Option V1}{h:Int}{K:Nat->Nat->Option R}(he:mP lo h K=some r):∃l,K l h.toNat=some r/\∀K':Nat->Nat->Option R,mP lo h K'=K' l h.toNat:=by
 unfold mP at he;split at he;·exact⟨0,he,fun K'=>rfl⟩
 ·rename_i l;obtain⟨h1,he⟩:=aa he;exact⟨_,he,fun K'=>by simp only[mP,if_pos h1]⟩
 ·cases he
theorem bv{n:Nat}{lo hi mx:Option V1}{K:Nat->Nat->Option R}(he:dM n lo hi mx K=some r):∃l h,K l h=some r/\∀K':Nat->Nat->Option R,dM n lo hi mx K'=K' l h:=by
 cases mx with
 |none=>
  cases hi with
  |none=>
   obtain⟨l,h1,h2⟩:=lh (lo:=lo) (h:=(n:Int)) he;exact⟨l,_,h1,fun K'=>h2 K'⟩
  |some v=>
   cases v with
   |agg cs=>cases he
   |c c=>
    cases c with
    |int k h=>
     have he1:(if 0<=h/\h<=(n:Int) then mP lo h K else none)=some r:=he;obtain⟨h0,he2⟩:=aa he1;obtain⟨l,h1,h2⟩:=lh he2;refine⟨l,_,h1,fun K'=>?_⟩;show(if 0<=h/\h<=(n:Int) then mP lo h K' else none)=_;rw[if_pos h0];exact h2 K'
    |_=>cases he
 |some m=>
  cases m with
  |agg cs=>cases he
  |c c=>
   cases c with
   |int mk m=>
    cases hi with
    |none=>
     have he1:(if 0<=m/\m<=(n:Int) then none else none)=some r:=he;split at he1<;>cases he1
    |some v=>
     cases v with
     |agg cs=>
      have he1:(if 0<=m/\m<=(n:Int) then none else none)=some r:=he;split at he1<;>cases he1
     |c c=>
      cases c with
      |int k h=>
       have he1:(if 0<=m/\m<=(n:Int) then(if 0<=h/\h<=m then mP lo h K else none) else none)=some r:=he;obtain⟨hm,he2⟩:=aa he1;obtain⟨h0,he3⟩:=aa he2;obtain⟨l,h1,h2⟩:=lh he3;refine⟨l,_,h1,fun K'=>?_⟩;show(if 0<=m/\m<=(n:Int) then(if 0<=h/\h<=m then mP lo h K' else none) else none)=_;rw[if_pos hm,if_pos h0];exact h2 K'
      |_=>
       have he1:(if 0<=m/\m<=(n:Int) then none else none)=some r:=he;split at he1<;>cases he1
   |_=>cases he
theorem nD{str:Bool}{es:Option Nat}{x:V1}{lo hi mx:Option V1}{K:V1->Option R}(he:aK st str es x lo hi mx K=some r):bZ (aK st str es x lo hi mx) K r:=by
 cases x with
 |agg cs=>cases he
 |c c=>
  cases c with
  |str s=>
   cases mx with
   |some m=>cases he
   |none=>
    simp only[aK] at he;obtain⟨h1,he⟩:=aa he;obtain⟨l,h,h2,h3⟩:=bv he;exact⟨_,h2,fun K'=>by simp only[aK,if_pos h1];exact h3 _⟩
  |nilS=>
   simp only[aK] at he;obtain⟨h1,he⟩:=aa he;obtain⟨l,h,h2,h3⟩:=bv he;exact⟨_,h2,fun K'=>by simp only[aK,if_pos h1];exact h3 _⟩
  |sl d t xs=>
   simp only[aK] at he;obtain⟨h0,he⟩:=aa he;obtain⟨h1,he⟩:=aa he;obtain⟨l,h,h2,h3⟩:=bv he;exact⟨_,h2,fun K'=>by simp only[aK,if_pos h0,if_pos h1];exact h3 _⟩
  |own k v=>
   cases hl:rowLen st.h k v with
   |none=>simp only[aK,hl] at he;cases he
   |some tn=>
    obtain⟨t,n⟩:=tn;cases lo with
    |none=>
     cases mx with
     |none=>
      simp only[aK,hl] at he;obtain⟨h1,he⟩:=aa he;obtain⟨l,h,h2,h3⟩:=bv he;exact⟨_,h2,fun K'=>by simp only[aK,hl,if_pos h1];exact h3 _⟩
     |some m=>
      simp only[aK,hl] at he;obtain⟨h1,he⟩:=aa he;obtain⟨rw,h0,he⟩:=ae he;obtain⟨l,h,h2,h3⟩:=bv he;exact⟨_,h2,fun K'=>by simp only[aK,hl,if_pos h1,h0,ai];exact h3 _⟩
    |some lv=>
     simp only[aK,hl] at he;obtain⟨h1,he⟩:=aa he;obtain⟨rw,h0,he⟩:=ae he;obtain⟨l,h,h2,h3⟩:=bv he;exact⟨_,h2,fun K'=>by simp only[aK,hl,if_pos h1,h0,ai];exact h3 _⟩
  |ownP k v m0=>
   cases hl:rowLen st.h k v with
   |none=>simp only[aK,hl] at he;cases he
   |some tn=>
    obtain⟨t,n⟩:=tn;cases lo with
    |none=>
     cases mx with
     |none=>
      simp only[aK,hl] at he;obtain⟨h1,he⟩:=aa he;obtain⟨l,h,h2,h3⟩:=bv he;exact⟨_,h2,fun K'=>by simp only[aK,hl,if_pos h1];exact h3 _⟩
     |some m=>
      simp only[aK,hl] at he;obtain⟨h1,he⟩:=aa he;obtain⟨rw,h0,he⟩:=ae he;obtain⟨l,h,h2,h3⟩:=bv he;exact⟨_,h2,fun K'=>by simp only[aK,hl,if_pos h1,h0,ai];exact h3 _⟩
    |some lv=>
     simp only[aK,hl] at he;obtain⟨h1,he⟩:=aa he;obtain⟨rw,h0,he⟩:=ae he;obtain⟨l,h,h2,h3⟩:=bv he;exact⟨_,h2,fun K'=>by simp only[aK,hl,if_pos h1,h0,ai];exact h3 _⟩
  |_=>cases he
theorem uV{t:TypeId}{x v:V1}{K:List (Nat×En)->Option R}(he:dn te st t x v K=some r):bZ (dn te st t x v) K r:=by
 unfold dn at he;split at he
 ·rename_i hti;split at he
  ·rename_i hat
   obtain⟨h1,he⟩:=aa he;obtain⟨h2,he⟩:=aa he;exact⟨_,he,fun K'=>by simp only[dn,hti,hat,if_pos h1,if_pos h2]⟩
  ·cases he
 ·rename_i hti;split at he
  ·rename_i hat
   obtain⟨h1,he⟩:=aa he;obtain⟨h2,he⟩:=aa he;split at he;·rename_i hns;exact⟨_,he,fun K'=>by simp only[dn,hti,hat,if_pos h1,if_pos h2,hns]⟩
   ·cases he
  ·cases he
 ·rename_i hti;split at he
  ·rename_i hat
   obtain⟨h1,he⟩:=aa he;obtain⟨h2,he⟩:=aa he;obtain⟨y,h3,he⟩:=ae he;exact⟨_,he,fun K'=>by simp only[dn,hti,hat,if_pos h1,if_pos h2,h3,ai]⟩
  ·cases he
 ·cases he
theorem sw{d:Option Nat}{sT:TypeId}{s x:V1}{K:Dl->Option R}(he:eP te st d sT s x K=some r):∃y,K y=some r/\(∀K':Dl->Option R,eP te st d sT s x K'=K' y)/\dk d∈y.up.map (·.1):=by
 unfold eP at he;split at he;·cases he
 ·rename_i e he0;split at he
  ·cases he
  ·rename_i ti hti;split at he
   ·cases he
   ·rename_i t ht;split at he
    ·rename_i xs k ys hb hm;obtain⟨h1,he⟩:=aa he;exact⟨_,he,fun K'=>by simp only[eP,he0,hti,ht,hb,hm,if_pos h1],by simp⟩
    ·cases he
theorem uT{str:Bool}{es:Option Nat}{x:V1}{lo hi mx:Option V1}{K:V1->Option R}(he:eH st str es x lo hi mx K=some r):bZ (eH st str es x lo hi mx) K r:=by
 unfold eH at he;split at he
 ·split at he
  ·rename_i hrr;obtain⟨h1,he⟩:=aa he;exact⟨_,he,fun K'=>by simp only[eH,hrr,if_pos h1]⟩
  ·rename_i hrr;obtain⟨y,h1,h2⟩:=nD he;exact⟨y,h1,fun K'=>by simp only[eH,hrr];exact h2 K'⟩
 ·rename_i hne;obtain⟨y,h1,h2⟩:=nD he;refine⟨y,h1,fun K'=>?_⟩;unfold eH;split
  ·exact absurd rfl (hne _ _ _ _ _ rfl rfl rfl)
  ·exact h2 K'
theorem sD{d:Option Nat}{sT:TypeId}{s x:V1}{K:Dl->Option R}(he:dK te st d sT s x K=some r):∃y,K y=some r/\(∀K':Dl->Option R,dK te st d sT s x K'=K' y)/\dk d∈y.up.map (·.1):=by
 unfold dK at he;split at he
 ·split at he
  ·cases he
  ·rename_i e he0;split at he
   ·cases he
   ·rename_i ti hti;split at he
    ·cases he
    ·rename_i t ht;split at he
     ·rename_i xs ys hb hm;obtain⟨h1,he⟩:=aa he;obtain⟨h2,he⟩:=aa he;exact⟨_,he,fun K'=>by simp only[dK,he0,hti,ht,hb,hm,if_pos h1,if_pos h2],by simp⟩
     ·cases he
 ·rename_i hne;obtain⟨y,h1,h2,h3⟩:=sw he;refine⟨y,h1,fun K'=>?_,h3⟩;unfold dK;split
  ·exact absurd rfl (hne _ _ _)
  ·exact h2 K'
theorem sj{op:Op}{K:V->Option R}(he:vop te st op K=some r):bZ (vop te st op) K r:=by
 unfold vop at he;split at he;·exact dU he
 ·exact dU he
 ·rename_i c a b;split at he
  ·rename_i t hc;split at he
   ·rename_i ht;obtain⟨y,h1,h2⟩:=dU he |>.one;exact⟨y,h1,fun K'=>by simp only[vop,hc,if_pos ht];exact h2 K'⟩
   ·rename_i ht;obtain⟨y,h1,h2⟩:=dU he |>.one;exact⟨y,h1,fun K'=>by simp only[vop,hc,if_neg ht];exact h2 K'⟩
  ·cases he
 ·split at he
  ·rename_i hti hp;split at he
   ·rename_i har;obtain⟨cs,h1,he⟩:=ae he;exact⟨_,he,fun K'=>by simp only[vop,hti,hp,har,h1,ai]⟩
   rename_i har;obtain⟨h0,he⟩:=iT he;obtain⟨cs,h1,he⟩:=ae he;exact⟨_,he,fun K'=>by simp only[vop,hti,hp,har,if_neg h0,h1,ai]⟩
  ·cases he
 ·obtain⟨v,hv,he⟩:=ae he;obtain⟨y,h1,h2⟩:=vJ he;exact⟨y,h1,fun K'=>by simp only[vop,hv,ai];exact h2 K'⟩
 ·split at he
  ·rename_i hx hf;split at he
   ·rename_i hat
    exact⟨_,he,fun K'=>by simp only[vop,hx,hf,hat]⟩
   ·cases he
  ·rename_i hx hf;split at he
   ·rename_i hat
    exact⟨_,he,fun K'=>by simp only[vop,hx,hf,hat]⟩
   ·cases he
  ·rename_i hx hf;obtain⟨h1,he⟩:=aa he;exact⟨_,he,fun K'=>by simp only[vop,hx,hf,if_pos h1]⟩
  ·cases he
 ·split at he
  ·rename_i hx hf;obtain⟨h1,he⟩:=aa he;obtain⟨y,h2,h3⟩:=(dU he).one;exact⟨y,h2,fun K'=>by simp only[vop,hx,hf,if_pos h1];exact h3 K'⟩
  ·cases he
 ·obtain⟨x,hx,he⟩:=ae he;obtain⟨i,hi,he⟩:=ae he;obtain⟨y,h1,h2⟩:=(oL he).one;exact⟨y,h1,fun K'=>by simp only[vop,hx,hi,ai];exact h2 K'⟩
 ·obtain⟨x,hx,he⟩:=ae he;obtain⟨i,hi,he⟩:=ae he;obtain⟨y,h1,h2⟩:=(uq he).one;exact⟨y,h1,fun K'=>by simp only[vop,hx,hi,ai];exact h2 K'⟩
 ·obtain⟨x,hx,he⟩:=ae he;obtain⟨lo,hlo,he⟩:=ae he;obtain⟨hi,hhi,he⟩:=ae he;obtain⟨mx,hmx,he⟩:=ae he;obtain⟨y,h1,h2⟩:=(uT he).one;exact⟨y,h1,fun K'=>by simp only[vop,hx,hlo,hhi,hmx,ai];exact h2 K'⟩
 ·obtain⟨x,hx,he⟩:=ae he;obtain⟨i,hi,he⟩:=ae he;obtain⟨y,h1,h2⟩:=(wQ he).one;exact⟨y,h1,fun K'=>by simp only[vop,hx,hi,ai];exact h2 K'⟩
 ·obtain⟨x,hx,he⟩:=ae he;obtain⟨y,h1,h2⟩:=(zb he).one;exact⟨y,h1,fun K'=>by simp only[vop,hx,ai];exact h2 K'⟩
 ·split at he
  ·rename_i hx hti;split at he
   ·rename_i hk;obtain⟨h1,he⟩:=aa he;exact⟨_,he,fun K'=>by simp only[vop,hx,hti,hk,if_pos h1]⟩
   ·cases he
  ·cases he
 ·rename_i t x;split at he
  ·rename_i ti hti;split at he
   ·cases he
   ·rename_i hni;split at he
    ·rename_i hs;exact⟨_,he,fun K'=>by simp only[vop,hti,if_neg hni,hs]⟩
    ·rename_i u hn hs;refine⟨_,he,fun K'=>?_⟩;simp only[vop,hti,if_neg hni,hs]
    ·cases he
  ·cases he
 ·obtain⟨h0,he⟩:=aa he;split at he
  ·rename_i h1;obtain⟨vs,h2,he⟩:=ae he;obtain⟨cs,h3,he⟩:=ae he;exact⟨_,he,fun K'=>by simp only[vop,if_pos h0,if_pos h1,h2,h3,ai]⟩
  ·rename_i hn;obtain⟨h1,he⟩:=aa he;obtain⟨vs,h2,he⟩:=ae he;obtain⟨cs,h3,he⟩:=ae he;exact⟨_,he,fun K'=>by simp only[vop,if_pos h0,if_neg hn,if_pos h1,h2,h3,ai]⟩
 ·obtain⟨v,hv,he⟩:=ae he;obtain⟨hn,he⟩:=aa he;exact⟨_,he,fun K'=>by simp only[vop,hv,ai,if_pos hn]⟩
 ·split at he
  ·split at he
   ·rename_i hs;obtain⟨y,h1,h2⟩:=(dU he).one;exact⟨y,h1,fun K'=>by simp only[vop,hs];exact h2 K'⟩
   ·cases he
  ·cases he
 ·split at he
  ·rename_i ha ht;obtain⟨x,hx,he⟩:=ae he;obtain⟨n,h1,h2⟩:=xn he;exact⟨_,h1,fun K'=>by simp only[vop,ha,ht,hx,ai];exact h2 _⟩
  ·cases he
 ·split at he
  ·rename_i ha;obtain⟨n,hn,he⟩:=ae he;exact⟨_,he,fun K'=>by simp only[vop,ha,hn,ai]⟩
  ·cases he
 ·split at he
  ·rename_i ha;obtain⟨n,hn,he⟩:=ae he;exact⟨_,he,fun K'=>by simp only[vop,ha,hn,ai]⟩
  ·cases he
 ·cases he
end
end Rv
namespace Rv
open Go
section
variable{R:Type}{r:R}{st st':St}{te:TypeId->Option TI}{h h':Heap}
theorem kR{k v dv:Nat}(hd:h.depOk (some (k,v,dv))=true):∃e,h k=some e:=by
 simp only[Heap.depOk] at hd;split at hd;·exact⟨_,by assumption⟩
 ·cases hd
theorem oD{k v:Nat}{b:Box}(ha:h.at k v=some b):∃e,h k=some e:=by
 obtain⟨e,he,_⟩:=ay ha;exact⟨e,he⟩
theorem BC{bm:List Nat}{cd:CD}{c:Cell}{y:cd.T}{m:Met}(ha:cd.abs h bm c=some (y,m)):∀k,k∈m.deps->k∈c.keys/\∃e,h k=some e:=by
 intro k hk;cases cd with
 |sl t=>
  cases c with
  |nilS=>simp only[CD.abs,DL,DT] at ha;rw[<- ha.2] at hk;simp at hk
  |sl d t' xs=>
   simp only[CD.abs] at ha;obtain⟨hd,ha⟩:=aa ha;split at ha
   ·simp only[DL,DT] at ha;rw[<- ha.2] at hk;cases d with
    |none=>simp at hk
    |some x=>
     obtain⟨a,b,c⟩:=x;have hk:k=a:=by simpa using hk
     subst hk;exact⟨by simp[Cell.keys],kR hd⟩
   ·cases ha
  |slc d t' xs=>
   simp only[CD.abs] at ha;obtain⟨hd,ha⟩:=aa ha;split at ha
   ·simp only[DL,DT] at ha;rw[<- ha.2] at hk;cases d with
    |none=>simp at hk
    |some x=>
     obtain⟨a,b,c⟩:=x;have hk:k=a:=by simpa using hk
     subst hk;exact⟨by simp[Cell.keys],kR hd⟩
   ·cases ha
  |own k' v=>
   simp only[CD.abs] at ha;split at ha
   ·rename_i hat
    split at ha
    ·simp only[DL,DT] at ha;rw[<- ha.2] at hk;have hk:k=k':=by simpa using hk
     subst hk;exact⟨by simp[Cell.keys],oD hat⟩
    ·cases ha
   ·cases ha
  |ownP k' v n=>
   simp only[CD.abs] at ha;split at ha
   ·rename_i hat
    split at ha
    ·simp only[DL,DT] at ha;rw[<- ha.2] at hk;have hk:k=k':=by simpa using hk
     subst hk;exact⟨by simp[Cell.keys],oD hat⟩
    ·cases ha
   ·cases ha
  |_=>cases ha
 |row e t=>
  cases c with
  |nilS=>simp only[CD.abs,DL,DT] at ha;rw[<- ha.2] at hk;simp at hk
  |own k' v=>
   simp only[CD.abs] at ha;split at ha
   ·obtain⟨_,ha⟩:=aa ha;split at ha
    ·simp only[DL,DT] at ha;rw[<- ha.2] at hk;simp at hk
    ·cases ha
   ·cases ha
  |ownP k' v n=>
   simp only[CD.abs] at ha;split at ha
   ·obtain⟨_,ha⟩:=aa ha;split at ha
    ·simp only[DL,DT] at ha;rw[<- ha.2] at hk;simp at hk
    ·cases ha
   ·cases ha
  |_=>cases ha
 |ptr i off=>
  cases c with
  |ptr k' v o=>
   simp only[CD.abs] at ha;obtain⟨_,ha⟩:=aa ha;obtain⟨_,ha⟩:=aa ha;split at ha;·have:=(Prod.mk.inj (DN ha)).2;rw[<- this] at hk;simp at hk
   ·cases ha
  |_=>cases ha
 |slc t=>
  cases c with
  |slc d t' xs=>
   simp only[CD.abs] at ha;obtain⟨hd,ha⟩:=aa ha;split at ha
   ·simp only[DL,DT] at ha;rw[<- ha.2] at hk;cases d with
    |none=>simp at hk
    |some x=>
     obtain⟨a,b,c⟩:=x;have hk:k=a:=by simpa using hk
     subst hk;exact⟨by simp[Cell.keys],kR hd⟩
   ·cases ha
  |_=>cases ha
 |clr i fs=>
  cases c with
  |clr k' v gs=>
   simp only[CD.abs] at ha;obtain⟨_,ha⟩:=aa ha;obtain⟨_,ha⟩:=aa ha;split at ha;·have:=(Prod.mk.inj (DN ha)).2;rw[<- this] at hk;simp at hk
   ·cases ha
  |_=>cases ha
 |pp t=>
  cases c with
  |slp d t' xs i off=>cases d with
   |none=>
    simp only[CD.abs] at ha;obtain⟨_,ha⟩:=aa ha;split at ha
    ·split at ha
     ·have:=(Prod.mk.inj (DN ha)).2;rw[<- this] at hk;simp at hk
     ·cases ha
    ·cases ha
   |some x=>cases ha
  |ptr k' v off=>
   simp only[CD.abs] at ha;split at ha
   ·rename_i hat
    obtain⟨_,ha⟩:=aa ha;split at ha
    ·simp only[DL,DT] at ha;rw[<- ha.2] at hk;have hk:k=k':=by simpa using hk
     subst hk;exact⟨by simp[Cell.keys],oD hat⟩
    ·cases ha
   ·cases ha
  |_=>cases ha
 |any=>
  have:some ((),(⟨[],[]⟩:Met))=some (y,m):=by cases c<;>exact ha
  have:=(Prod.mk.inj (DN this)).2;rw[<- this] at hk;simp at hk
 |_=>
  exfalso;cases c<;>first
   |(cases ha;done)
   |(
    simp only[CD.abs] at ha;obtain⟨_,ha⟩:=aa ha;have:=(Prod.mk.inj (DN ha)).2;rw[<- this] at hk;simp at hk;done)
   |(
    have:=(Prod.mk.inj (DN ha)).2;rw[<- this] at hk;simp at hk;done)
theorem qY{bm:List Nat}:∀{l:List CD}{cs:List Cell}{x:TL l}{m:Met},dB h bm l cs=some (x,m)->∀k,k∈m.deps->(∃c,c∈cs/\k∈c.keys)/\∃e,h k=some e
 |[],[],x,m,ha,k,hk=>by
  have:=(Prod.mk.inj (DN ha)).2;rw[<- this] at hk;simp at hk
 |[],_::_,_,_,ha,_,_=>by cases ha
 |_::_,[],_,_,ha,_,_=>by cases ha
 |cd::l,c::cs,x,m,ha,k,hk=>by
  simp only[dB] at ha;split at ha
  ·rename_i y m1 h1;split at ha
   ·rename_i ys m2 h2;simp only[DL,DT] at ha;rw[<- ha.2] at hk;simp only[D9] at hk;rcases hk with hk|hk
    ·obtain⟨g1,g2⟩:=BC h1 k hk;exact⟨⟨c,by simp,g1⟩,g2⟩
    ·obtain⟨⟨c',hc,hk'⟩,g2⟩:=qY h2 k hk;exact⟨⟨c',by simp[hc],hk'⟩,g2⟩
   ·cases ha
  ·cases ha
theorem xI{sh:Shape}{l:List V}{a:Abs sh.T}(ha:sh.abs ⟨l,h⟩=some a):∀k,k∈a.m.deps->(∃e,h k=some e)/\(a.bm=[]->∃v,v∈l/\k∈v.keys):=by
 intro k hk;unfold Shape.abs at ha;split at ha
 ·rename_i cs hg;split at ha
  ·rename_i all bm hgb;split at ha
   ·rename_i x m hm;obtain⟨_,ha⟩:=aa ha;simp only[DL] at ha;subst ha;obtain⟨⟨c,hc,hkc⟩,he⟩:=qY hm k hk;refine⟨he,fun hb=>?_⟩;have hl:=(eT hgb).2;simp only at hb;rw[hb] at hl;have hbx:sh.boxes=[]:=by
     simp only[Er,Nat.zero_add] at hl;exact List.length_eq_zero_iff.1 hl.symm
    rw[hbx] at hgb;simp only[aS,DL,DT] at hgb;rw[<- hgb.1] at hc;obtain⟨v,hv,hkv⟩:=ig hg c hc;exact⟨v,hv,hkv k hkc⟩
   ·cases ha
  ·cases ha
 ·cases ha
theorem rQ:∀{l:List Operand}{vs:List V},fe st l=some vs->∀v,v∈vs->∃x,x∈l/\opdV st x=some v
 |[],vs,he,v,hv=>by
  simp only[fe,DL] at he;subst he;simp at hv
 |x::l,vs,he,v,hv=>by
  simp only[fe] at he;split at he
  ·rename_i u hu;split at he
   ·rename_i l' hl;simp only[DL] at he;subst he;rcases D8.1 hv with rfl|hv
    ·exact⟨x,by simp,hu⟩
    ·obtain⟨y,hy,hv'⟩:=rQ hl v hv;exact⟨y,by simp[hy],hv'⟩
   ·cases he
  ·cases he
theorem yC{nm nm':Nm}:∀{l:List CD}{y:TL l}{m:Nat},(∀i c,c∈l->c.boxN=some i->nm' i=nm i)->(∀i,m<=i->i<(mkL nm l y m).2.2->nm' i=nm i)->mkL nm' l y m=mkL nm l y m
 |[],_,_,_,_=>rfl
 |c::l,y,m,hp,hi=>by
  have hm:∀(nm:Nm),m<=(c.mk nm y.1 m).2.2:=fun nm=>by cases c<;>simp[CD.mk]
  have hmm:∀(l:List CD) (y:TL l) (m:Nat),m<=(mkL nm l y m).2.2:=fun l y m=>by rw[(bM nm l y m).1];omega
  have hc:c.mk nm' y.1 m=c.mk nm y.1 m:=by
   cases c with
   |row e t=>
    have:=hi m (DU _) (by have:=hmm l y.2 (m+1);simp only[mkL,CD.mk];omega);simp only[CD.mk,this]
   |ptr i off=>simp only[CD.mk,hp i (.ptr i off) (by simp) rfl]
   |clr i fs=>simp only[CD.mk,hp i (.clr i fs) (by simp) rfl]
   |_=>rfl
  simp only[mkL,hc];rw[yC (l:=l) (y:=y.2) (fun i c hm e=>hp i c (by simp[hm]) e) fun i h1 h2=>hi i (by have:=hm nm;omega) h2]
theorem oo{nm nm':Nm}:∀{bl:List (Option Nat×List CD)}{i:Nat}{cs:List Cell},(∀j,i<=j->j<i+bl.length->nm' j=nm j)->aH nm' i bl cs=aH nm i bl cs
 |[],_,_,_=>rfl
 |(p,ds)::bl,i,cs,H=>by
  simp only[aH];rw[H i (DU _) (by simp),oo fun j h1 h2=>H j (by omega) (by simp;omega)]
theorem jA:∀{ks:List Nat},Agree h h' ks->bn h' ks=bn h ks
 |[],_=>rfl
 |k::ks,H=>by
  unfold bn;simp only[List.filterMap_cons,H k (by simp)];have:=jA (ks:=ks) (H.sub fun k hk=>by simp[hk]);unfold bn at this;rw[this]
theorem rH:∀{ks:List Nat},Agree h h' ks->jb h' ks=jb h ks
 |[],_=>rfl
 |k::ks,H=>by
  unfold jb;simp only[List.filterMap_cons,H k (by simp)];have:=rH (ks:=ks) (H.sub fun k hk=>by simp[hk]);unfold jb at this;rw[this]
theorem rE:∀{ks:List Nat},Agree h h' ks->eD h' ks=eD h ks
 |[],_=>rfl
 |k::ks,H=>by
  unfold eD;simp only[Ea,fH (H k (by simp))];have:=rE (ks:=ks) (H.sub fun k hk=>by simp[hk]);unfold eD at this;rw[this]
theorem vG{d:Nat}{sp:Spec}{a:Abs sp.a.T}{y:sp.r.T}(hnb:sp.r.boxes.length=a.bm.length):(∀k,k∈a.keys->k∈(eU st d sp a y).up.map (·.1))/\(∀k,k∈aI d sp.r->k∈(eU st d sp a y).up.map (·.1)) /\
  (a.keys≠[]->∀k,k∈a.m.deps->(∃e,st.h k=some e)->k∈(eU st d sp a y).up.map (·.1)):=by
 unfold eU;simp only[Eu,D9];refine⟨fun k hk=>?_,fun k hk=>?_,fun hne k hk he=>?_⟩
 ·rcases D9.1 hk with hk|hk
  ·right;right;right;left;show k∈(aH (nmI st.h d a.bm) 0 sp.r.boxes _).map (·.1);rw[eF];obtain⟨i,hi⟩:=List.mem_iff_getElem?.1 hk;have hlt:=(DY.1 hi).1;refine Eb.2 ⟨i,by simp;omega,?_⟩;simp only[Nat.zero_add,nmI,hi]
  ·right;right;left;exact Eb.2 ⟨_,Eb.2 ⟨k,hk,rfl⟩,rfl⟩
 ·right;right;right;right;show k∈(mkL (nmI st.h d a.bm) sp.r.all y sp.r.boxes.length).2.1.map (·.1);rw[(bM _ _ _ _).2.1];obtain⟨j,hj,rfl⟩:=Eb.1 hk;refine Eb.2 ⟨j,hj,?_⟩;simp only[nmI,List.getElem?_eq_none (show a.bm.length<=sp.r.boxes.length+j by omega),nmP]
 ·left;rw[if_neg (by simpa using hne)];obtain⟨e,he⟩:=he;exact Eb.2 ⟨(k,e),List.mem_filterMap.2 ⟨k,hk,by rw[he];rfl⟩,rfl⟩
theorem xg{d:Nat}{sp:Spec}{a:Abs sp.a.T}{y:sp.r.T}(hpl:sp.r.okRes a.bm.length=true)(hd:Agree st.h st'.h a.m.deps)(hk:Agree st.h st'.h a.keys)(hn:Agree st.h st'.h (aI d sp.r)):eU st' d sp a y=eU st d sp a y:=by
 unfold Shape.okRes at hpl;simp only[DW,D6] at hpl;obtain⟨⟨⟨⟨hnb,hpin⟩,hidx⟩,hptr⟩,hisv⟩:=hpl;have nB:∀i,i<a.bm.length->nmI st'.h d a.bm i=nmI st.h d a.bm i:=fun i hi=>by
  simp only[nmI,Ef hi];rw[hk a.bm[i] (List.mem_append_left _ (EI hi))]
 have nR:∀i,a.bm.length<=i->i<a.bm.length+(sp.r.all.filter CD.isRow).length->nmI st'.h d a.bm i=nmI st.h d a.bm i:=fun i h1 h2=>by
  simp only[nmI,List.getElem?_eq_none h1,nmP];rw[fH (hn (16*d+i) (Eb.2 ⟨i-sp.r.boxes.length,by simp;omega,by omega⟩))]
 have hml:mkL (nmI st'.h d a.bm) sp.r.all y sp.r.boxes.length=mkL (nmI st.h d a.bm) sp.r.all y sp.r.boxes.length:=by
  refine yC (fun i c hm hcb=>nB i ?_) fun i h1 h2=>nR i (by omega) ?_
  ·have:=CD.ptrB_lt hcb (El.1 hptr _ hm);simpa using this
  ·rw[(bM _ _ _ _).1] at h2;omega
 have hma:sp.r.mkAll (nmI st'.h d a.bm) sp.r.slots.length y=sp.r.mkAll (nmI st.h d a.bm) sp.r.slots.length y:=by
  have hpb:∀cs,aH (nmI st'.h d a.bm) 0 sp.r.boxes cs=aH (nmI st.h d a.bm) 0 sp.r.boxes cs:=fun cs=>oo fun j _ hj=>nB j (by omega)
  unfold Shape.mkAll;rw[hml];simp only[hpb]
 unfold eU;rw[hma,jA hd,rH hd,rE (hk.sub fun k hk=>List.mem_append_right _ hk)]
theorem qa{c:Cell}(H:Agree h h' c.keys):dV h' c=dV h c:=by
 cases c with
 |own k v=>simp only[dV,at_eq (H k (by simp[Cell.keys]))]
 |ownP k v n=>simp only[dV,at_eq (H k (by simp[Cell.keys]))]
 |_=>rfl
theorem yH{c:Cell}:∀k,k∈c.ownK->k∈c.keys:=by
 intro k hk;cases c<;>first|(simp[Cell.ownK] at hk;done)|(simpa[Cell.ownK,Cell.keys] using hk)
theorem pY{x:V1}:∀k,k∈x.ownKs->k∈x.keys:=by
 intro k hk;obtain⟨c,hc,hk⟩:=List.mem_flatMap.1 hk;exact List.mem_flatMap.2 ⟨c,hc,yH k hk⟩
theorem uG{x:V1}(H:Agree h h' x.keys):x.pub h'=x.pub h:=by
 cases x with
 |c c=>simp only[V1.pub,qa (H.sub fun k hk=>by simpa[V1.keys,V1.cells] using hk)]
 |agg cs=>
  simp only[V1.pub];congr 1;exact List.map_congr_left fun c hc=>qa (H.sub fun k hk=>List.mem_flatMap.2 ⟨c,hc,hk⟩)
theorem yI{x v:V1}(H:Agree h h' v.keys):kr h' x v=kr h x v/\bn h' (iA x v)=bn h (iA x v):=by
 unfold kr iA;split;·exact⟨uG H,jA (H.sub pY)⟩
 ·exact⟨rfl,rfl⟩
theorem vP{ps:List (Nat×V1)}(H:Agree h h' (ps.flatMap fun p=>p.2.keys)):(ps.map fun p=>(p.1,p.2.pub h'))=(ps.map fun p=>(p.1,p.2.pub h))/\bn h' (ps.flatMap fun p=>p.2.ownKs)=bn h (ps.flatMap fun p=>p.2.ownKs):=by
 refine⟨List.map_congr_left fun p hp=>?_,jA (H.sub fun k hk=>?_)⟩;·rw[uG (H.sub fun k hk=>List.mem_flatMap.2 ⟨p,hp,hk⟩)]
 ·obtain⟨p,hp,hk⟩:=List.mem_flatMap.1 hk;exact List.mem_flatMap.2 ⟨p,hp,pY k hk⟩
theorem p9:∀{l:List (Nat×Operand)}{ps:List (Nat×V1)}{ops:List Operand},partsOf st l=some ps->(∀x,x∈l.map (·.2)->x∈ops)->∀k,k∈ps.flatMap (fun p=>p.2.keys)->k∈bB st ops
 |[],ps,ops,he,_,k,hk=>by
  simp only[partsOf,DL] at he;subst he;simp at hk
 |(i,x)::l,ps,ops,he,ho,k,hk=>by
  simp only[partsOf] at he;split at he
  ·rename_i v hv;split at he
   ·rename_i l' hl;simp only[DL] at he;subst he;rw[Ey] at hk;rcases D9.1 hk with hk|hk
    ·exact List.mem_flatMap.2 ⟨x,ho x (by simp),by rw[wy hv];exact hk⟩
    ·exact p9 hl (fun y hy=>ho y (by simp only[Ea,D8];exact .inr hy)) k hk
   ·cases he
  ·cases he
theorem nA{k:Nat}:∀{l:List (Nat×En)}{h h':Heap},h' k=h k->eG h' l k=eG h l k
 |[],_,_,e=>e
 |p::l,h,h',e=>by
  show eG (h'.set p.1 p.2) l k=eG (h.set p.1 p.2) l k;refine nA ?_;by_cases hp:k=p.1;·subst hp;rw[aX,aX]
  ·rw[aM _ _ hp,aM _ _ hp];exact e
theorem mi{E:Env R}{d:Option Nat}{f:FuncId}{cs:List Cell}{vs:List V}{ops:List Operand}(hv:∀v,v∈vs->∀k,k∈v.keys->∃x,x∈ops/\∃v',opdV st x=some v'/\k∈v'.keys)
  (hcs:∀c,c∈cs->∀k,k∈c.keys->∃x,x∈ops/\∃v,opdV st x=some v/\k∈v.keys) {K:Dl->Option R} (he:gH E st d f cs vs K=some r) :
  ∃x,K x=some r/\∀(st':St) (K':Dl->Option R),bi st st' ops->Agree st.h st'.h (x.up.map (·.1))->gH E st' d f cs vs K'=K' x:=by
 unfold gH at he;split at he
 ·rename_i sp hsp;split at he
  ·rename_i ab hab;obtain⟨hok,he⟩:=aa he;cases hy:sp.f ab.x with
   |none=>rw[hy] at he;cases he
   |some y=>
    rw[hy] at he;refine⟨_,he,fun st' K' A U=>?_⟩;have hok':=hok;unfold jT at hok;simp only[DW,D6] at hok;obtain⟨⟨⟨⟨hlen,hpl⟩,hb0⟩,hnk⟩,hnb0⟩:=hok;have hbl:ab.bm.length=sp.a.boxes.length:=by
     unfold Shape.abs at hab;split at hab
     ·split at hab
      ·rename_i hgb;split at hab
       ·obtain⟨_,hab⟩:=aa hab;simp only[DL] at hab;subst hab;simpa using(eT hgb).2
       ·cases hab
      ·cases hab
     ·cases hab
    rw[<- hbl] at hpl;have hnb:sp.r.boxes.length=ab.bm.length:=by
     unfold Shape.okRes at hpl;simp only[DW,D6] at hpl;exact hpl.1.1.1.1
    obtain⟨u1,u2,u3⟩:=vG (st:=st) (d:=d.getD 0) (y:=y) hnb;have Hkeys:Agree st.h st'.h ab.keys:=U.sub u1;have Hdeps:Agree st.h st'.h ab.m.deps:=fun k hk=>by
     obtain⟨he',hv'⟩:=xI hab k hk;by_cases hne:ab.keys=[]
     ·have hbm:ab.bm=[]:=by
       unfold Abs.keys at hne;exact(List.append_eq_nil_iff.1 hne).1
      obtain⟨v,hvm,hkv⟩:=hv' hbm;rcases D9.1 hvm with hvm|hvm;·obtain⟨x',hx',v',hv',hk'⟩:=hv v hvm k hkv;exact A.keysV hx' hv' k hk'
      ·obtain⟨x,hx,rfl⟩:=Eb.1 hvm;obtain⟨x',hx',v',hv',hk'⟩:=hcs x hx k (by simpa[V.keys,V1.keys,V1.cells] using hkv);exact A.keysV hx' hv' k hk'
     ·exact U k (u3 hne k hk he')
    have Hall:Agree st.h st'.h (ab.keys++ab.m.deps):=fun k hk=>(D9.1 hk).elim (Hkeys k) (Hdeps k)
    have hok2:jT st'.h (d.getD 0) sp ab (vs.length+cs.length)=true:=by
     rw[<- hok'];unfold jT;have hnb:ab.m.deps.all (jy st'.h)=ab.m.deps.all (jy st.h):=by
      have:∀(l:List Nat),(∀k,k∈l->k∈ab.m.deps)->l.all (jy st'.h)=l.all (jy st.h):=by
       intro l
       induction l with
       |nil=>intro _;rfl
       |cons k l ih=>
        intro hl;simp only[EK];rw[ih fun k hk=>hl k (by simp[hk])];unfold jy;rw[Hdeps k (hl k (by simp))]
      exact this _ fun k hk=>hk
     rw[hnb];congr 3;have:∀(l:List Nat),(∀k,k∈l->k∈ab.bm)->l.all (jW st'.h)=l.all (jW st.h):=by
      intro l
      induction l with
      |nil=>intro _;rfl
      |cons k l ih=>
       intro hl;simp only[EK];rw[ih fun k hk=>hl k (by simp[hk])];unfold jW;rw[Hkeys k (List.mem_append_left _ (hl k (by simp)))]
     rw[this ab.bm fun k hk=>hk]
    unfold gH;simp only[hsp];rw[uQ hab Hall];simp only[if_pos hok2,hy,DV];rw[xg hpl Hdeps Hkeys (U.sub u2)]
  ·cases he
 ·cases he
theorem mf{vs:List V}{args ops:List Operand}(hv:fe st args=some vs)(ms:∀x,x∈args->x∈ops):∀v,v∈vs->∀k,k∈v.keys->∃x,x∈ops/\∃v',opdV st x=some v'/\k∈v'.keys:=fun v hvm k hk=>by
 obtain⟨x,hx,hxv⟩:=rQ hv v hvm;exact⟨x,ms x hx,v,hxv,hk⟩
theorem zN(c:Cap):c.cell.keys=[]:=by
 cases c with
 |cf g=>rfl
 |c0 c=>cases c<;>rfl
theorem rC{E:Env R}{d:Option Nat}{vs:List V}{args ops:List Operand}(hv:fe st args=some vs)(ms:∀x,x∈args->x∈ops){x:Fn}{K:Dl->Option R}:∀{l:List Fn},
  l.foldr (fun key next=>if x=key then gH E st d key.1 (key.2.map Cap.cell) vs K else next) none=some r ->
  ∃y,K y=some r/\∀(st':St) (K':Dl->Option R),bi st st' ops->Agree st.h st'.h (y.up.map (·.1))->l.foldr (fun key next=>if x=key then gH E st' d key.1 (key.2.map Cap.cell) vs K' else next) none=K' y
 |[],he=>by cases he
 |key::l,he=>by
  simp only[List.foldr_cons] at he⊢;by_cases e:x=key
  ·rw[if_pos e] at he;obtain⟨y,hk,hok⟩:=mi (ops:=ops) (mf hv ms) (fun c hc k hk=>by
    obtain⟨c',_,rfl⟩:=Eb.1 hc;rw[zN] at hk;simp at hk) he
   exact⟨y,hk,fun st' K' A U=>by rw[if_pos e];exact hok st' K' A U⟩
  ·rw[if_neg e] at he;obtain⟨y,hk,hok⟩:=rC hv ms he;exact⟨y,hk,fun st' K' A U=>by rw[if_neg e];exact hok st' K' A U⟩
theorem ry{E:Env R}{o:Oper}{K:Dl->Option R}(he:aP E st o K=some r) :
  ∃x,K x=some r/\∀(st':St) (K':Dl->Option R),bi st st' o.op.operands.toList->Agree st.h st'.h (x.up.map (·.1))->aP E st' o K'=K' x:=by
 unfold aP at he;split at he
 ·rename_i t ho;split at he
  ·rename_i ti hti;refine⟨_,he,fun st' K' A U=>?_⟩;unfold aP;simp only[ho,hti,kg];rw[fH (U (dk o.dst) (by simp[kg]))]
  ·cases he
 ·rename_i t x ho;obtain⟨v,hv,he⟩:=ae he;refine⟨_,he,fun st' K' A U=>?_⟩;unfold aP;simp only[ho];rw[A.opd (by simp[ho,Op.operands]),hv];simp only[ai];rw[fH (U (dk o.dst) (by simp))]
 ·rename_i t n parts ho;split at he
  ·cases he
  ·rename_i e hel;split at he
   ·rename_i ti hti hp;split at he
    ·rename_i k v fs hc;split at he
     ·rename_i cs hat
      obtain⟨hq,he⟩:=aa he;refine⟨_,he,fun st' K' A U=>?_⟩;unfold aP;simp only[ho,hel,hti];have hsub:bi st st' (parts.toList.map (·.2)):=A.sub fun x hx=>by simpa[ho,Op.operands] using hx
      obtain⟨p,hp1,f,hp2⟩:=wW hc;have hag:=hsub.keysV (x:=p.2) (Eb.2 ⟨p,hp1,rfl⟩) hp2;rw[iM hsub,hp];simp only[];rw[rf hsub,hc];simp only[at_eq (hag k (by simp[V.keys,Cell.keys])),hat];rw[if_pos hq]
     ·cases he
    ·cases he
   ·rename_i ti ps hti hp;split at he
    ·rename_i t' ht;split at he
     ·rename_i z hz;obtain⟨hn,he⟩:=aa he;obtain⟨xs,hx,he⟩:=ae he;refine⟨_,he,fun st' K' A U=>?_⟩;unfold aP;simp only[ho,hel,hti];have hpp:=iM (st:=st) (st':=st') (l:=parts.toList) (A.sub fun x hx=>by simpa[ho,Op.operands] using hx);rw[hpp,hp];have hag:Agree st.h st'.h (ps.flatMap fun p=>p.2.keys):=A.heap.sub fun k hk=>p9 hp (fun x hx=>by simpa[ho,Op.operands] using hx) k hk
      obtain⟨e1,e2⟩:=vP hag;simp only[ht,hz,if_pos hn,e1,e2,hx,ai];rw[fH (U (dk o.dst) (by simp))]
     ·cases he
    ·cases he
   ·cases he
 ·rename_i t x v ho;split at he
  ·rename_i hd;obtain⟨xv,hx,he⟩:=ae he;obtain⟨vv,hv,he⟩:=ae he;obtain⟨up,hk,hok⟩:=uV he;refine⟨_,hk,fun st' K' A U=>?_⟩;unfold aP;simp only[ho,hd];rw[A.opd (x:=x) (by simp[ho,Op.operands]),A.opd (x:=v) (by simp[ho,Op.operands]),hx,hv];simp only[ai];have hax:=A.keys (x:=x) (by simp[ho,Op.operands]) hx;have hav:=A.keys (x:=v) (by simp[ho,Op.operands]) hv;obtain⟨e1,e2⟩:=yI (x:=xv) hav;rw[e1,e2,yY (st:=bA st (iA xv vv)) (st':=bA st' (iA xv vv)) fun k hk=>by
    show eG st'.h (bn st'.h (iA xv vv)) k=eG st.h (bn st.h (iA xv vv)) k;rw[e2];exact nA (hax k hk)]
   exact hok _
  ·cases he
 ·rename_i args argTypes ho;split at he
  ·rename_i s x sT xT ha hat
   obtain⟨hst,he1⟩:=aa he;subst hst;obtain⟨sv,hs,he⟩:=ae he1;obtain⟨xv,hx,he⟩:=ae he;obtain⟨y,hk,hok,hdk⟩:=sD he;have ms:s∈o.op.operands.toList:=by simp[ho,Op.operands,Call.operands,<- Array.mem_toList_iff,ha]
   have mx:x∈o.op.operands.toList:=by simp[ho,Op.operands,Call.operands,<- Array.mem_toList_iff,ha]
   refine⟨_,hk,fun st' K' A U=>?_⟩;unfold aP;simp only[ho,ha,hat,if_true];rw[A.opd ms,A.opd mx,hs,hx];simp only[ai];rw[wJ (A.keys ms hs) (A.keys mx hx) (U _ hdk)];exact hok _
  ·cases he
 ·rename_i c args argTypes ho;have mc:∀t,c=.tmp t->Operand.tmp t∈o.op.operands.toList:=fun t e=>by simp[ho,Op.operands,Call.operands,e]
  have ms:∀x,x∈args.toList->x∈o.op.operands.toList:=fun x hx=>by simp only[ho,Op.operands,Call.operands];simp at hx⊢;exact .inr hx
  split at he
  ·rename_i vs hv;split at he
   ·rename_i p hc;obtain⟨y,hk,hok⟩:=mi (ops:=o.op.operands.toList) (fun v hvm k hk=>by
     rcases D9.1 hvm with hvm|hvm
     ·obtain⟨c',hc',rfl⟩:=Eb.1 hvm;unfold gN at hc;split at hc
      ·rename_i t;split at hc
       ·rename_i f' cs' hs;split at hc
        ·cases hc
        ·simp only[DL] at hc;rw[<- hc] at hc';refine⟨.tmp t,mc t rfl,.clo f' cs',by simp only[opdV,hs],?_⟩;exact List.mem_flatMap.2 ⟨c',hc',by simpa[V.keys,V1.keys,V1.cells] using hk⟩
       ·cases hc
      ·cases hc
     ·exact mf hv ms v hvm k hk) (fun c hc k hk=>by cases hc) he
    refine⟨_,hk,fun st' K' A U=>?_⟩;unfold aP;simp only[ho];rw[lm (A.sub ms),hv];simp only[];rw[kL fun t e=>A.slot t (mc t e),hc];exact hok st' K' A U
   ·rename_i hbn;split at he
    ·rename_i p hc;obtain⟨y,hk,hok⟩:=mi (ops:=o.op.operands.toList) (mf hv ms) (fun c' hc' k hk=>by
      unfold gy at hc;split at hc;·simp only[DL] at hc;rw[<- hc] at hc';simp at hc'
      ·rename_i t;split at hc
       ·rename_i f' cs' hs;obtain⟨_,hc⟩:=aa hc;simp only[DL] at hc;refine⟨.tmp t,mc t rfl,.clo f' cs',by simp only[opdV,hs],?_⟩;rw[<- hc] at hc';exact List.mem_flatMap.2 ⟨c',hc',hk⟩
       ·split at hc
        ·simp only[DL] at hc;rw[<- hc] at hc';simp at hc'
        ·cases hc
       ·cases hc
      ·cases hc) he
     refine⟨_,hk,fun st' K' A U=>?_⟩;unfold aP;simp only[ho];rw[lm (A.sub ms),hv];simp only[];rw[kL fun t e=>A.slot t (mc t e),hbn];simp only[];rw[nT fun t e=>A.slot t (mc t e),hc];exact hok st' K' A U
    ·rename_i hcn;split at he
     ·rename_i x hc;obtain⟨y,hk,hok⟩:=rC (ops:=o.op.operands.toList) hv ms he;refine⟨_,hk,fun st' K' A U=>?_⟩;unfold aP;simp only[ho];rw[lm (A.sub ms),hv];simp only[];rw[kL fun t e=>A.slot t (mc t e),hbn];simp only[];rw[nT fun t e=>A.slot t (mc t e),hcn];simp only[];rw[BM fun t e=>A.slot t (mc t e),hc];exact hok st' K' A U
     ·cases he
  ·cases he
 ·rename_i t g ho;split at he
  ·rename_i F hF;refine⟨_,he,fun st' K' A U=>?_⟩;unfold aP;simp only[ho,hF]
  ·cases he
 ·rename_i t x k ok ho;split at he
  ·rename_i g kc hx hk;split at he
   ·rename_i F hF;obtain⟨p,hp,he⟩:=ae he;refine⟨_,he,fun st' K' A U=>?_⟩;unfold aP;simp only[ho];rw[A.opd (x:=x) (by simp[ho,Op.operands]),A.opd (x:=k) (by simp[ho,Op.operands]),hx,hk];simp only[hF,hp,ai]
   ·cases he
  ·cases he
 ·rename_i t l c ho;split at he
  ·cases he
  ·rename_i e hel;split at he
   ·rename_i ti kl n kc m hti hl hc;split at he
    ·rename_i t' ht;split at he
     ·rename_i z hz;obtain⟨hn,he⟩:=aa he;refine⟨_,he,fun st' K' A U=>?_⟩;unfold aP;simp only[ho,hel,hti];rw[A.opd (x:=l) (by simp[ho,Op.operands]),A.opd (x:=c) (by simp[ho,Op.operands]),hl,hc];simp only[ht,hz,if_pos hn,kg];rw[fH (U (dk o.dst) (by simp[kg]))]
     ·cases he
    ·cases he
   ·cases he
 ·rename_i src dst x ho;split at he
  ·rename_i hsc;obtain⟨v,hv,he⟩:=ae he;obtain⟨xs,hxs,he⟩:=ae he;refine⟨_,he,fun st' K' A U=>?_⟩;have mx:x∈o.op.operands.toList:=by simp[ho,Op.operands]
   unfold aP;simp only[ho,if_pos hsc];rw[A.opd mx,hv];simp only[ai];rw[mR (A.keys mx hv),hxs]
  ·rename_i hsc;split at he
   ·rename_i hbc;split at he
    ·rename_i s hx;refine⟨_,he,fun st' K' A U=>?_⟩;have mx:x∈o.op.operands.toList:=by simp[ho,Op.operands]
     unfold aP;simp only[ho,if_neg hsc,if_pos hbc];rw[A.opd mx,hx]
    ·cases he
   rename_i hbc;obtain⟨y,hk,hok⟩:=sj he;refine⟨_,hk,fun st' K' A U=>?_⟩;have mx:x∈o.op.operands.toList:=by simp[ho,Op.operands]
   unfold aP;simp only[ho,if_neg hsc,if_neg hbc];rw[ze (by rw[<- ho];exact A)];have:bB st' [x]=bB st [x]:=by simp only[bB,Ey,List.flatMap_nil,A.opdV mx]
   rw[this];exact hok _
 ·rename_i op h1 h2 h3 h4 h5 h6 h8 h9 h10 h7;obtain⟨y,hk,hok⟩:=sj he;refine⟨_,hk,fun st' K' A U=>?_⟩;unfold aP;split
  ·rename_i e;exact absurd e (h1 _)
  ·rename_i e;exact absurd e (h2 _ _)
  ·rename_i e;exact absurd e (h3 _ _ _)
  ·rename_i e;exact absurd e (h4 _ _ _)
  ·rename_i e;exact absurd e (h5 _ _)
  ·rename_i e;exact absurd e (h6 _ _ _)
  ·rename_i e;exact absurd e (h8 _ _)
  ·rename_i e;exact absurd e (h9 _ _ _ _)
  ·rename_i e;exact absurd e (h10 _ _ _)
  ·rename_i e;exact absurd e (h7 _ _ _)
  ·rw[ze A];have hko:bB st' o.op.operands.toList=bB st o.op.operands.toList:=by
    have:∀(l:List Operand),(∀x,x∈l->opdV st' x=opdV st x)->bB st' l=bB st l:=by
     intro l
     induction l with
     |nil=>intro _;rfl
     |cons x l ih=>
      intro hh;unfold bB at ih⊢;simp only[Ey];rw[hh x (by simp),ih fun y hy=>hh y (by simp[hy])]
    exact this _ fun x hx=>A.opdV hx
   rw[hko];exact hok _
theorem nX{E:Env R}{o:Oper}{K:Dl->Option R}(hq:quiet o.op=true):aP E st o K=vop E.te st o.op fun v=>K ⟨v,bB st o.op.operands.toList,[]⟩:=by
 unfold aP;cases hop:o.op<;>first|rfl|(rw[hop] at hq;cases hq)
theorem zg{op:Op}{K:V->Option R}(hq:quiet op=true)(s:List V)(h h':Heap):vop te ⟨s,h⟩ op K=vop te ⟨s,h'⟩ op K:=by
 have ho:∀x,opd ⟨s,h⟩ x=opd ⟨s,h'⟩ x:=fun x=>by cases x<;>rfl
 have hV:∀x,opdV ⟨s,h⟩ x=opdV ⟨s,h'⟩ x:=fun x=>by cases x<;>rfl
 have hs:∀l,eX ⟨s,h⟩ l=eX ⟨s,h'⟩ l:=fun l=>by
  induction l with
  |nil=>rfl
  |cons x l ih=>simp only[eX,ho,ih]
 have hp:∀l,partsOf ⟨s,h⟩ l=partsOf ⟨s,h'⟩ l:=fun l=>by
  induction l with
  |nil=>rfl
  |cons x l ih=>obtain⟨i,x⟩:=x;simp only[partsOf,ho,ih]
 cases op<;>first
  |(cases hq;done)
  |(simp only[vop,ho,hV,hs,hp];done)
  |rfl
  |(unfold vop;simp only[ho,hV,hs,hp];done)
  |skip
 rename_i f first captured
 cases f<;>simp only[vop,hs]
structure Looks (st st':St) (o:Oper):Prop where
 slot:∀t,Operand.tmp t∈o.op.operands.toList->st'.s[t]?=st.s[t]?
 heap:Agree st.h st'.h (lc st o)
theorem w9{E:Env R}{o:Oper}{K:Dl->Option R}(he:aP E st o K=some r) :
  ∃x,K x=some r/\∀(st':St) (K':Dl->Option R),Looks st st' o->Agree st.h st'.h (x.up.map (·.1))->aP E st' o K'=K' x:=by
 by_cases hq:quiet o.op=true
 ·obtain⟨x,hx,hok⟩:=ry he;refine⟨x,hx,fun st' K' L U=>?_⟩;have h1:aP E st' o K'=aP E ⟨st'.s,st.h⟩ o K':=by
   rw[nX hq,nX hq];have e:bB (⟨st'.s,st.h⟩:St) o.op.operands.toList=bB st' o.op.operands.toList:=rfl;rw[e];exact zg (K:=fun v=>K' ⟨v,bB st' o.op.operands.toList,[]⟩) hq st'.s st'.h st.h
  rw[h1];exact hok ⟨st'.s,st.h⟩ K' ⟨L.slot,fun k _=>rfl⟩ fun k _=>rfl
 ·obtain⟨x,hx,hok⟩:=ry he;refine⟨x,hx,fun st' K' L U=>hok st' K' ⟨L.slot,?_⟩ U⟩;have:=L.heap;unfold lc at this
  rwa [if_neg hq] at this
end
end Rv
namespace Rv
open Go
section
variable{P:Program}{C:Ctx}{γ:Gam}{w:World}{R:Type}{r:R}
theorem Rel.world{st:St}{tmps:Array Value}(R':Rel C γ w st tmps){w':World}(h1:w'.heap=w.heap)(h2:w'.os=w.os)(h3:w'.tape=w.tape)(h4:w'.output=w.output):Rel C γ w' st tmps:=by
 have T:bu C γ st.h w C γ st.h w':=⟨by rw[h1];exact DU _,fun k e hk=>⟨e,hk,.inr ⟨rfl,rfl,Alike.refl e⟩⟩,fun g _ _=>by rw[h1],fun k e c g hk hl hg _=>⟨k,e,c,hk,hl,hg,.inl rfl⟩,fun _ _ h=>h,fun _ h=>h⟩
 refine R'.step T (R'.inv.step ⟨by rw[h1];exact DU _,fun g _ _=>by rw[h1],h2,h3,h4⟩ T (fun k e hk=>bS.step T (R'.inv.box k e hk) rfl fun _ g c _=>by rw[h1]) R'.inv.inj R'.inv.own)
def Cu(ops:Array Oper)(o:Oper)(st:St):Prop:=
 o.guard=none\/∃j want s,o.guard=some (j,want)/\(ops[j]?).bind (·.dst)=some s/\st.s[s]?=some (.v (.c (.bool want)))
def Rest(ops:Array Oper)(o:Oper)(st:St):Prop:=
 ∃j want s,o.guard=some (j,want)/\(ops[j]?).bind (·.dst)=some s/\(st.s[s]?=some (.v (.c (.bool !want)))\/st.s[s]?=some (.tup []))
def Did.app(d:Did)(st:St):St:=st.app d.dst d.x
def qm(E:Env R)(ops:Array Oper)(o:Oper)(st:St)(d:Did):Prop:=
 d.dst=o.dst/\d.looks=Oper.looks ops o/\(∀k,k∈d.ups->k∈d.rd) /\
 ((Cu ops o st/\(∀k,k∈lc st o->k∈d.rd)/\∀(st':St) (K':Dl->Option R),Looks st st' o->Agree st.h st'.h d.ups->aP E st' o K'=K' d.x)\/(Rest ops o st/\d.x=⟨.tup [],[],[]⟩))
theorem guard_looks{ops:Array Oper}{o:Oper}{j s:Nat}{want:Bool}(hg:o.guard=some (j,want))(hd:(ops[j]?).bind (·.dst)=some s):s∈Oper.looks ops o:=by
 unfold Oper.looks Oper.guardSlot;simp[hg,hd]
theorem yZ{ops:Array Oper}{o:Oper}{t:Nat}(ht:Operand.tmp t∈o.op.operands.toList):t∈Oper.looks ops o:=by
 unfold Oper.looks;exact D9.2 (.inl (List.mem_filterMap.2 ⟨_,ht,rfl⟩))
structure Same (X Y:List Nat) (st st':St):Prop where
 len:st'.s.length=st.s.length
 slot:∀t,t∈X->st'.s[t]?=st.s[t]?
 heap:∀k,k∈Y->st'.h k=st.h k
open Classical in
theorem Bn{E:Env R}(hE:ib P C.L C.nl E)(r:R){ops:Array Oper}{Q:Exit->Act->World->Prop}{i:Nat}{o:Oper}(ho:ops[i]?=some o){st0 st:St}{d:Did}(hA:qm E ops o st0 d)(hS:Same d.looks d.rd st0 st){a:Act}(R':Rel C γ w st a.tmps)(G:Good E a)
  {next:Act->World->Prop} (hn:∀γ' w' a',Rel C γ' w' (d.app st) a'.tmps->Good E a'->next a' w'):wpOp P ops Q i next a w:=by
 obtain⟨hd,hl,hu,hc⟩:=hA;unfold wpOp;rw[ho];simp only;rcases hc with⟨hf,hk,hev⟩|⟨hr,hx⟩
 ·have hw:Region.wanted o (yielded ops a.tmps)=true:=by
   rcases hf with hg|⟨j,want,s,hg,hds,hs⟩;·simp[Region.wanted,hg]
   ·exact ql R' hg hds (by rw[hS.slot s (by rw[hl];exact guard_looks hg hds)];exact hs)
  rw[if_pos hw];have he:aP E st o (fun y=>if y=d.x then some r else none)=some r:=by
   rw[hev st _ ⟨fun t ht=>hS.slot t (by rw[hl];exact yZ ht),fun k hkk=>hS.heap k (hk k hkk)⟩ (fun k hkk=>hS.heap k (hu k hkk))];simp
  obtain⟨x,hx,hok⟩:=nY hE R' he;have:x=d.x:=by
   by_cases h:x=d.x;·exact h
   ·simp[h] at hx
  subst this;refine .inl (hok next Q fun γ' w' val R1=>hn γ' w' _ ?_ (G.put _ _));unfold Did.app;rw[hd];exact R1
 ·obtain⟨j,want,s,hg,hds,hs⟩:=hr;have hw:Region.wanted o (yielded ops a.tmps)=false:=by
   have:=hS.slot s (by rw[hl];exact guard_looks hg hds);exact nK R' hg hds (by rw[this];exact hs)
  rw[if_neg (by rw[hw];simp)];refine hn γ w _ ?_ (G.put _ _);unfold Did.app;rw[hd,hx];exact R'.put o.dst nk
def bW(b:Nat->Bool):Nat->List Did->St->St
 |_,[],st=>st
 |i,d::l,st=>bW b (i+1) l (if b i=true then d.app st else st)
theorem o7(st:St)(d:Did):(d.app st).s.length=st.s.length:=by
 unfold Did.app St.app St.put;cases d.dst<;>simp
theorem eZ:∀{l:List (Nat×En)}{h h':Heap}{k:Nat},h' k=h k->l.foldl (fun h p=>Heap.set h p.1 p.2) h' k=l.foldl (fun h p=>Heap.set h p.1 p.2) h k
 |[],_,_,_,e=>e
 |p::l,h,h',k,e=>by
  simp only[Eo];apply eZ;unfold Heap.set;split;·rfl
  ·exact e
theorem kG(d:Did)(st:St):(d.app st).h=d.x.up.foldl (fun h p=>h.set p.1 p.2) st.h:=by
 unfold Did.app St.app St.put;cases d.dst<;>rfl
theorem kH(d:Did)(st:St):(d.app st).s=match d.dst with|some t=>st.s.set t d.x.v|none=>st.s:=by
 unfold Did.app St.app St.put;cases d.dst<;>rfl
theorem Same.app{X Y:List Nat}{st st':St}(S:Same X Y st st')(d:Did):Same X Y (d.app st) (d.app st') where
 len:=by rw[o7,o7,S.len]
 slot:=fun t ht=>by
  rw[kH,kH];cases hd:d.dst with
  |none=>exact S.slot t ht
  |some u=>
   simp only[List.getElem?_set,S.len];split;·rfl
   ·exact S.slot t ht
 heap:=fun k hk=>by
  rw[kG,kG];exact eZ (S.heap k hk)
theorem Same.skip{X Y:List Nat}{st:St}{d:Did}(hd:∀t,d.dst=some t->t ∉ X)(hu:∀k,k∈d.ups->k ∉ Y):Same X Y st (d.app st) where
 len:=o7 _ _
 slot:=fun t ht=>by
  rw[kH];cases h:d.dst with
  |none=>rfl
  |some u=>
   simp only[List.getElem?_set];rw[if_neg fun e=>hd u h (by rw[e];exact ht)]
 heap:=fun k hk=>by
  rw[kG,aF fun h=>hu k h hk]
theorem Same.refl(X Y:List Nat)(st:St):Same X Y st st:=⟨rfl,fun _ _=>rfl,fun _ _=>rfl⟩
theorem Same.symm{X Y:List Nat}{st st':St}(S:Same X Y st st'):Same X Y st' st:=⟨S.len.symm,fun t h=>(S.slot t h).symm,fun k h=>(S.heap k h).symm⟩
theorem Same.trans{X Y:List Nat}{a b c:St}(S:Same X Y a b)(T:Same X Y b c):Same X Y a c:=⟨T.len.trans S.len,fun t h=>(T.slot t h).trans (S.slot t h),fun k h=>(T.heap k h).trans (S.heap k h)⟩
theorem rV{X Y:List Nat}{b b':Nat->Bool}:∀{l:List Did}{i:Nat}{st st':St},Same X Y st st'->(∀j d,l[j]?=some d->b (i+j)≠b' (i+j)->(∀t,d.dst=some t->t ∉ X)/\∀k,k∈d.ups->k ∉ Y) ->
  Same X Y (bW b i l st) (bW b' i l st')
 |[],_,_,_,S,_=>S
 |d::l,i,st,st',S,H=>by
  simp only[bW];refine rV ?_ fun j e hj hne=>H (j+1) e (by simpa using hj) (by rw[show i+(j+1)=i+1+j by omega];exact hne)
  cases h1:b i<;>cases h2:b' i
  ·exact S
  ·obtain⟨g1,g2⟩:=H 0 d rfl (by simp[h1,h2]);exact S.trans (Same.skip g1 g2)
  ·obtain⟨g1,g2⟩:=H 0 d rfl (by simp[h1,h2]);exact(Same.skip g1 g2).symm.trans S
  ·exact S.app d
theorem fK{b b':Nat->Bool}:∀{l:List Did}{i:Nat}{st:St},(∀j,j<l.length->b (i+j)=b' (i+j))->bW b i l st=bW b' i l st
 |[],_,_,_=>rfl
 |d::l,i,st,H=>by
  simp only[bW];rw[show b i=b' i from H 0 (by simp)];exact fK fun j hj=>by have:=H (j+1) (by simpa using hj);rwa [show i+(j+1)=i+1+j by omega] at this
theorem ky:∀{l:List Did}{i n:Nat}{st:St},bW (fun k=>decide (k<i+n)) i l st=(l.take n).foldl (fun s d=>d.app s) st
 |[],_,_,_=>by simp[bW]
 |d::l,i,0,st=>by
  simp only[bW,Nat.add_zero,Nat.lt_irrefl,decide_false,List.take_zero,List.foldl_nil];have:=ky (l:=l) (i:=i+1) (n:=0) (st:=st);simp only[Nat.add_zero,List.take_zero,List.foldl_nil] at this;rw[<- this];simp only[if_neg Bool.false_ne_true];rw[this];rw[fK (b':=fun k=>decide (k<i+1)) fun j _=>by simp;omega];exact this
 |d::l,i,n+1,st=>by
  simp only[bW,List.take_succ_cons,Eo];rw[if_pos (by simp)];have:=ky (l:=l) (i:=i+1) (n:=n) (st:=d.app st);rw[<- this];exact fK fun j _=>by simp;omega
theorem qG:∀{l m:List (Nat×En)}{h:Heap},(∀k,k∈l.map (·.1)->k ∉ m.map (·.1))->l.foldl (fun h p=>Heap.set h p.1 p.2) (m.foldl (fun h p=>Heap.set h p.1 p.2) h)=m.foldl (fun h p=>Heap.set h p.1 p.2) (l.foldl (fun h p=>Heap.set h p.1 p.2) h):=by
 intro l m h H;funext k;by_cases h1:k∈l.map (·.1);·rw[aF (l:=m) (H k h1)];apply eZ;rw[aF (H k h1)]
 ·rw[aF h1];apply Eq.symm;apply eZ;rw[aF h1]
theorem zq{a b:Did}(hd:∀t,a.dst=some t->b.dst≠some t)(hu:∀k,k∈a.ups->k ∉ b.ups)(st:St):a.app (b.app st)=b.app (a.app st):=by
 have h1:(a.app (b.app st)).h=(b.app (a.app st)).h:=by
  rw[kG,kG,kG,kG];exact qG hu
 have h2:(a.app (b.app st)).s=(b.app (a.app st)).s:=by
  rw[kH,kH,kH,kH];cases ha:a.dst with
  |none=>rfl
  |some t=>
   cases hb:b.dst with
   |none=>rfl
   |some u=>
    have:t≠u:=fun e=>hd t ha (by rw[hb,e])
    exact(List.set_comm _ _ this).symm
 cases hx:a.app (b.app st);cases hy:b.app (a.app st);rw[hx,hy] at h1 h2;simp only at h1 h2;rw[h1,h2]
def Apart(a b:Did):Prop:=(∀t,a.dst=some t->t ∉ b.looks/\b.dst≠some t)/\(∀t,b.dst=some t->t ∉ a.looks)/\(∀k,k∈a.ups->k ∉ b.rd)/\(∀k,k∈b.ups->k ∉ a.rd)
theorem gI{a b:List Nat}(h:qC a b=true):∀x,x∈a->x ∉ b:=fun x hx hb=>by
 have:=El.1 h x hx;simp[hb] at this
theorem vk{a b:Did}(h:Did.apart a b=true):Apart a b:=by
 unfold Did.apart at h;simp only[DW] at h;obtain⟨⟨⟨⟨h1,h2⟩,h3⟩,h4⟩,h5⟩:=h;refine⟨fun t ht=>⟨gI h1 t (by simp[ht]),fun hb=>gI h3 t (by simp[ht]) (by simp[hb])⟩,fun t ht=>gI h2 t (by simp[ht]),gI h4,gI h5⟩
theorem uO{b:Nat->Bool}{a:Did}:∀{l:List Did}{i:Nat}{st:St},(∀j d,l[j]?=some d->b (i+j)=true->∀st,a.app (d.app st)=d.app (a.app st))->bW b i l (a.app st)=a.app (bW b i l st)
 |[],_,_,_=>rfl
 |d::l,i,st,H=>by
  simp only[bW];have ih:∀st,bW b (i+1) l (a.app st)=a.app (bW b (i+1) l st):=fun st=>uO fun j e hj hb=>H (j+1) e (by simpa using hj) (by rw[show i+(j+1)=i+1+j by omega];exact hb)
  cases hb:b i;·exact ih st
  ·simp only[if_true];rw[<- H 0 d rfl hb,ih]
theorem uP{b:Nat->Bool}{a:Did}:∀{l:List Did}{i n:Nat}{st:St},l[n]?=some a->b (i+n)=false->(∀j d,l[j]?=some d->n<j->b (i+j)=true->∀st,a.app (d.app st)=d.app (a.app st)) ->
  bW (fun k=>b k||decide (k=i+n)) i l st=a.app (bW b i l st)
 |d::l,i,0,st,ha,hb,H=>by
  simp only[Ee,DL] at ha;subst ha;simp only[bW,Nat.add_zero] at hb⊢;simp only[hb,decide_true,Bool.or_true,if_true,Bool.false_eq_true,if_false];rw[fK (b':=b) fun j _=>by simp;omega];exact uO fun j e hj hbj=>H (j+1) e (by simpa using hj) (by omega) (by rw[show i+(j+1)=i+1+j by omega];exact hbj)
 |d::l,i,n+1,st,ha,hb,H=>by
  simp only[bW];have e1:(b i||decide (i=i+(n+1)))=b i:=by simp
  simp only[e1];have:=uP (b:=b) (a:=a) (l:=l) (i:=i+1) (n:=n) (st:=if b i=true then d.app st else st) (by simpa using ha) (by rw[show i+1+n=i+(n+1) by omega];exact hb)
   (fun j e hj hlt hbj=>H (j+1) e (by simpa using hj) (by omega) (by rw[show i+(j+1)=i+1+j by omega];exact hbj))
  rw[<- this];congr 1;funext k;rw[show i+1+n=i+(n+1) by omega]
 |[],_,_,_,ha,_,_=>by simp at ha
theorem wG:∀{xs ys:List Nat}{k:Nat},k∈uni xs ys->k∈xs\/k∈ys
 |[],_,_,h=>.inr h
 |x::xs,ys,k,h=>by
  unfold uni at h;simp only[Eo] at h;have:=wG (xs:=xs) h;rcases this with h|h;·exact .inl (by simp[h])
  ·split at h
   ·exact .inr h
   ·rcases D8.1 h with rfl|h
    ·exact .inl (by simp)
    ·exact .inr h
theorem oz{b:Nat->Bool}:∀{l:List Oper}{tbl:List (List Nat)},(∀j as,tbl[j]?=some as->b j=true->∀k,k∈as->b k=true) ->
  (∀j o,l[j]?=some o->b (tbl.length+j)=true->∀e,e∈o.after.toList->Region.binds .any e=true->b e.on=true)->∀j as,(ma l tbl)[j]?=some as->b j=true->∀k,k∈as->b k=true
 |[],tbl,H,_=>H
 |o::l,tbl,H,Ho=>by
  simp only[ma];refine oz (fun j as hj hb k hk=>?_) fun j o' hj hb=>Ho (j+1) o' (by simpa using hj) (by simpa[ED,Nat.add_comm 1 j] using hb)
  rw[List.getElem?_append] at hj;split at hj;·exact H j as hj hb k hk
  ·rename_i hlt;have hj0:j=tbl.length:=by
    by_cases h:j-tbl.length=0;·omega
    ·obtain⟨m,hm⟩:=Nat.exists_eq_succ_of_ne_zero h;rw[hm] at hj;simp at hj
   subst hj0;simp only[Nat.sub_self,Ee,DL] at hj;subst hj;have hon:=Ho 0 o rfl hb;have gen:∀(es:List Edge) (acc:List Nat),(∀e,e∈es->b e.on=true)->(∀k,k∈acc->b k=true)->∀k,k∈es.foldl (fun acc e=>uni (e.on::tbl.getD e.on []) acc) acc->b k=true:=by
    intro es
    induction es with
    |nil=>intro acc _ h k hk;exact h k hk
    |cons e es ih=>
     intro acc h1 h2 k hk;simp only[Eo] at hk;refine ih _ (fun e he=>h1 e (by simp[he])) (fun k hk=>?_) k hk;rcases wG hk with hk|hk
     ·rcases D8.1 hk with rfl|hk
      ·exact h1 e (by simp)
      ·cases htb:tbl[e.on]? with
       |none=>simp[List.getD,htb] at hk
       |some as=>exact H e.on as htb (h1 e (by simp)) k (by simpa[List.getD,htb] using hk)
     ·exact h2 k hk
   refine gen _ [] (fun e he=>?_) (fun k hk=>by simp at hk) k hk;obtain⟨h1,h2⟩:=Ev.1 he;exact hon e h1 h2
theorem jN:∀{l:List Oper}{i:Nat},qi i l=true->∀j o,l[j]?=some o->∀e,e∈o.after.toList->Region.binds .any e=true->e.on<i+j
 |o::l,i,h,j,o',hj,e,he,hb=>by
  simp only[qi,DW] at h;cases j with
  |zero=>
   simp only[Ee,DL] at hj;subst hj;have:=El.1 h.1 e he;simpa[hb] using this
  |succ j=>have:=jN h.2 j o' (by simpa using hj) e he hb;omega
 |[],_,_,_,_,hj,_,_,_=>by simp at hj
theorem lQ{E:Env R}{ops:Array Oper}:∀{l:List Oper}{st:St}{acc:List Did}{K:List Did->St->Option R},cK E ops l st acc K=some r ->
  ∃ds:List Did,ds.length=l.length/\K (acc.reverse++ds) (ds.foldl (fun s d=>d.app s) st)=some r/\∀i o d,l[i]?=some o->ds[i]?=some d->qm E ops o ((ds.take i).foldl (fun s d=>d.app s) st) d
 |[],st,acc,K,he=>⟨[],rfl,by simpa[cK] using he,fun i o d hi=>by simp at hi⟩
 |o::l,st,acc,K,he=>by
  have go:∀{d:Did}{st1:St},qm E ops o st d->d.app st=st1->cK E ops l st1 (d::acc) K=some r ->
    ∃ds:List Did,ds.length=(o::l).length/\K (acc.reverse++ds) (ds.foldl (fun s d=>d.app s) st)=some r/\∀i o' d,(o::l)[i]?=some o'->ds[i]?=some d->qm E ops o' ((ds.take i).foldl (fun s d=>d.app s) st) d:=by
   intro d st1 hA h1 he;obtain⟨ds,h2,h3,h4⟩:=lQ he;refine⟨d::ds,by simp[h2],?_,fun i o' d' hi hd=>?_⟩;·simpa[h1] using h3
   ·cases i with
    |zero=>
     simp only[Ee,DL] at hi hd;subst hi hd;exact hA
    |succ i=>
     simp only[List.take_succ_cons,Eo,h1];exact h4 i o' d' (by simpa using hi) (by simpa using hd)
  have fire:∀{K':Dl->Option R},aP E st o K'=some r->(∀x,K' x=cK E ops l (st.app o.dst x) (did ops st o x::acc) K)->Cu ops o st ->
    ∃ds:List Did,ds.length=(o::l).length/\K (acc.reverse++ds) (ds.foldl (fun s d=>d.app s) st)=some r/\∀i o' d,(o::l)[i]?=some o'->ds[i]?=some d->qm E ops o' ((ds.take i).foldl (fun s d=>d.app s) st) d:=by
   intro K' h1 h2 hf;obtain⟨x,hx,hloc⟩:=w9 h1;rw[h2] at hx;exact go (d:=did ops st o x) ⟨rfl,rfl,fun k hk=>D9.2 (.inr hk),.inl ⟨hf,fun k hk=>D9.2 (.inl hk),hloc⟩⟩ rfl hx
  simp only[cK] at he;split at he;·rename_i hg;exact fire (K':=fun x=>cK E ops l (st.app o.dst x) (did ops st o x::acc) K) he (fun _=>rfl) (.inl hg)
  ·rename_i j want hg;split at he
   ·cases he
   ·rename_i d hd;split at he
    ·rename_i b hs;split at he
     ·rename_i hb;subst hb;rw[St.put_same hs] at he;exact fire (K':=fun x=>cK E ops l (st.app o.dst x) (did ops st o x::acc) K) he (fun _=>rfl) (.inr ⟨j,b,d,hg,hd,hs⟩)
     ·rename_i hb;have hb':b=!want:=by cases b<;>cases want<;>simp_all
      subst hb';rw[St.put_same hs] at he;exact go (d:=nQ ops o) ⟨rfl,rfl,fun k hk=>by simp[nQ,Did.ups] at hk,.inr ⟨⟨j,want,d,hg,hd,.inl hs⟩,rfl⟩⟩ rfl he
    ·rename_i hs;exact go (d:=nQ ops o) ⟨rfl,rfl,fun k hk=>by simp[nQ,Did.ups] at hk,.inr ⟨⟨j,want,d,hg,hd,.inr hs⟩,rfl⟩⟩ rfl he
    ·cases he
theorem least{n:Nat}{p:Nat->Prop}(h:∃i,i<n/\p i):∃i,i<n/\p i/\∀j,j<i->¬p j:=by
 obtain⟨i,hi,hp⟩:=h
 induction i using Nat.strongRecOn with
 |_ i ih=>
  by_cases h:∃j,j<i/\p j;·obtain⟨j,hj,hpj⟩:=h;exact ih j hj (by omega) hpj
  ·exact⟨i,hi,hp,fun j hj hpj=>h ⟨j,hj,hpj⟩⟩
theorem iQ{l:Array Bool}{i:Nat}(h:i<l.size):l.getD i true=l.getD i false:=by simp[Array.getD,h]
theorem wY{E:Env R}(hE:ib P C.L C.nl E){ops:Array Oper}{Q:Exit->Act->World->Prop}{st:St}{ds:List Did}(hlen:ds.length=ops.size)(hacts:∀i o d,ops[i]?=some o->ds[i]?=some d->qm E ops o ((ds.take i).foldl (fun s d=>d.app s) st) d)
  (hap:kF ops ds=true) (r:R) (hK:∀γ a w,Rel C γ w (ds.foldl (fun s d=>d.app s) st) a.tmps->Good E a->Q .normal a w) :
  ∀(fuel:Nat) (listed:Array Bool) (γ:Gam) (a:Act) (w:World),listed.size=ops.size->((List.range ops.size).filter fun i=>!listed.getD i false).length<=fuel ->
   (∀j o,ops[j]?=some o->listed.getD j false=true->∀e,e∈o.after.toList->Region.binds .any e=true->listed.getD e.on false=true) ->
   Rel C γ w (bW (fun k=>listed.getD k false) 0 ds st) a.tmps->Good E a->wpAny P .any ops Q fuel listed a w:=by
 unfold kF at hap;simp only[DW] at hap;obtain⟨htext,hap⟩:=hap;have fin:∀(listed:Array Bool) (γ:Gam) (a:Act) (w:World),listed.size=ops.size->(∀i,i<ops.size->listed.getD i false=true)->Rel C γ w (bW (fun k=>listed.getD k false) 0 ds st) a.tmps->Good E a->Q .normal a w:=by
  intro listed γ a w hsz hall R' G;refine hK γ a w ?_ G;have:=ky (l:=ds) (i:=0) (n:=ds.length) (st:=st);rw[List.take_length] at this;rw[<- this];rw[fK (b':=fun k=>decide (k<0+ds.length)) fun j hj=>by
   simp only[Nat.zero_add];rw[hall j (by omega)];simp[hj]] at R'
  exact R'
 have none_ready:∀(listed:Array Bool),listed.size=ops.size->Region.ready .any ops listed=[]->∀i,i<ops.size->listed.getD i false=true:=by
  intro listed hsz hr i hi;by_cases h:listed.getD i false=true;·exact h
  ·obtain⟨j,hj,hp,hmin⟩:=least (n:=ops.size) (p:=fun i=>¬listed.getD i false=true) ⟨i,hi,h⟩;exfalso;have ho:ops[j]?=some ops[j]:=by simp[hj]
   have:j∈Region.ready .any ops listed:=by
    unfold Region.ready;refine Ev.2 ⟨by simpa using hj,?_⟩;have hjl:j<listed.size:=by omega
    simp only[DW,Bool.not_eq_true'];refine⟨?_,?_⟩;·rw[iQ hjl];simpa using hp
    ·rw[ho];simp only[EA,Option.getD_some];rw[Array.all_eq_true'];intro e he;by_cases hb:Region.binds .any e=true
     ·have hlt:=jN htext j ops[j] (by simpa using ho) e (by simpa using he) hb;have:=hmin e.on (by omega);simp only[Decidable.not_not] at this;simp[this]
     ·simp only[Bool.not_eq_true] at hb;simp[hb]
   rw[hr] at this;simp at this
 intro fuel
 induction fuel with
 |zero=>
  intro listed γ a w hsz hcnt _ R' G;have hall:∀i,i<ops.size->listed.getD i false=true:=fun i hi=>by
   by_cases h:listed.getD i false=true;·exact h
   ·have:i∈(List.range ops.size).filter fun i=>!listed.getD i false:=Ev.2 ⟨by simpa using hi,by simpa using h⟩
    have h0:=List.length_pos_of_mem this;omega
  refine⟨?_,fin listed γ a w hsz hall R' G⟩;unfold Region.ready;refine List.filter_eq_nil_iff.2 fun i hi=>?_
  have hi':i<ops.size:=by simpa using hi
  have:=hall i hi';rw[iQ (by omega:i<listed.size),this];simp
 |succ fuel ih=>
  intro listed γ a w hsz hcnt hcl R' G;refine⟨fun hr=>fin listed γ a w hsz (none_ready listed hsz hr) R' G,fun i hi=>?_⟩;unfold Region.ready at hi;obtain⟨hi1,hi2⟩:=Ev.1 hi;have hin:i<ops.size:=by simpa using hi1
  have hil:i<listed.size:=by omega
  simp only[DW,Bool.not_eq_true'] at hi2;obtain⟨hi2,hi3⟩:=hi2;have hoff:listed.getD i false=false:=by rw[<- iQ hil];exact hi2
  have ho:ops[i]?=some ops[i]:=by simp[hin]
  rw[ho] at hi3;simp only[EA,Option.getD_some] at hi3;rw[Array.all_eq_true'] at hi3;have hahead:∀e,e∈ops[i].after.toList->Region.binds .any e=true->listed.getD e.on false=true:=fun e he hb=>by
   have:=hi3 e (by simpa using he);simpa[hb] using this
  have hid:i<ds.length:=by omega
  have hdi:ds[i]?=some ds[i]:=by simp[hid]
  have hA:=hacts i ops[i] ds[i] ho hdi
  let b:Nat->Bool:=fun k=>listed.getD k false
  have hset:∀k,(listed.setIfInBounds i true).getD k false=(b k||decide (k=i)):=fun k=>by
   simp only[Array.getD_eq_getD_getElem?,Array.getElem?_setIfInBounds,b];by_cases h:i=k;·subst h;simp[hil]
   ·have h':¬k=i:=fun e=>h e.symm
    simp[h,h']
  have hclosed':∀j o,ops[j]?=some o->(listed.setIfInBounds i true).getD j false=true->∀e,e∈o.after.toList->Region.binds .any e=true->(listed.setIfInBounds i true).getD e.on false=true:=fun j o hj hb e he hbe=>by
   rw[hset] at hb⊢;simp only[Bool.or_eq_true,D6] at hb⊢;rcases hb with hb|rfl;·exact .inl (hcl j o hj hb e he hbe)
   ·rw[ho] at hj;simp only[DL] at hj;subst hj;exact .inl (hahead e he hbe)
  have hanc:∀j as,(ma ops.toList [])[j]?=some as->b j=true->∀k,k∈as->b k=true:=
   oz (b:=b) (fun j as hj=>by simp at hj) fun j o hj hb e he hbe=>hcl j o (by simpa using hj) (by simpa[b] using hb) e he hbe
  have hanci:∀as,(ma ops.toList [])[i]?=some as->∀k,k∈as->k≠i->b k=true:=fun as has k hk hki=>by
   have:=oz (b:=fun k=>b k||decide (k=i)) (tbl:=[]) (l:=ops.toList) (fun j as hj=>by simp at hj) (fun j o hj hb e he hbe=>by
    have:=hclosed' j o (by simpa using hj) (by rw[hset];simpa using hb) e he hbe
    rwa [hset] at this) i as has (by simp) k hk
   simp only[Bool.or_eq_true,D6] at this;exact this.resolve_right hki
  have hpair:∀j k dj dk',j<k->ds[j]?=some dj->ds[k]?=some dk'->(∃as,(ma ops.toList [])[k]?=some as/\j∈as)\/Apart dj dk':=fun j k dj dk' hjk hj hk=>by
   have hkl:k<ds.length:=(DY.1 hk).1;have h1:=El.1 hap k (by simpa using hkl);rw[hk] at h1;simp only at h1;unfold tN at h1;have h2:=El.1 h1 j (by simpa using hjk);rw[hj] at h2;simp only[Bool.or_eq_true] at h2;rcases h2 with h2|h2
   ·left;cases hanc:(ma ops.toList [])[k]? with
    |none=>simp[List.getD,hanc] at h2
    |some as=>exact⟨as,hanc,by simpa[List.getD,hanc] using h2⟩
   ·exact .inr (vk h2)
  have hlater:∀k dk',i<k->ds[k]?=some dk'->b k=true->Apart ds[i] dk':=fun k dk' hik hk hbk=>by
   rcases hpair i k ds[i] dk' hik hdi hk with⟨as,has,hm⟩|h;·have:=hanc k as has hbk i hm;simp only[b] at this;rw[hoff] at this;cases this
   ·exact h
  have hearlier:∀k dk',k<i->ds[k]?=some dk'->b k=false->Apart dk' ds[i]:=fun k dk' hik hk hbk=>by
   rcases hpair k i dk' ds[i] hik hk hdi with⟨as,has,hm⟩|h;·have:=hanci as has k hm (by omega);rw[hbk] at this;cases this
   ·exact h
  have hS:Same ds[i].looks ds[i].rd ((ds.take i).foldl (fun s d=>d.app s) st) (bW b 0 ds st):=by
   have:=ky (l:=ds) (i:=0) (n:=i) (st:=st);rw[<- this];refine rV (Same.refl _ _ _) fun j d hj hne=>?_
   simp only[Nat.zero_add] at hne;rcases Nat.lt_trichotomy j i with hlt|rfl|hgt
   ·have hbj:b j=false:=by
     cases h:b j;·rfl
     ·simp[h,hlt] at hne
    have:=hearlier j d hlt hj hbj;exact⟨fun t ht=>(this.1 t ht).1,this.2.2.1⟩
   ·have:b j=false:=hoff;simp[this] at hne
   ·have hbj:b j=true:=by
     cases h:b j;·simp[h] at hne;omega
     ·rfl
    have:=hlater j d hgt hj hbj;exact⟨this.2.1,this.2.2.2⟩
  have hrun:bW (fun k=>(listed.setIfInBounds i true).getD k false) 0 ds st=ds[i].app (bW b 0 ds st):=by
   have:=uP (b:=b) (l:=ds) (i:=0) (n:=i) (st:=st) hdi (by simp only[Nat.zero_add];exact hoff) fun j d hj hij hb st=>by
    simp only[Nat.zero_add] at hb;have h:=hlater j d hij hj hb;refine zq (fun t ht=>(h.1 t ht).2) (fun k hk hk'=>h.2.2.1 k hk ?_) st;have hjo:j<ops.size:=by have:=(DY.1 hj).1;omega
    exact(hacts j ops[j] d (by simp[hjo]) hj).2.2.1 k hk'
   simp only[Nat.zero_add] at this;rw[<- this];congr 1;funext k;rw[hset]
  refine Bn hE r ho hA hS R' G fun γ' w' a' R1 G1=>?_
  refine ih _ γ' a' w' (by simpa using hsz) ?_ hclosed' (by rw[hrun];exact R1) G1;have hlt:((List.range ops.size).filter fun k=>!(listed.setIfInBounds i true).getD k false).length<((List.range ops.size).filter fun k=>!listed.getD k false).length:=by
   have e1:((List.range ops.size).filter fun k=>!(listed.setIfInBounds i true).getD k false)=(((List.range ops.size).filter fun k=>!listed.getD k false)).filter fun k=>!decide (k=i):=by
    rw[List.filter_filter];congr 1;funext k;rw[hset];show(!(listed.getD k false||decide (k=i)))=(!decide (k=i)&&!listed.getD k false)
    cases listed.getD k false<;>cases decide (k=i)<;>rfl
   rw[e1];have hm:i∈(List.range ops.size).filter fun k=>!listed.getD k false:=Ev.2 ⟨by simpa using hin,by rw[hoff];rfl⟩
   exact List.length_filter_lt_length_iff_exists.2 ⟨i,hm,by simp⟩
  omega
theorem uI{E:Env R}(hE:ib P C.L C.nl E)(hm:P.follows .mixedOrders=true){id:Nat}{ops:Array Oper}{draw:Bool}{Q:Exit->Act->World->Prop}{st:St}{a:Act}{K:St->Option R}(R':Rel C γ w st a.tmps)(G:Good E a)
  (he:pO E ops draw st K=some r) (hK:fU C E r K (Q .normal)):(Code.region id ops draw).wp P Q a w:=by
 cases draw with
 |false=>exact wp_region_list (gp hE R' G he hK)
 |true=>
  have he:cK E ops ops.toList st [] (fun l st=>if kF ops l=true then K st else none)=some r:=he;obtain⟨ds,h1,h2,h3⟩:=lQ he;simp only[List.reverse_nil,Em] at h2;obtain⟨hap,h2⟩:=aa h2;refine wp_region_any hm (wY hE (by simpa using h1) (fun i o d hi hd=>h3 i o d (by simpa using hi) hd) hap r (fun γ a w R1 G1=>hK γ _ a w R1 G1 h2) ops.size _ γ a _ (by simp) ?_ (fun j o _ hb=>?_) ?_ G);·exact Eg (List.length_filter_le _ _) (by simp)
  ·simp[Array.getD_eq_getD_getElem?,Array.getElem?_replicate] at hb;split at hb<;>simp at hb
  ·rw[fK (b':=fun k=>decide (k<0+0)) fun j _=>by
    simp[Array.getD_eq_getD_getElem?,Array.getElem?_replicate];split<;>simp]
   rw[ky];exact R'.world rfl rfl rfl rfl
end
end Rv
namespace Rv
open Go
section
variable{P:Program}{C:Ctx}{γ:Gam}{w:World}{R:Type}{r:R}
def Ex.toExit:Ex->Exit
 | .normal=>.normal
 | .exit id=>.exit id
 | .goto l=>.goto l
 | .ret=>.ret
def KOk(C:Ctx)(E:Env R)(r:R)(K:dZ R)(Q:Exit->Act->World->Prop):Prop:=
 ∀ex,fU C E r (K ex) (Q ex.toExit)
theorem ww:∀i j,(nmJ i).1=(nmJ j).1->i=j:=fun i j e=>by simp only[nmJ] at e;omega
theorem tJ{E:Env R}(hnl:E.nl=C.nl){sh:Shape}(hp:sh.pins E.nl=true){st:St}{ab:Abs sh.T}(he:sh.abs st=some ab){a:Act}(R':Rel C γ w st a.tmps)(G:Good E a):∃γ',Rel C γ' w (sh.mk' nmJ E.N ab.x) a.tmps:=by
 have I:=R'.inv;obtain⟨γ',R1,_⟩:=l8 he R' ww I.invW (fun d g ho _ _=>ho.1) (fun k e g c l _ hk hb hg=>I.rd g (I.own k e g c hk (by rw[hb];trivial) hg)) (fun k e g c _ hk hl hg=>I.own k e g c hk hl hg)
  (fun i hi=>by
   obtain⟨h1,e,h2,h3⟩:=tK he hp i (by omega);obtain⟨e',h4,h5⟩:=I.lent i hi;rw[h2] at h4;simp only[DL] at h4;subst h4;exact⟨rfl,_,h1,h5 h3⟩)
 have:st.s.length=E.N:=by rw[<- R'.size,G.size]
 rw[this] at R1;exact⟨γ',R1⟩
theorem ul{E:Env R}(hnl:E.nl=C.nl){h:JH R}{ms:List Nat}{F:St->Option R}(hj:∀x,h.j ms x=F (h.sh.mk' nmJ E.N x)){Q:Act->World->Prop}(hF:fU C E r F Q):fU C E r (goJ E.nl h ms) Q:=fun γ st a w R' G he=>by
 unfold goJ at he;obtain⟨hp,he⟩:=aa he;split at he;·rename_i ab hab;obtain⟨γ',R1⟩:=tJ hnl hp hab R' G;rw[hj] at he;exact hF γ' _ a w R1 G he
 ·cases he
def iB(C:Ctx)(E:Env R)(r:R)(h:LH R)(ms:List Nat)(n:Nat)(a:Act)(w:World):Prop:=
 ∃γ x,Rel C γ w (h.sh.mk' nmJ E.N x) a.tmps/\Good E a/\h.l ms n x=some r
theorem mI{E:Env R}(hnl:E.nl=C.nl){h:LH R}{ms:List Nat}{n:Nat}{Q:Act->World->Prop}(hQ:∀a w,iB C E r h ms n a w->Q a w):fU C E r (goL E.nl h ms n) Q:=fun γ st a w R' G he=>by
 unfold goL at he;obtain⟨hp,he⟩:=aa he;split at he;·rename_i ab hab;obtain⟨γ',R1⟩:=tJ hnl hp hab R' G;exact hQ a w ⟨γ',_,R1,G,he⟩
 ·cases he
theorem gV:∀{c:Code}{l:Nat}{b:Code},dm c l=some b->findLabel c l=some (.seq .skip b)
 | .seq a b,l,b',h=>by
  simp only[dm] at h;split at h
  ·rename_i i hi;have ha:a=.label i:=by
    unfold fG at hi;split at hi;·simp only[DL] at hi;rw[hi]
    ·cases hi
   subst ha;split at h;·rename_i e;subst e;simp only[DL] at h;subst h;simp[findLabel]
   ·rename_i e;simp only[findLabel];rw[if_neg (by simpa using e)];exact gV h
  ·split at h
   ·rename_i hn;simp only[findLabel];rw[Option.isNone_iff_eq_none.1 hn];exact gV h
   ·cases h
 | .skip,_,_,h | .label _,_,_,h | .region ..,_,_,h | .cond ..,_,_,h | .block ..,_,_,h | .loop _,_,_,h | .rangeFunc ..,_,_,h | .exit _,_,_,h | .scope _,_,_,h | .goto _,_,_,h | .ret,_,_,h | .refuse _,_,_,h=>by cases h
theorem jJ:∀{c:Code}{l:Nat}{b:Code},dm c l=some b->sizeOf b<sizeOf c
 | .seq a b,l,b',h=>by
  simp only[dm] at h;split at h
  ·split at h
   ·simp only[DL] at h;subst h;simp only[Code.seq.sizeOf_spec];omega
   ·have:=jJ h;simp only[Code.seq.sizeOf_spec];omega
  ·split at h
   ·have:=jJ h;simp only[Code.seq.sizeOf_spec];omega
   ·cases h
 | .skip,_,_,h | .label _,_,_,h | .region ..,_,_,h | .cond ..,_,_,h | .block ..,_,_,h | .loop _,_,_,h | .rangeFunc ..,_,_,h | .exit _,_,_,h | .scope _,_,_,h | .goto _,_,_,h | .ret,_,_,h | .refuse _,_,_,h=>by cases h
theorem yx{E:Env R}{a:Code}{h:Nat×LH R}(hh:jL E a=some h):a=.label h.1/\E.lab h.1=some h.2:=by
 unfold jL at hh;split at hh
 ·rename_i l hl;split at hh
  ·rename_i g hg;simp only[DL] at hh;subst hh;refine⟨?_,hg⟩;unfold fG at hl;split at hl
   ·simp only[DL] at hl;rw[hl]
   ·cases hl
  ·cases hh
 ·cases hh
theorem wm{E:Env R}{l:Nat}{h:LH R}(hh:E.lab l=some h):jL E (.label l)=some (l,h):=by
 simp[jL,fG,hh]
theorem gW{E:Env R}{l:Nat}{h:LH R}(hl:E.lab l=some h):∀{c b:Code}{K:List Nat->dZ R},dm c l=some b->(∀s,s∈sites E c K->s.ok E) ->
  (bD b).isEmpty=true/\(Site.loop h b (fun ms m=>mM E.nl l h ms m (K ms))).ok E/\∀s,s∈sites E b (fun ms=>mM E.nl l h ms.tail ms.head! (K ms.tail))->s.ok E
 | .seq x y,b,K,hf,hs=>by
  simp only[dm] at hf;simp only[sites] at hs;split at hf
  ·rename_i i hi;have hx:x=.label i:=by
    unfold fG at hi;split at hi;·simp only[DL] at hi;rw[hi]
    ·cases hi
   subst hx;split at hf;·rename_i e;subst e;simp only[DL] at hf;subst hf;rw[wm hl] at hs;exact⟨hs (.flag (bD y).isEmpty) (by simp),hs (.loop h y fun ms m=>mM E.nl i h ms m (K ms)) (by simp),fun s h=>hs s (by simp[h])⟩
   ·cases hlh:jL E (.label i) with
    |some g=>
     rw[hlh] at hs;have h1:=hs (.flag (bD y).isEmpty) (by simp);have h2:bD y=[]:=by simpa[Site.ok] using h1
     exact absurd hf (by
      have:∀{c:Code},bD c=[]->dm c l=none:=by
       intro c
       induction c with
       |seq a b iha ihb=>
        intro hc;simp only[bD,List.append_eq_nil_iff] at hc;simp only[dm];split
        ·rename_i j hj;exfalso;unfold fG at hj;split at hj
         ·simp[bD] at hc
         ·cases hj
        ·split
         ·exact ihb hc.2
         ·rfl
       |_=>intro _;rfl
      rw[this h2];simp)
    |none=>
     rw[hlh] at hs;exact gW hl hf fun s h=>hs s (by simp[h])
  ·rename_i hi;split at hf
   ·have:jL E x=none:=by unfold jL;rw[hi]
    rw[this] at hs;exact gW hl hf fun s h=>hs s (by simp[h])
   ·cases hf
 | .skip,_,_,h,_ | .label _,_,_,h,_ | .region ..,_,_,h,_ | .cond ..,_,_,h,_ | .block ..,_,_,h,_ | .loop _,_,_,h,_ | .rangeFunc ..,_,_,h,_ | .exit _,_,_,h,_ | .scope _,_,_,h,_ | .goto _,_,_,h,_ | .ret,_,_,h,_ | .refuse _,_,_,h,_=>by cases h
def gm(C:Ctx)(E:Env R)(r:R)(c:Code)(ms:List Nat)(Q:Exit->Act->World->Prop):Prop:=
 ∀l h,l∈bD c->E.lab l=some h->∀n a w,iB C E r h ms n a w->Q (.goto l) a w
theorem gm.of_nil{E:Env R}{c:Code}{ms:List Nat}{Q:Exit->Act->World->Prop}(h:(bD c).isEmpty=true):gm C E r c ms Q:=fun l g hl=>by
 rw[List.isEmpty_iff.1 h] at hl;simp at hl
theorem pM{E:Env R}(hE:ib P C.L C.nl E)(hm:P.follows .mixedOrders=true):∀(n:Nat) (c:Code),sizeOf c<n->∀{Kf:List Nat->dZ R} (ms:List Nat) {Q:Exit->Act->World->Prop},(∀s,s∈sites E c Kf->s.ok E)->gm C E r c ms Q->KOk C E r (Kf ms) Q ->
  fU C E r (fun st=>aC E ms c st (Kf ms)) (c.wp P Q):=by
 intro n
 induction n with
 |zero=>intro c hc;omega
 |succ n ih=>
 intro c hc Kf ms Q hs hL hK γ st a w R' G he;cases c with
 |skip=>exact wp_skip (hK .normal γ st a w R' G (by simpa[aC] using he))
 |label l=>exact wp_label (hK .normal γ st a w R' G (by simpa[aC] using he))
 |region id ops draw=>exact uI hE hm R' G (by simpa[aC] using he) (hK .normal)
 |seq x y=>
  simp only[aC] at he;simp only[sites] at hs;cases hlh:jL E x with
  |some h=>
   rw[hlh] at he hs;obtain⟨hx,hlab⟩:=yx hlh;subst hx;refine wp_seq (wp_label ?_);show y.wp P Q a w;refine mI hE.nl (Q:=y.wp P Q) (fun a w hLp=>?_) γ st a w R' G he;obtain⟨γ,x,R1,G1,hx⟩:=hLp;have hsite:=hs (.loop h.2 y fun ms m=>mM E.nl h.1 h.2 ms m (Kf ms)) (by simp) ms;cases hn:E.n with
   |zero=>rw[hn,hsite.1] at hx;cases hx
   |succ m=>
    rw[hn,hsite.2] at hx;refine ih y (by simp at hc;omega) (Kf:=fun ms=>mM E.nl h.1 h.2 ms.tail ms.head! (Kf ms.tail)) (m::ms) (fun s h=>hs s (by simp[h])) (gm.of_nil (hs (.flag (bD y).isEmpty) (by simp))) ?_ γ _ a w R1 G1 hx;intro ex;cases ex with
    |goto i=>
     intro γ st a w R' G he;have he:(if i=h.1 then goL E.nl h.2 ms m st else Kf ms (.goto i) st)=some r:=he;by_cases e:i=h.1;·subst e;rw[if_pos rfl] at he;exact mI hE.nl (fun a w hLp=>hL h.1 h.2 (by simp[bD]) hlab m a w hLp) γ st a w R' G he
     ·rw[if_neg e] at he;exact hK (.goto i) γ st a w R' G he
    |normal=>exact hK .normal
    |exit id=>exact hK (.exit id)
    |ret=>exact hK .ret
  |none=>
   rw[hlh] at he hs;simp only[List.cons_append,D8,D9] at hs;have hflag:=hs _ (.inl rfl);have hLx:gm C E r x ms (Exit.then (y.wp P Q) Q):=by
    intro l g hl hg;simp only[Site.ok,Bool.or_eq_true] at hflag;rcases hflag with h|h
    ·obtain⟨i,hi⟩:=Option.isSome_iff_exists.1 h;unfold fG at hi;split at hi
     ·simp only[bD,EB] at hl;subst hl;rw[wm hg] at hlh;cases hlh
     ·cases hi
    ·rw[List.isEmpty_iff.1 h] at hl;simp at hl
   have hy:=ih y (by simp at hc;omega) ms (fun s h=>hs s (.inr (.inr h))) (fun l g hl=>hL l g (by simp[bD,hl])) hK;refine wp_seq (ih x (by simp at hc;omega) (Kf:=fun ms=>Ae E ms y (fun st=>aC E ms y st (Kf ms)) (Kf ms)) ms (fun s h=>hs s (.inr (.inl (.inl h)))) hLx ?_ γ st a w R' G he);intro ex;cases ex with
   |normal=>
    show fU C E r (fun st=>match (first y).bind E.join with|some h=>goJ E.nl h ms st|none=>aC E ms y st (Kf ms)) (y.wp P Q);cases hj:(first y).bind E.join with
    |none=>exact hy
    |some h=>
     have:=hs (.join h y Kf) (.inr (.inl (.inr (by rw[hj];simp))));exact ul hE.nl (fun x=>this ms x) hy
   |exit id=>exact hK (.exit id)
   |goto l=>exact hK (.goto l)
   |ret=>exact hK .ret
 |cond cv x y=>
  have hsz:=hc;simp only[Code.cond.sizeOf_spec] at hsz;simp only[aC] at he;simp only[sites,List.cons_append,D8,D9] at hs;have hflag:=hs _ (.inl rfl);simp only[Site.ok,DW] at hflag;split at he
  ·rename_i t hcv;have hv:=(R'.opd hcv).1;have hv:a.eval cv=.bool t:=hv;refine wp_cond hv ?_;have hx:=ih x (by omega) ms (fun s h=>hs s (.inr (.inl (.inr h)))) (gm.of_nil hflag.1) hK;have hy:=ih y (by omega) ms (fun s h=>hs s (.inr (.inr h))) (gm.of_nil hflag.2) hK;split at he
   ·rename_i ht;rw[if_pos ht];cases hj:(first x).bind E.join with
    |none=>rw[hj] at he;exact hx γ st a w R' G he
    |some h=>
     rw[hj] at he;have:=hs (.join h x Kf) (.inr (.inl (.inl (.inl (by rw[hj];simp)))));exact ul hE.nl (fun x=>this ms x) hx γ st a w R' G he
   ·rename_i ht;rw[if_neg ht];cases hj:(first y).bind E.join with
    |none=>rw[hj] at he;exact hy γ st a w R' G he
    |some h=>
     rw[hj] at he;have:=hs (.join h y Kf) (.inr (.inl (.inl (.inr (by rw[hj];simp)))));exact ul hE.nl (fun x=>this ms x) hy γ st a w R' G he
  ·cases he
 |block id c=>
  simp only[aC] at he;simp only[sites,D8] at hs;refine wp_block (ih c (by simp at hc;omega) (Kf:=fun ms=>pV id (Kf ms)) ms (fun s h=>hs s (.inr h)) (gm.of_nil (hs _ (.inl rfl))) ?_ γ st a w R' G he);intro ex;cases ex with
  |normal=>exact hK .normal
  |exit i=>
   intro γ st a w R' G he;simp only[pV] at he;show(if i=id then Q .normal a w else Q (.exit i) a w);split at he;·rename_i h;rw[if_pos h];exact hK .normal γ st a w R' G he
   ·rename_i h;rw[if_neg h];exact hK (.exit i) γ st a w R' G he
  |goto l=>exact hK (.goto l)
  |ret=>exact hK .ret
 |loop c=>
  simp only[aC] at he;simp only[sites] at hs;split at he
  ·rename_i h hl;rw[hl] at hs;simp only[D8] at hs;have hsite:=hs _ (.inr (.inl rfl)) ms;refine mI hE.nl (Q:=(Code.loop c).wp P Q) (fun a w hL=>?_) γ st a w R' G he;refine wp_loop_ghost (iB C E r h ms) E.n hL fun n a w hn=>?_
   obtain⟨γ,x,R1,G1,hx⟩:=hn;cases n with
   |zero=>rw[hsite.1] at hx;cases hx
   |succ m=>
    rw[hsite.2] at hx;refine ih c (by simp at hc;omega) (Kf:=fun ms=>xh E.nl h ms.tail ms.head! (Kf ms.tail)) (m::ms) (fun s h=>hs s (.inr (.inr h))) (gm.of_nil (hs _ (.inl rfl))) ?_ γ _ a w R1 G1 hx;intro ex;cases ex with
    |normal=>exact mI hE.nl fun a w hL=>⟨m,Nat.lt_succ_self m,hL⟩
    |exit id=>exact hK (.exit id)
    |goto l=>exact hK (.goto l)
    |ret=>exact hK .ret
  ·cases he
 |exit id=>exact wp_exit (hK (.exit id) γ st a w R' G (by simpa[aC] using he))
 |goto l=>exact wp_goto (hK (.goto l) γ st a w R' G (by simpa[aC] using he))
 |ret=>exact wp_ret (hK .ret γ st a w R' G (by simpa[aC] using he))
 |scope c=>
  simp only[aC] at he;simp only[sites,D8] at hs;have hflag:=hs _ (.inl rfl);have hs':∀s,s∈sites E c (fun ms=>jX (Kf ms))->s.ok E:=fun s h=>hs s (.inr h)
  have straight:(∀l h,l∈bD c->E.lab l=some h->False)->(Code.scope c).wp P Q a w:=by
   intro hno;refine wp_scope_straight (ih c (by simp at hc;omega) (Kf:=fun ms=>jX (Kf ms)) ms hs' (fun l h hl hg=>(hno l h hl hg).elim) ?_ γ st a w R' G he);intro ex;cases ex with
   |normal=>exact hK .normal
   |exit id=>exact hK (.exit id)
   |goto l=>exact fun γ st a w R' G he=>by cases he
   |ret=>exact hK .ret
  simp only[Site.ok,yR] at hflag;split at hflag;·rename_i hlabs;exact straight fun l h hl=>by rw[hlabs] at hl;simp at hl
  ·rename_i l hlabs;cases hg:E.lab l with
   |none=>
    refine straight fun i h hi hg'=>?_
    rw[hlabs] at hi;simp only[EB] at hi;subst hi;rw[hg] at hg';cases hg'
   |some h=>
    obtain⟨b,hb⟩:=Option.isSome_iff_exists.1 hflag;obtain⟨g1,g2,g3⟩:=gW hg hb hs';refine wp_scope_jumps l (fun a w=>∃n,iB C E r h ms n a w) (fun a w=>leastOf fun n=>iB C E r h ms n a w) (gV hb) ?_ ?_
    ·refine ih c (by simp at hc;omega) (Kf:=fun ms=>jX (Kf ms)) ms hs' (fun i g hi hg'=>?_) ?_ γ st a w R' G he
     ·rw[hlabs] at hi;simp only[EB] at hi;subst hi;rw[hg] at hg';simp only[DL] at hg';subst hg';exact fun n a w hLp=>⟨rfl,n,hLp⟩
     ·intro ex;cases ex with
      |normal=>exact hK .normal
      |exit id=>exact hK (.exit id)
      |goto l=>exact fun γ st a w R' G he=>by cases he
      |ret=>exact hK .ret
    ·intro a w hJ;have hleast:=(leastOf_spec hJ).1;refine wp_seq (wp_skip ?_);show b.wp P _ a w;generalize hnn:leastOf (fun n=>iB C E r h ms n a w)=n at *;obtain⟨γ,x,R1,G1,hx⟩:=hleast;cases n with
     |zero=>rw[(g2 ms).1] at hx;cases hx
     |succ m=>
      rw[(g2 ms).2] at hx;have hlt:=jJ hb;refine ih b (by simp only[Code.scope.sizeOf_spec] at hc;omega) (Kf:=fun ms=>mM E.nl l h ms.tail ms.head! (jX (Kf ms.tail))) (m::ms) g3 (gm.of_nil g1) ?_ γ _ a w R1 G1 hx;intro ex;cases ex with
      |goto i=>
       intro γ st a w R' G he;have he:(if i=l then goL E.nl h ms m st else none)=some r:=he;obtain⟨e,he2⟩:=aa he;subst e;refine mI hE.nl (fun a' w' hLp=>?_) γ st a w R' G he2;exact show i=i/\(∃n,iB C E r h ms n a' w')/\leastOf (fun n=>iB C E r h ms n a' w')<m+1 from⟨rfl,⟨m,hLp⟩,Nat.lt_succ_of_le ((leastOf_spec ⟨m,hLp⟩).2 m hLp)⟩
      |normal=>exact hK .normal
      |exit id=>exact hK (.exit id)
      |ret=>exact hK .ret
  ·cases hflag
 |rangeFunc f p x y=>cases he
 |refuse why=>cases he
theorem qE{E:Env R}(hE:ib P C.L C.nl E)(hm:P.follows .mixedOrders=true)(c:Code){Kf:List Nat->dZ R}(ms:List Nat){Q:Exit->Act->World->Prop}(hs:∀s,s∈sites E c Kf->s.ok E)(hL:gm C E r c ms Q)(hK:KOk C E r (Kf ms) Q) :
  fU C E r (fun st=>aC E ms c st (Kf ms)) (c.wp P Q):=pM hE hm _ c (Nat.lt_succ_self _) ms hs hL hK
end
end Rv
namespace Rv
open Go
def qg(te:TypeId->Option TI)(st:St):ResultVar->Option V1
 | .tmp t=>opd st (.tmp t)
 | .cell a t=>match opd st (.tmp a) with
  |some (.c (.ptr k v off))=>bQ te st t (.c (.ptr k v off)) some
  |_=>none
def kw(te:TypeId->Option TI)(st:St):List ResultVar->Option (List V1)
 |[]=>some []
 |x::r=>match qg te st x with
  |some v=>match kw te st r with
   |some l=>some (v::l)
   |none=>none
  |none=>none
def sU(te:TypeId->Option TI)(rs:List ResultVar)(sp:Spec)(st:St):Option sp.r.T:=
 match kw te st rs with
 |some vs=>if vs.length=sp.r.slots.length/\sp.r.pins sp.a.boxes.length=true then match sp.r.abs ⟨vs.map .v,st.h⟩ with
  |some a=>some a.x
  |none=>none
  else none
 |none=>none
def mF(te:TypeId->Option TI)(rs:List ResultVar)(sp:Spec):dZ sp.r.T
 | .normal,st=>sU te rs sp st
 | .ret,st=>sU te rs sp st
 |_,_=>none
def init(sp:Spec)(N:Nat)(x:sp.a.T):St:=
 let s:=sp.a.mk' nmJ sp.a.slots.length x
 ⟨s.s++List.replicate (N-sp.a.slots.length) V.dead,s.h⟩
section
variable{P:Program}{C:Ctx}{γ:Gam}{w:World}{R:Type}{r:R}
def uL(tmps:Array Value):ResultVar->Sem Value
 | .tmp t=>pure (tmps.getD t undef)
 | .cell b t=>do loadVar t (<- asAddr (tmps.getD b undef))
theorem uK{te:TypeId->Option TI}(hte:∀t i,te t=some i->aD P t i){st:St}{a:Act}(R':Rel C γ w st a.tmps){x:ResultVar}{v:V1}(he:qg te st x=some v) :
  ∃u,aA C γ st.h w v u/\(uL a.tmps x).run P w=.ok u w:=by
 cases x with
 |tmp t=>
  simp only[qg] at he;exact⟨_,(R'.opd he).1,rfl⟩
 |cell b t=>
  simp only[qg] at he;split at he
  ·rename_i k kv off ho;have hb:=(R'.opd ho).1;obtain⟨y,hy,u,hu,hrun⟩:=oh (P:=P) hte R'.inv he hb;simp only[DL] at hy;subst hy;refine⟨u,hu,?_⟩;have h1:=hrun w (Ext.refl w);unfold bQ at he;split at he
   ·rename_i k' kv' off' ti he' _;injection he' with he'
    injection he' with e1 e2 e3
    subst e1 e2 e3;split at he
    ·rename_i l hat
     obtain⟨e,hk,hve,hbox⟩:=ay hat
     obtain⟨g,c,hγ,hv⟩:=hb.2.get hk hve l hbox;have hv':a.tmps.getD b undef=_:=hv;rw[show a.eval (.tmp b)=_ from hv'] at h1;show(do loadVar t (<- asAddr (a.tmps.getD b undef))).run P w=_;rw[hv'];exact h1
    ·cases he
   ·rename_i he' _;simp at he'
   ·rename_i he' _;simp at he'
   ·rename_i he' _;simp at he'
   ·cases he
  ·cases he
theorem ny{te:TypeId->Option TI}(hte:∀t i,te t=some i->aD P t i){st:St}{a:Act}(R':Rel C γ w st a.tmps):∀{l:List ResultVar}{vs:List V1},kw te st l=some vs ->
  ∃us:List Value,af (aA C γ st.h w) vs us/\(l.mapM (uL a.tmps)).run P w=.ok us w
 |[],vs,he=>by
  simp only[kw,DL] at he;subst he;exact⟨[],trivial,rfl⟩
 |x::l,vs,he=>by
  simp only[kw] at he;split at he
  ·rename_i v hv;split at he
   ·rename_i l' hl;simp only[DL] at he;subst he;obtain⟨u,h1,h2⟩:=uK hte R' hv;obtain⟨us,h3,h4⟩:=ny hte R' hl;refine⟨u::us,⟨h1,h3⟩,?_⟩;rw[List.mapM_cons,DX,h2,DR,DX,h4];rfl
   ·cases he
  ·cases he
theorem sN{te:TypeId->Option TI}(hte:∀t i,te t=some i->aD P t i){st:St}{a:Act}(R':Rel C γ w st a.tmps){fn:Func}{vs:List V1}(he:kw te st fn.results.toList=some vs) :
  ∃rs:Array Value,af (aA C γ st.h w) vs rs.toList/\(results fn a.tmps).run P w=.ok (if h:rs.size=1 then rs[0] else .tuple rs) w:=by
 obtain⟨us,h1,h2⟩:=ny hte R' he;refine⟨us.toArray,h1,?_⟩;have hr:results fn a.tmps=(do
   let vs <- fn.results.mapM (uL a.tmps)
   pure (if h:vs.size=1 then vs[0] else .tuple vs)):=by
  unfold results;congr 1
 rw[hr,Array.mapM_eq_mapM_toList];simp only[DX,map_eq_pure_bind,h2,DR,D7]
theorem Da{L:World->Prop}{f:FuncId}{fn:Func}{c:Code}{sp:Spec}{E:Nat->Env sp.r.T}(hf:P.funcs[f]?=some fn)(hb:fn.body=some c)(hm:P.follows .mixedOrders=true)(hE:∀n,ib P L sp.a.boxes.length (E n))(hN:∀n,(E n).N=fn.ntmps)
  (hle:sp.a.slots.length<=fn.ntmps) (hlabs:(bD c).isEmpty=true) (hs:∀n s,s∈sites (E n) c (fun _=>mF (E n).te fn.results.toList sp)->s.ok (E n))
  (hx:∀x y,sp.f x=some y->∃n,aC (E n) [] c (init sp fn.ntmps x) (mF (E n).te fn.results.toList sp)=some y):Sat P L f sp:=by
 intro x y hy C γ vals hCL hCn R0;subst hCL;rw[<- hCn] at hE;obtain⟨n,hn⟩:=hx x y hy;have hsz:vals.size=sp.a.slots.length:=by
  rw[R0.size];show(au _ _ _).1.length=_;rw[bq];simp
 refine calls_of_wp hf hb ?_;have Ri:Rel C γ C.w0 (init sp fn.ntmps x) (vals++Array.replicate (fn.ntmps-vals.size) undef):=by
  have hl:(sp.a.mk' nmJ sp.a.slots.length x).s.length=sp.a.slots.length:=by rw[<- R0.size];exact hsz
  refine⟨?_,fun i v hi=>?_,R0.inv⟩;·simp only[init,Array.size_append,Array.size_replicate,DZ,EJ,hl,hsz]
  ·simp only[init] at hi;by_cases hlt:i<vals.size
   ·rw[Ej (by rw[hl,<- hsz];exact hlt)] at hi;have:=R0.slot i v hi;simpa[Array.getD_eq_getD_getElem?,Array.getElem?_append,hlt,init] using this
   ·rw[List.getElem?_append_right (by rw[hl,<- hsz];omega),List.getElem?_replicate] at hi;split at hi
    ·simp only[DL] at hi;subst hi;trivial
    ·cases hi
 refine qE (C:=C) (r:=y) (hE n) hm c [] (hs n) (Q:=bodyPost P fn _) (gm.of_nil hlabs) ?_ γ _ _ C.w0 Ri ⟨?_,rfl⟩ hn
 ·have fin:fU C (E n) y (sU (E n).te fn.results.toList sp) (fun a w=>a.defers=[]/\∃v,(results fn a.tmps).run P w=.ok v w/\∃(γ':Gam) (rs:Array Value),Ending.returned v=.returned (if h:rs.size=1 then rs[0] else .tuple rs)/\Rel C γ' w (sp.r.mk' nmJ sp.r.slots.length y) rs):=by
   intro γ1 st a w R1 G he;unfold sU at he;split at he
   ·rename_i vs hv;obtain⟨⟨hlen,hbx⟩,he'⟩:=aa he;split at he'
    ·rename_i ab hab;simp only[DL] at he';subst he';obtain⟨rs,ha,hrun⟩:=sN (hE n).te R1 hv;have Rr:Rel C γ1 w ⟨vs.map .v,st.h⟩ rs:=by
      refine⟨?_,fun i v hi=>?_,R1.inv⟩;·have:=ha.length;simp only[Et];rw[this];simp
      ·simp only[Ez,Option.map_eq_some_iff] at hi;obtain⟨v1,h1,rfl⟩:=hi;obtain⟨u,hu,hr⟩:=ha.get h1;have:rs.getD i undef=u:=by
        rw[Array.getD_eq_getD_getElem?,<- Array.getElem?_toList,hu];rfl
       rw[this];exact hr
     obtain⟨γ',R2,_⟩:=l8 hab Rr ww R1.inv.invW (fun d g ho _ _=>ho.1) (fun k e g c l _ hk hb hg=>R1.inv.rd g (R1.inv.own k e g c hk (by rw[hb];trivial) hg)) (fun k e g c _ hk hl hg=>R1.inv.own k e g c hk hl hg)
      (fun i hi=>by
       obtain⟨h1,e,h2,h3⟩:=tK hab hbx i (by omega);obtain⟨e',h4,h5⟩:=R1.inv.lent i hi;simp only at h2;rw[h2] at h4;simp only[DL] at h4;subst h4;exact⟨rfl,_,h1,h5 h3⟩)
     have hl2:(vs.map V.v).length=sp.r.slots.length:=by rw[Et];exact hlen
     rw[hl2] at R2;exact⟨G.defers,_,hrun,γ',rs,rfl,R2⟩
    ·cases he'
   ·cases he
  intro ex;cases ex with
  |normal=>exact fin
  |ret=>exact fin
  |exit id=>exact fun γ1 st a w R1 G he=>by cases he
  |goto l=>exact fun γ1 st a w R1 G he=>by cases he
 ·simp only[Array.size_append,Array.size_replicate,hN n,hsz];omega
end
end Rv
namespace Rv
open Go
def uE:Cell->Value->Bool
 | .int k n,.int j m=>decide (k=j)&&decide (n=m)
 | .bool b,.bool c=>b == c
 | .str s,.string t=>decide (t.data.toList=s)
 | .nilS,.slice none 0 0=>true
 | .raw .nilIface,.nilIface=>true
 | .raw (.pointer none),.pointer none=>true
 | .raw .nilFunc,.nilFunc=>true
 |_,_=>false
def nM:List Cell->List Value->Bool
 |[],[]=>true
 |c::l,v::m=>uE c v&&nM l m
 |_,_=>false
def x9(P:Program)(f:Nat×Nat×Bool)(fd:Field):Bool:=
 decide (fd.offset=f.1)&&decide (0<f.2.1)&&(match P.info? fd.type with|some inf=>decide (inf.size=f.2.1)|none=>false) &&
  (match P.underlying fd.type with|some d=>dQ d == f.2.2|none=>false)
def fieldsB(P:Program):List (Nat×Nat×Bool)->List Field->Bool
 |[],[]=>true
 |f::l,g::m=>x9 P f g&&fieldsB P l m
 |_,_=>false
def pJ(P:Program)(rec:TypeId->Ty->Bool):List Field->Nat->Ty->Bool
 |[],_,.nil=>true
 |f::fs,off,.pair A B=>!(f.name == "_")&&decide (f.offset=off)&&rec f.type A&&(match P.info? f.type with|some inf=>decide (inf.size=A.size)|none=>false) &&
  (match P.underlying f.type with|some d=>dQ d == A.isAgg|none=>false)&&pJ P rec fs (off+A.size) B
 |_,_,_=>false
def jw:Option TypeDesc->Bool
 |some (.struct _)=>true
 |_=>false
def eqB(P:Program):Nat->TypeId->Ty->Bool
 |0,_,_=>false
 |d+1,t,T=>match T with
  | .int k=>match P.underlying t with|some (.int k')=>decide (k'=k)|_=>false
  | .bool=>match P.underlying t with|some .bool=>true|_=>false
  | .str=>match P.underlying t with|some .string=>true|_=>false
  | .sl _=>false
  | .fn=>false
  | .nil=>jw (P.underlying t)&&!(P.stoodInHeld t)&&pJ P (eqB P d) (P.fieldsOf t).toList 0 .nil
  | .pair a b=>jw (P.underlying t)&&!(P.stoodInHeld t)&&pJ P (eqB P d) (P.fieldsOf t).toList 0 (.pair a b)
def gT(P:Program)(t:TypeId)(i:TI):Bool:=
 match P.info? t,P.underlying t with
 |some inf,some d=>
  decide (inf.size=i.size)&&decide (inf.bytes=i.bytes)&&(match inf.zero with|some z=>decide (z.cells.size=i.size)&&nM i.zero z.cells.toList|none=>false) &&
  (dQ d == i.agg)&&(i.fields.isEmpty||match d with | .struct fs=>fieldsB P i.fields fs.toList|_=>false) &&
  (match i.elem with|none=>true|some e=>match d with | .slice e'=>decide (e'=e)|_=>false) &&
  (match i.int with|none=>true|some k=>match d with | .int k'=>decide (k'=k)|_=>false) &&
  (!i.str||match d with | .string=>true|_=>false) &&
  (match i.ty with|none=>true|some T=>decide (T.size=i.size)&&(T.isAgg == i.agg)&&(match T with | .bool=>(match d with | .bool=>true|_=>false)|_=>true)) &&
  (!i.iface||match d with | .interface _=>true|_=>false) &&
  (match i.eq with|none=>true|some T=>eqB P 20 t T&&!T.hasSl&&T.isAgg&&!(P.eqGuardType P.depth t)) &&
  (!i.cmp||inf.comparable)&&(i.iface||match d with | .interface _=>false|_=>true) &&
  (match i.arr with|none=>true|some n=>match d with | .array m e=>decide (m=n)&&(match P.info? e,P.underlying e with|some ie,some de=>decide (0<n)&&(decide (ie.size=i.size / n)&&(!decide (i.size=n)||!dQ de))|_,_=>false)|_=>false)
 |_,_=>false
section
variable{P:Program}
theorem uF{c:Cell}{v:Value}(h:uE c v=true):c.plain=some v:=by
 unfold uE at h;split at h;·simp only[DW,D6] at h;rw[h.1,h.2];rfl
 ·simp only[beq_iff_eq] at h;rw[h];rfl
 ·simp only[D6] at h;subst h;rfl
 ·rfl
 ·rfl
 ·rfl
 ·rfl
 ·cases h
theorem lX:∀{l:List Cell}{m:List Value},nM l m=true->af (fun c v=>c.plain=some v) l m
 |[],[],_=>trivial
 |c::l,v::m,h=>by
  simp only[nM,DW] at h;exact⟨uF h.1,lX h.2⟩
 |[],_::_,h=>by cases h
 |_::_,[],h=>by cases h
theorem lS:∀{l:List (Nat×Nat×Bool)}{m:List Field},fieldsB P l m=true->af (fun(f:Nat×Nat×Bool) (fd:Field)=>fd.offset=f.1/\0<f.2.1/\(∃inf,P.info? fd.type=some inf/\inf.size=f.2.1) /\
  ∃d,P.underlying fd.type=some d/\dQ d=f.2.2) l m
 |[],[],_=>trivial
 |f::l,g::m,h=>by
  simp only[fieldsB,DW] at h;refine⟨?_,lS h.2⟩;have h:=h.1;unfold x9 at h;simp only[DW,D6] at h;obtain⟨⟨⟨h1,h2⟩,h3⟩,h4⟩:=h;refine⟨h1,h2,?_,?_⟩
  ·split at h3
   ·rename_i inf hi;exact⟨inf,hi,by simpa using h3⟩
   ·cases h3
  ·split at h4
   ·rename_i d hd;exact⟨d,hd,by simpa using h4⟩
   ·cases h4
 |[],_::_,h=>by cases h
 |_::_,[],h=>by cases h
theorem kz{t:TypeId}(h:jw (P.underlying t)=true):P.underlying t=some (.struct (P.fieldsOf t)):=by
 unfold jw at h;split at h;·rename_i fs hu;rw[hu];simp[Program.fieldsOf,hu]
 ·cases h
theorem jH{rb:TypeId->Ty->Bool}{rp:TypeId->Ty->Prop}(hr:∀t T,rb t T=true->rp t T):∀{fs:List Field}{off:Nat}{T:Ty},pJ P rb fs off T=true->tq P rp fs off T
 |[],off,.nil,_=>trivial
 |f::fs,off,.pair A B,h=>by
  simp only[pJ,DW,D6,Bool.not_eq_true'] at h;obtain⟨⟨⟨⟨⟨h1,h2⟩,h3⟩,h4⟩,h5⟩,h6⟩:=h;refine⟨h1,h2,hr _ _ h3,?_,?_,jH hr h6⟩
  ·split at h4
   ·rename_i inf hi;exact⟨inf,hi,by simpa using h4⟩
   ·cases h4
  ·split at h5
   ·rename_i d hd;exact⟨d,hd,by simpa using h5⟩
   ·cases h5
 |[],_,.int _,h|[],_,.bool,h|[],_,.str,h|[],_,.sl _,h|[],_,.pair _ _,h|[],_,.fn,h=>by cases h
 |_::_,_,.int _,h|_::_,_,.bool,h|_::_,_,.str,h|_::_,_,.sl _,h|_::_,_,.nil,h|_::_,_,.fn,h=>by cases h
theorem mG:∀{d:Nat}{t:TypeId}{T:Ty},eqB P d t T=true->qp P d t T
 |0,_,_,h=>by cases h
 |d+1,t,T,h=>by
  cases T with
  |int k=>
   simp only[eqB] at h;split at h
   ·rename_i k' hu;have:k'=k:=by simpa using h
    subst this;exact hu
   ·cases h
  |bool=>
   simp only[eqB] at h;split at h;·rename_i hu;exact hu
   ·cases h
  |str=>
   simp only[eqB] at h;split at h;·rename_i hu;exact hu
   ·cases h
  |sl t=>cases h
  |fn=>cases h
  |nil=>
   simp only[eqB,DW,Bool.not_eq_true'] at h;exact⟨kz h.1.1,h.1.2,jH (fun t T hh=>mG hh) h.2⟩
  |pair a b=>
   simp only[eqB,DW,Bool.not_eq_true'] at h;exact⟨kz h.1.1,h.1.2,jH (fun t T hh=>mG hh) h.2⟩
theorem sG{t:TypeId}{i:TI}(h:gT P t i=true):aD P t i:=by
 unfold gT at h;split at h
 ·rename_i inf d hi hd;simp only[DW,D6] at h;obtain⟨⟨⟨⟨⟨⟨⟨⟨⟨⟨⟨⟨⟨h1,h2⟩,h3⟩,h4⟩,h5⟩,h6⟩,h7⟩,h8⟩,h9⟩,h10⟩,h11⟩,h12⟩,h13⟩,h14⟩:=h;refine⟨?_,⟨d,hd,by simpa using h4⟩,?_,?_,?_,?_,?_,?_,?_,?_,?_,?_,?_⟩
  ·split at h3
   ·rename_i z hz;simp only[DW,D6] at h3;exact⟨inf,hi,h1,h2,z,hz,h3.1,lX h3.2⟩
   ·cases h3
  ·simp only[Bool.or_eq_true,List.isEmpty_iff] at h5;rcases h5 with h5|h5
   ·exact .inl h5
   ·split at h5
    ·rename_i fs;exact .inr ⟨fs,hd,lS h5⟩
    ·cases h5
  ·intro e he;rw[he] at h6;simp only at h6;split at h6
   ·rename_i e';have:e'=e:=by simpa using h6
    rw[hd,this]
   ·cases h6
  ·intro k hk;rw[hk] at h7;simp only at h7;split at h7
   ·rename_i k';have:k'=k:=by simpa using h7
    rw[hd,this]
   ·cases h7
  ·intro hs;rw[hs] at h8;simp only[Bool.not_true,Bool.false_or] at h8;split at h8
   ·exact hd
   ·cases h8
  ·intro T hT;rw[hT] at h9;simp only[DW,D6] at h9;exact⟨h9.1.1,by simpa using h9.1.2⟩
  ·intro hT;rw[hT] at h9;simp only[DW,D6] at h9;have h:=h9.2;split at h
   ·exact hd
   ·cases h
  ·intro hi;rw[hi] at h10;simp only[Bool.not_true,Bool.false_or] at h10;split at h10
   ·exact⟨_,hd⟩
   ·cases h10
  ·intro hc;rw[hc] at h12;exact⟨inf,hi,by simpa using h12⟩
  ·intro hni ms hms;rw[hni] at h13;rw[hd] at hms;simp only[DL] at hms;subst hms;simp at h13
  ·intro T hT;rw[hT] at h11;simp only[DW,Bool.not_eq_true'] at h11;exact⟨mG h11.1.1.1,h11.1.1.2,h11.1.2,h11.2⟩
  ·intro n hn;rw[hn] at h14;simp only at h14;split at h14
   ·rename_i m e;simp only[DW,D6] at h14;obtain⟨hm,h14⟩:=h14;split at h14
    ·rename_i ie de hie hde;simp only[DW,Bool.or_eq_true,D6,Bool.not_eq_true',decide_eq_false_iff_not] at h14;refine⟨h14.1,e,by rw[hd,hm],fun w=>?_,fun hs w=>?_⟩
     ·simp[Go.sizeOf,typeInfo,hie,h14.2.1]
     ·have:(Go.isAgg e).run P w=.ok (dQ de) w:=by
       simp only[Go.isAgg,DX,run_underlying hde,DR];cases de<;>rfl
      rw[(h14.2.2.resolve_left fun h=>h hs)] at this;exact this
    ·cases h14
   ·cases h14
 ·cases h
def Ba(l:List (TypeId×TI)):TypeId->Option TI:=fun t=>(l.find? fun p=>p.1 == t).map (·.2)
theorem Cs{l:List (TypeId×TI)}(h:(l.all fun p=>gT P p.1 p.2)=true):∀t i,Ba l t=some i->aD P t i:=by
 intro t i he;unfold Ba at he;simp only[Option.map_eq_some_iff] at he;obtain⟨p,hp,rfl⟩:=he;have h1:=List.find?_some hp;have h2:=List.mem_of_find?_eq_some hp;simp only[beq_iff_eq] at h1;subst h1;exact sG (El.1 h p h2)
def uU(l:List ((FuncId×List FuncId)×Spec)):FuncId->List FuncId->Option Spec:=fun f ids=>(l.find? fun p=>p.1.1 == f&&p.1.2 == ids).map (·.2)
theorem yX{L:World->Prop}{l:List ((FuncId×List FuncId)×Spec)}(h:∀p,p∈l->Sat P L p.1.1 p.2/\az P p.1.1):∀f ids sp,uU l f ids=some sp->Sat P L f sp/\az P f:=by
 intro f ids sp he;unfold uU at he;simp only[Option.map_eq_some_iff] at he;obtain⟨p,hp,rfl⟩:=he;have h1:=List.find?_some hp;have h2:=List.mem_of_find?_eq_some hp;simp only[DW,beq_iff_eq] at h1;obtain⟨rfl,_⟩:=h1;exact h p h2
theorem si{L:World->Prop}:∀p,p∈([]:List ((FuncId×List FuncId)×Spec))->Sat P L p.1.1 p.2/\az P p.1.1:=fun p hp=>by simp at hp
theorem qh{L:World->Prop}{f:FuncId}{ids:List FuncId}{sp:Spec}{l:List ((FuncId×List FuncId)×Spec)}(h1:Sat P L f sp)(h2:az P f)(h:∀p,p∈l->Sat P L p.1.1 p.2/\az P p.1.1):∀p,p∈((f,ids),sp)::l->Sat P L p.1.1 p.2/\az P p.1.1:=fun p hp=>by
 rcases D8.1 hp with rfl|hp;·exact⟨h1,h2⟩
 ·exact h p hp
theorem AR{L:World->Prop}{f:FuncId}{sp:Spec}(h:∀x,sp.f x=none):Sat P L f sp:=fun x y hy=>by rw[h x] at hy;cases hy
variable{R:Type}
def Site.lhs(E:Env R):Site R->List ((T:Type)×T)
 | .join h _ _=>[⟨List Nat->h.sh.T->Option R,h.j⟩]
 | .loop h _ _=>[⟨List Nat->h.sh.T->Option R,fun ms x=>h.l ms 0 x⟩,⟨List Nat->Nat->h.sh.T->Option R,fun ms m x=>h.l ms (m+1) x⟩]
 | .flag b=>[⟨Bool,b⟩]
def Site.rhs(E:Env R):Site R->List ((T:Type)×T)
 | .join h b K=>[⟨List Nat->h.sh.T->Option R,fun ms x=>aC E ms b (h.sh.mk' nmJ E.N x) (K ms)⟩]
 | .loop h c K=>[⟨List Nat->h.sh.T->Option R,fun _ _=>none⟩,⟨List Nat->Nat->h.sh.T->Option R,fun ms m x=>aC E (m::ms) c (h.sh.mk' nmJ E.N x) (K ms m)⟩]
 | .flag _=>[⟨Bool,true⟩]
theorem Cn{E:Env R}{s:Site R}(h:s.lhs E=s.rhs E):s.ok E:=by
 cases s with
 |join h0 b K=>
  simp only[Site.lhs,Site.rhs,List.cons.injEq,and_true] at h;have h1:=eq_of_heq (Sigma.mk.inj h).2;intro ms x;rw[h1]
 |loop h0 c K=>
  simp only[Site.lhs,Site.rhs,List.cons.injEq,and_true] at h;have h1:=eq_of_heq (Sigma.mk.inj h.1).2;have h2:=eq_of_heq (Sigma.mk.inj h.2).2;intro ms;exact⟨fun x=>congrFun (congrFun h1 ms) x,fun m x=>congrFun (congrFun (congrFun h2 ms) m) x⟩
 |flag b=>
  simp only[Site.lhs,Site.rhs,List.cons.injEq,and_true] at h;exact eq_of_heq (Sigma.mk.inj h).2
theorem AV{E:Env R}{l:List (Site R)}(h:l.map (Site.lhs E)=l.map (Site.rhs E)):∀s,s∈l->s.ok E:=by
 induction l with
 |nil=>intro s hs;simp at hs
 |cons a l ih=>
  simp only[Ea,List.cons.injEq] at h;intro s hs;rcases D8.1 hs with rfl|hs;·exact Cn h.1
  ·exact ih h.2 s hs
def funcOf(P:Program)(f:FuncId):Func:=(P.funcs[f]?).getD default
def fq(P:Program)(f:FuncId):Code:=(funcOf P f).body.getD .skip
def lH(P:Program)(f:FuncId):List ResultVar:=(funcOf P f).results.toList
theorem di{P:Program}{f:FuncId} (h:((P.funcs[f]?).map fun fn=>fn.body.isSome&&!(fn.name == "runtime.NumGoroutine"))=some true):az P f:=by
 cases hf:P.funcs[f]? with
 |none=>rw[hf] at h;cases h
 |some fn=>
  rw[hf] at h;simp only[EA,DL,DW,Bool.not_eq_true'] at h;exact⟨fn,hf,h.1,h.2⟩
theorem C8{P:Program}{L:World->Prop}{f:FuncId}{sp:Spec}{E:Nat->Env sp.r.T}(hm:P.follows .mixedOrders=true)(hen:az P f)(hte:∀n t i,(E n).te t=some i->aD P t i)(hspec:∀n g ids s,(E n).spec g ids=some s->Sat P L g s/\az P g)(hnl:∀n,(E n).nl=sp.a.boxes.length)(hmaps:∀n,jP P L (E n).maps)
  (hN:∀n,(E n).N=(funcOf P f).ntmps) (hle:sp.a.slots.length<=(funcOf P f).ntmps) (hlabs:(bD (fq P f)).isEmpty=true) {g:Nat->sp.a.T->Option sp.r.T} (B:sp.a.T->Nat)
  (hs:∀n,(sites (E n) (fq P f) (fun _=>mF (E n).te (lH P f) sp)).map (Site.lhs (E n))=(sites (E n) (fq P f) (fun _=>mF (E n).te (lH P f) sp)).map (Site.rhs (E n)))
  (hx:∀n,(fun x=>aC (E n) [] (fq P f) (init sp (funcOf P f).ntmps x) (mF (E n).te (lH P f) sp))=g n) (hsp:∀x,sp.f x=g (B x) x):Sat P L f sp:=by
 obtain⟨fn,hf,hb,_⟩:=hen;have e1:funcOf P f=fn:=by simp[funcOf,hf]
 cases hc:fn.body with
 |none=>rw[hc] at hb;cases hb
 |some c=>
  have e2:fq P f=c:=by simp[fq,e1,hc]
  rw[e1] at hN hle;rw[e2] at hlabs;unfold lH at hs hx;simp only[e1,e2] at hs hx;refine Da (E:=E) hf hc hm (fun n=>⟨hte n,hspec n,hnl n,hmaps n⟩) hN hle hlabs (fun n=>AV (hs n)) fun x y hy=>⟨B x,?_⟩
  rw[hsp] at hy;have h1:=congrFun (hx (B x)) x;exact Eq.trans h1 hy
def Cur:List CD->Type->Type
 |[],R=>R
 | .ptr _ _::r,R=>Cur r R
 | .clr _ _::r,R=>Cur r R
 | .slc t::r,R=>List t.D->Cur r R
 | .raw _::r,R=>Cur r R
 | .any::r,R=>Cur r R
 | .int _::r,R=>Int->Cur r R
 | .bool::r,R=>Bool->Cur r R
 | .str::r,R=>Str->Cur r R
 | .sl t::r,R=>List t.D->Cur r R
 | .row _ t::r,R=>List t.D->Cur r R
 | .err::r,R=>Bool->Cur r R
 | .ifo _ _::r,R=>Option Int->Cur r R
 | .fn::r,R=>Fn->Cur r R
 | .pp t::r,R=>t.D->Cur r R
def ap:(l:List CD)->{R:Type}->Cur l R->TL l->R
 |[],_,g,_=>g
 | .ptr _ _::r,_,g,x=>ap r g x.2
 | .clr _ _::r,_,g,x=>ap r g x.2
 | .slc _::r,_,g,x=>ap r (g x.1) x.2
 | .raw _::r,_,g,x=>ap r g x.2
 | .any::r,_,g,x=>ap r g x.2
 | .int _::r,_,g,x=>ap r (g x.1) x.2
 | .bool::r,_,g,x=>ap r (g x.1) x.2
 | .str::r,_,g,x=>ap r (g x.1) x.2
 | .sl _::r,_,g,x=>ap r (g x.1) x.2
 | .row _ _::r,_,g,x=>ap r (g x.1) x.2
 | .err::r,_,g,x=>ap r (g x.1) x.2
 | .ifo _ _::r,_,g,x=>ap r (g x.1) x.2
 | .fn::r,_,g,x=>ap r (g x.1) x.2
 | .pp _::r,_,g,x=>ap r (g x.1) x.2
def ak(a r:Shape)(g:Cur a.all (Option r.T)):Spec:=⟨a,r,ap a.all g⟩
def tj(k:Nat)(sh:Shape)(j:List Nat->Cur sh.all (Option R))(rest:Nat->Option (JH R)):Nat->Option (JH R):=fun r=>if r=k then some ⟨sh,fun ms x=>ap sh.all (j ms) x⟩ else rest r
def tl(k:Nat)(sh:Shape)(l:List Nat->Nat->Cur sh.all (Option R))(rest:Nat->Option (LH R)):Nat->Option (LH R):=fun r=>if r=k then some ⟨sh,fun ms m x=>ap sh.all (l ms m) x⟩ else rest r
def tn{α:Type}:Nat->Option α:=fun _=>none
def t0{α:Type}:Nat->Nat->Option α:=fun _ _=>none
abbrev ki:CD:=.int .i64
abbrev ku:CD:=.int .u32
abbrev kb:CD:=.int .u8
abbrev kq:CD:=.int .u64
abbrev Si:SD:=.c ki
abbrev Su:SD:=.c ku
abbrev Sb:SD:=.c kb
abbrev Ss:SD:=.c .str
abbrev SB:SD:=.c .bool
abbrev Sp(i o:Nat):SD:=.c (.ptr i o)
abbrev tI(t:TypeId)(k:IntKind)(b:Nat):TypeId×TI:=(t,⟨1,false,b,[.int k 0],[],none,some (.int k),some k,false,false,true,none,none⟩)
abbrev tB(t:TypeId)(b:Nat):TypeId×TI:=(t,⟨1,false,b,[.bool false],[],none,some .bool,none,false,false,false,none,none⟩)
abbrev tS(t:TypeId)(b:Nat):TypeId×TI:=(t,⟨1,false,b,[.str []],[],none,some .str,none,true,false,false,none,none⟩)
abbrev tL(t e:TypeId)(T:Ty):TypeId×TI:=(t,⟨1,false,24,[.nilS],[],some e,some (.sl T),none,false,false,false,none,none⟩)
structure TF (P:Program) (L:World->Prop) where
 f:FuncId
 ids:List FuncId
 sp:Spec
 sat:Sat P L f sp
 ent:az P f
def TF.kv{L:World->Prop}(t:TF P L):(FuncId×List FuncId)×Spec:=((t.f,t.ids),t.sp)
theorem Co{L:World->Prop}(t:TF P L){l:List ((FuncId×List FuncId)×Spec)}(h:∀p,p∈l->Sat P L p.1.1 p.2/\az P p.1.1):∀p,p∈t.kv::l->Sat P L p.1.1 p.2/\az P p.1.1:=qh t.sat t.ent h
def kvs{L:World->Prop}(l:List (TF P L)):List ((FuncId×List FuncId)×Spec):=l.map TF.kv
theorem yw{L:World->Prop}:∀(l:List (TF P L)),∀p,p∈kvs l->Sat P L p.1.1 p.2/\az P p.1.1
 |[]=>si
 |t::l=>Co t (yw l)
def fnB(P:Program)(f:FuncId)(N k:Nat):Bool:=match P.funcs[f]? with
 |some fn=>(fn.body.isSome&&!(fn.name == "runtime.NumGoroutine"))&&decide (fn.ntmps=N)&&decide (k<=N)&&(bD (fn.body.getD .skip)).isEmpty
 |none=>false
theorem rA{P:Program}{f:FuncId}{N k:Nat}(h:fnB P f N k=true):az P f/\(funcOf P f).ntmps=N/\k<=N/\(bD (fq P f)).isEmpty=true:=by
 unfold fnB at h;split at h
 ·rename_i fn hf;simp only[DW,D6,Bool.not_eq_true'] at h;have e1:funcOf P f=fn:=by simp[funcOf,hf]
  exact⟨⟨fn,hf,h.1.1.1.1,h.1.1.1.2⟩,by rw[e1];exact h.1.1.2,h.1.2,by unfold fq;rw[e1];exact h.2⟩
 ·cases h
abbrev iZ(te:List (TypeId×TI))(mp:Nat->TypeId->Option (Cell->Option (Cell×Bool)))(S:List ((FuncId×List FuncId)×Spec))(J:Nat->Nat->Option (JH R))(Lp G:Nat->Nat->Option (LH R))(N nl:Nat)(fns:List Fn)(n:Nat):Env R:=⟨Ba te,uU S,J n,Lp n,G n,n,N,nl,mp,fns⟩
def sL(P:Program)(f:FuncId)(sp:Spec)(E:Env sp.r.T):=(sites E (fq P f) (fun _=>mF E.te (lH P f) sp)).map (Site.lhs E)
def sR(P:Program)(f:FuncId)(sp:Spec)(E:Env sp.r.T):=(sites E (fq P f) (fun _=>mF E.te (lH P f) sp)).map (Site.rhs E)
def xE(P:Program)(f:FuncId)(sp:Spec)(N:Nat)(E:Env sp.r.T):sp.a.T->Option sp.r.T:=fun x=>aC E [] (fq P f) (init sp N x) (mF E.te (lH P f) sp)
theorem Bj{P:Program}{L:World->Prop}{te:List (TypeId×TI)}(hm:P.follows .mixedOrders=true)(hte:(te.all fun p=>gT P p.1 p.2)=true){mp:Nat->TypeId->Option (Cell->Option (Cell×Bool))}(hmp:jP P L mp)(f:FuncId)(sp:Spec)
  (S:List ((FuncId×List FuncId)×Spec)) (hS:∀p,p∈S->Sat P L p.1.1 p.2/\az P p.1.1) (J:Nat->Nat->Option (JH sp.r.T)) (Lp G:Nat->Nat->Option (LH sp.r.T)) (N:Nat) (fns:List Fn) (g:Nat->Cur sp.a.all (Option sp.r.T)) (B:Cur sp.a.all Nat)
  (h1:(fnB P f N sp.a.slots.length,sp.f)=(true,fun x=>ap sp.a.all (g (ap sp.a.all B x)) x))
  (h2:(fun(n:Nat)=>sL P f sp (iZ te mp S J Lp G N sp.a.boxes.length fns n),fun n=>xE P f sp N (iZ te mp S J Lp G N sp.a.boxes.length fns n))=(fun n=>sR P f sp (iZ te mp S J Lp G N sp.a.boxes.length fns n),fun n=>ap sp.a.all (g n))):Sat P L f sp:=by
 obtain⟨a1,a2,a3,a4⟩:=rA (congrArg Prod.fst h1);exact C8 (E:=iZ te mp S J Lp G N sp.a.boxes.length fns) hm a1 (fun _=>Cs hte) (fun _=>yX hS) (fun _=>rfl) (fun _=>hmp) (fun _=>a2.symm) (by rw[a2];exact a3) a4 (g:=fun n=>ap sp.a.all (g n)) (ap sp.a.all B) (fun n=>congrFun (congrArg Prod.fst h2) n) (by rw[a2];exact fun n=>congrFun (congrArg Prod.snd h2) n) (fun x=>congrFun (congrArg Prod.snd h1) x)
def CS{P:Program}{L:World->Prop}(te:List (TypeId×TI))(hm:P.follows .mixedOrders=true)(hte:(te.all fun p=>gT P p.1 p.2)=true)(mp:Nat->TypeId->Option (Cell->Option (Cell×Bool)))(hmp:jP P L mp)(f:FuncId)(ids:List FuncId)(sp:Spec)
  (S:List (TF P L)) (J:Nat->Nat->Option (JH sp.r.T)) (Lp G:Nat->Nat->Option (LH sp.r.T)) (N:Nat) (fns:List Fn) (g:Nat->Cur sp.a.all (Option sp.r.T)) (B:Cur sp.a.all Nat)
  (h1:(fnB P f N sp.a.slots.length,sp.f)=(true,fun x=>ap sp.a.all (g (ap sp.a.all B x)) x))
  (h2:(fun(n:Nat)=>sL P f sp (iZ te mp (kvs S) J Lp G N sp.a.boxes.length fns n),fun n=>xE P f sp N (iZ te mp (kvs S) J Lp G N sp.a.boxes.length fns n))=(fun n=>sR P f sp (iZ te mp (kvs S) J Lp G N sp.a.boxes.length fns n),fun n=>ap sp.a.all (g n))):TF P L:=
 ⟨f,ids,sp,Bj hm hte hmp f sp (kvs S) (yw S) J Lp G N fns g B h1 h2,(rA (congrArg Prod.fst h1)).1⟩
def mkT{P:Program}{L:World->Prop}(te:List (TypeId×TI))(hm:P.follows .mixedOrders=true)(hte:(te.all fun p=>gT P p.1 p.2)=true)(mp:Nat->TypeId->Option (Cell->Option (Cell×Bool)))(hmp:jP P L mp)(f:FuncId)(ids:List FuncId)(sp:Spec)
  (S:List (TF P L)) (J:Nat->Nat->Option (JH sp.r.T)) (Lp G:Nat->Nat->Option (LH sp.r.T)) (N:Nat) (fns:List Fn) (g:Nat->Cur sp.a.all (Option sp.r.T)) (B:Cur sp.a.all Nat)
  (h:((fnB P f N sp.a.slots.length,sp.f),(fun(n:Nat)=>sL P f sp (iZ te mp (kvs S) J Lp G N sp.a.boxes.length fns n),fun n=>xE P f sp N (iZ te mp (kvs S) J Lp G N sp.a.boxes.length fns n)))=((true,fun x=>ap sp.a.all (g (ap sp.a.all B x)) x),(fun n=>sR P f sp (iZ te mp (kvs S) J Lp G N sp.a.boxes.length fns n),fun n=>ap sp.a.all (g n)))):TF P L:=
 CS te hm hte mp hmp f ids sp S J Lp G N fns g B (congrArg Prod.fst h) (congrArg Prod.snd h)
theorem C9{P:Program}{L:World->Prop}{f:FuncId}{sp:Spec}{F:Nat->Cur sp.a.all (Option sp.r.T)}(B:Cur sp.a.all Nat)(h:∀q,Sat P L f (ak sp.a sp.r (F q)))(hsp:∀x,sp.f x=ap sp.a.all (F (ap sp.a.all B x)) x):Sat P L f sp:=
 fun x y hy=>h (ap sp.a.all B x) x y (by rw[hsp] at hy;exact hy)
end
end Rv
