/- Texts put together. -/
import Derived.Test.YtfphlcngbllgoaaGreatDoorS3
import Derived.BigCall
import Derived.Laws.BytesString
import Derived.Lib.ConvBytes
import Derived.Tactics
import Derived.Deep.LoopGhost
import Derived.Orders
import Derived.ScopeJumps
import Derived.KernelRfl
set_option linter.all false
namespace Rv
open Go
def pY(P:Program)(L:World->Prop)(M:Nat->TypeId->Option (Cell->Option (Cell×Bool))):Prop:=
 ∀g t F,M g t=some F->∃v:Value,v.oneCell'=true/\∀w,L w->w.cell? ⟨g,0,none⟩=some v/\(Instr.loadAt t (.pointer (some ⟨g,0,none⟩))).run P w=.ok v w /\
  ∀kc kv p,(∀s,kc=.str s->kv=.string (mkS s))->(∀k n,kc=.int k n->kv=.int k n)->F kc=some p->∃rv,p.1.plain=some rv/\∀ok,(Instr.lookup t v kv ok).run P w=.ok (if ok=true then .tuple #[rv,.bool p.2] else rv) w
structure lM (P:Program) (L:World->Prop) (nl:Nat) {R:Type} (E:Env R):Prop where
 te:∀t i,E.te t=some i->aS P t i
 spec:∀f ids sp,E.spec f ids=some sp->Sat P L f sp/\aB P f
 nl:E.nl=nl
 maps:pY P L E.maps
section
variable{P:Program}{C C':Ctx}{γ γ':Gam}{h h':Heap}{w w':World}{R:Type}{r:R}
theorem gL{f:FuncId}(he:aB P f)(args:Array Value)(w:World):(callFunc f args).run P w=.ok (.enter f args) w:=by
 obtain⟨fn,hf,hb,hn⟩:=he;have hb':fn.body.isNone=false:=by cases h:fn.body<;>simp_all
 have h1:¬fn.name = "runtime.NumGoroutine" := fun e=>by simp[e] at hn
 have h2:¬fn.body=none:=fun e=>by simp[e] at hb
 simp[callFunc,go_sem,hf];rw[if_neg h1,if_neg h2]
theorem MK{te:TypeId->Option TI}(hte:∀t i,te t=some i->aS P t i){st:St}{a:Act}(R':Rel C γ w st a.tmps){o:Oper}{rd:List Nat}{K:Dl->Option R}(he:(vop te st o.op fun v=>K ⟨v,rd,[]⟩)=some r) :
  ∃x,K x=some r/\gH P C w st a o x:=by
 obtain⟨y,val,hk,hr,hrun⟩:=MM hte R' he;refine⟨⟨y,rd,[]⟩,hk,fun next Q hn=>eH (hrun w (Ext.refl w)) (hn γ w val ?_)⟩;exact R'.put o.dst hr
theorem uN(a:Act)(args:Array Operand):(args.toList.map a.eval).toArray=args.map a.eval:=by
 apply Array.ext';simp
theorem qX{h:Heap}:∀{cs:List Cell}{caps:List Value},ai (av C γ h w) cs caps->ai (bv C γ h w) (cs.map fun c=>V.v (.c c)) caps
 |[],[],_=>trivial
 |[],_::_,h=>h.elim
 |_::_,[],h=>h.elim
 |_::_,_::_,h=>⟨h.1,qX h.2⟩
theorem IR{st:St}{a:Act}(R':Rel C γ w st a.tmps){o:Oper}{c:Operand}{args:Array Operand}{argTypes:Array TypeId}(ho:o.op=.call { callee:=.value c,args,argTypes }){f:FuncId}{cs:List Cell}
  (hc:jW st c=some (f,cs)) (he:aB P f):∃caps:List Value,ai (av C γ st.h w) cs caps/\(execOp a.eval o).run P w=.ok (.enter f ((args.toList.map a.eval).toArray++caps.toArray)) w:=by
 rw[uN];obtain⟨dst,op,ty,pos,after,guard⟩:=o;simp only at ho;subst ho;unfold jW at hc;split at hc;·simp only[Uw,UC] at hc;obtain⟨rfl,rfl⟩:=hc;refine⟨[],trivial,?_⟩;rw[execOp_call_go,gL he];simp
 ·rename_i t;split at hc
  ·rename_i f' cs' hs;obtain⟨hlt,hc⟩:=aa hc;simp only[Uw,UC] at hc;obtain⟨rfl,rfl⟩:=hc;obtain⟨caps,hv,ha⟩:=R'.slot t _ hs;refine⟨caps,ha,?_⟩;have hx:execOp a.eval { dst,op:=.call { callee:=.value (.tmp t),args,argTypes },type:=ty,pos,after,guard }=(do let d <- Deferred.ofValue (a.tmps.getD t undef) (args.map a.eval);invoke d.target d.args):=rfl;rw[nK hlt] at hv;rw[hx,hv];have hx2:(do let d <- Deferred.ofValue (.func (.func f') #[] caps.toArray) (args.map a.eval);invoke d.target d.args)=callFunc f' (#[]++args.map a.eval++caps.toArray):=rfl;rw[hx2,gL he];simp
  ·rename_i f' x y hs;split at hc
   ·rename_i hxy;simp only[Uw,UC] at hc;obtain⟨rfl,rfl⟩:=hc;simp only[UB,Array.isEmpty_iff] at hxy;obtain⟨rfl,rfl⟩:=hxy;have hv:a.tmps.getD t undef=.func (.func f') #[] #[]:=(R'.slot t _ hs).1;refine⟨[],trivial,?_⟩;have hx:execOp a.eval { dst,op:=.call { callee:=.value (.tmp t),args,argTypes },type:=ty,pos,after,guard }=(do let d <- Deferred.ofValue (a.tmps.getD t undef) (args.map a.eval);invoke d.target d.args):=rfl;rw[hx,hv];have hx2:(do let d <- Deferred.ofValue (.func (.func f') #[] #[]) (args.map a.eval);invoke d.target d.args)=callFunc f' (#[]++args.map a.eval++#[]):=rfl;rw[hx2,gL he];simp
   ·cases hc
  ·cases hc
 ·cases hc
theorem Kk{st:St}{a:Act}(R':Rel C γ w st a.tmps){o:Oper}{c:Operand}{args:Array Operand}{argTypes:Array TypeId}(ho:o.op=.call { callee:=.value c,args,argTypes }){f:FuncId}{cs:List Cell}
  (hc:kU st c=some (f,cs)) {vs:List V} (hv:ja st args.toList=some vs) :
  ∃vals:List Value,ai (bv C γ st.h w) (cs.map (fun c=>V.v (.c c))++vs) vals/\(aB P f->∃caps:List Value,ai (av C γ st.h w) [] caps/\(execOp a.eval o).run P w=.ok (.enter f (vals.toArray++caps.toArray)) w):=by
 obtain⟨dst,op,ty,pos,after,guard⟩:=o;simp only at ho;subst ho;unfold kU at hc;split at hc
 ·rename_i t;split at hc
  ·rename_i f' cs' hs;split at hc
   ·cases hc
   ·rename_i hge;simp only[Uw,UC] at hc;obtain⟨hfg,rfl⟩:=hc;obtain⟨caps,hvv,ha⟩:=R'.slot t _ hs;refine⟨caps++args.toList.map a.eval,(qX ha).append (lZ R' hv),fun he=>⟨[],trivial,?_⟩⟩;have hx:execOp a.eval { dst,op:=.call { callee:=.value (.tmp t),args,argTypes },type:=ty,pos,after,guard }=(do let d <- Deferred.ofValue (a.tmps.getD t undef) (args.map a.eval);invoke d.target d.args):=rfl;rw[NC hge,hfg] at hvv;rw[hx,hvv];have hx2:(do let d <- Deferred.ofValue (.func (.func f) caps.toArray #[]) (args.map a.eval);invoke d.target d.args)=callFunc f (caps.toArray++args.map a.eval++#[]):=rfl;rw[hx2,gL he,<- uN];simp
  ·cases hc
 ·cases hc
theorem Qh{E:Env R}(hE:lM P C.L C.nl E){st:St}{a:Act}(R':Rel C γ w st a.tmps){o:Oper}{vals:List Value}
  {f:FuncId} {cs:List Cell} (hrun:aB P f->∃caps:List Value,ai (av C γ st.h w) cs caps/\(execOp a.eval o).run P w=.ok (.enter f (vals.toArray++caps.toArray)) w)
  {ids:List FuncId} {sp:Spec} (hsp:E.spec f ids=some sp) {vs:List V} (hv:ai (bv C γ st.h w) vs vals) {ab:Abs sp.a.T} (hab:sp.a.abs ⟨vs++cs.map (fun c=>V.v (.c c)),st.h⟩=some ab)
  (hok:qf st.h (o.dst.getD 0) sp ab (vs.length+cs.length)=true) {y:sp.r.T} (hy:sp.f ab.x=some y) :
  gH P C w st a o (iQ st (o.dst.getD 0) sp ab y):=by
 intro next Q hn
 obtain⟨hsat,hent⟩:=hE.spec f ids sp hsp;unfold qf at hok;simp only[UB,UE] at hok;obtain⟨⟨⟨⟨hlen,hpl⟩,hb0⟩,hnk⟩,hnb0⟩:=hok;obtain⟨caps,hcaps,hex⟩:=hrun hent;have hcs:=qX hcaps;have Ra0:=JF R' (hv.append hcs);have hargs:(vals++caps).toArray=vals.toArray++caps.toArray:=by
  apply Array.ext';simp
 rw[hargs] at Ra0;obtain⟨hkn,hdk⟩:=Kb hab;obtain⟨γa,Rb,hbl,hbb,_⟩:=tX hab Ra0 (C':=callee C γ st.h w ab.bm ab.keys ab.m.deps) (nm:=nmJ) (fun i j e=>by simp only[nmJ] at e;omega) (Nl R'.inv ab.bm ab.keys ab.m.deps)
  (fun d g ho hg hd=>.inr (.inr (.inl ⟨d,ho,hd⟩))) (fun k e g c l hk he hb hg=>.inr (.inr (.inr ⟨k,e,c,l,hk,he,hb,hg⟩))) (fun k e g c hk he hl hg=>.inr ⟨k,e,c,hk,he,hl,hg⟩)
  (fun i hi=>by
   have hi:i<ab.bm.length:=hi;have h1:ab.bm[i]?=some ab.bm[i]:=UF hi;refine⟨rfl,ab.bm[i],h1,?_⟩;show γ _=(ab.bm[i]?).bind γ;rw[h1];rfl)
 have hl:(vs++cs.map (fun c=>V.v (.c c))).length=sp.a.slots.length:=by rw[UD,Vb];exact hlen
 rw[hl] at Rb;unfold Oper.wp;rw[hex,Oper.upon_enter];refine Calls.mono (hsat ab.x y hy (callee C γ st.h w ab.bm ab.keys ab.m.deps) γa _ rfl hbl Rb) fun e w' hh=>?_
 obtain⟨γr,rs,rfl,Rr⟩:=hh;obtain⟨γ',hfin⟩:=FV (d:=o.dst.getD 0) (dst:=o.dst) R' (by rw[hbl];exact hpl) hb0 hnk hkn hdk (by simpa using hnb0) (fun k hk=>by
  obtain⟨i,hi⟩:=List.mem_iff_getElem?.1 hk;exact(hbb i k hi).2) Rr
 exact hn γ' w' _ hfin
theorem Qy{I:World}{x:List Cap}{gs:List Nat}(ha:ai (oD I (okb C γ h none)) gs x):ai (av C γ h I) (x.map Cap.cell) (gs.map fun g=>Value.pointer (some ⟨g,0,none⟩)):=by
 induction gs generalizing x with
 |nil=>cases x with
  |nil=>trivial
  |cons _ _=>exact ha.elim
 |cons g gs ih=>cases x with
  |nil=>exact ha.elim
  |cons c x=>
   refine⟨?_,ih ha.2⟩;have h1:=ha.1;cases c with
   |c0 c=>
    obtain⟨ho,hg,hc⟩:=h1;cases c with
    |ci k n=>exact⟨rfl,g,0,n,[.int k n],rfl,rfl,ho,hg,rfl,fun j u hj=>by
      cases j with
      |zero=>simp only[U0,Uw] at hj;subst hj;exact hc
      |succ j=>simp at hj⟩
    |cs s=>exact⟨rfl,g,0,s,[.string (mkS s)],rfl,rfl,ho,hg,rfl,fun j u hj=>by
      cases j with
      |zero=>simp only[U0,Uw] at hj;subst hj;exact hc
      |succ j=>simp at hj⟩
   |cf f=>
    obtain⟨ho,hg,hs,hc,hh⟩:=h1;refine⟨rfl,g,0,(f.1,f.2.map Cap.c0),[fnV f.1 hs],rfl,rfl,ho,hg,⟨hs,rfl,?_⟩,fun j u hj=>by
      cases j with
      |zero=>simp only[U0,Uw] at hj;subst hj;exact hc
      |succ j=>simp at hj⟩
    have:∀{hs:List Nat}{l:List xn},ai (nD I (okb C γ h none)) hs l->ai (oD I (okb C γ h none)) hs (l.map Cap.c0):=by
     intro hs
     induction hs with
     |nil=>intro l hl;cases l with
      |nil=>trivial
      |cons _ _=>exact hl.elim
     |cons a hs ih=>intro l hl;cases l with
      |nil=>exact hl.elim
      |cons c l=>exact⟨hl.1,ih hl.2⟩
    exact this hh
theorem R7{st:St}{a:Act}(R':Rel C γ w st a.tmps){o:Oper}{c:Operand}{args:Array Operand}{argTypes:Array TypeId}(ho:o.op=.call { callee:=.value c,args,argTypes }){x:Fn}
  (hc:Ak st c=some x) (he:aB P x.1):∃caps:List Value,ai (av C γ st.h w) (x.2.map Cap.cell) caps/\(execOp a.eval o).run P w=.ok (.enter x.1 ((args.toList.map a.eval).toArray++caps.toArray)) w:=by
 rw[uN];obtain⟨dst,op,ty,pos,after,guard⟩:=o;simp only at ho;subst ho;unfold Ak at hc;split at hc
 ·rename_i t;split at hc
  ·rename_i x' hs;simp only[Uw] at hc;subst hc;obtain⟨_,gs,hv,ha⟩:=R'.slot t _ hs;simp only[List.cons.injEq,and_true] at hv;refine⟨_,Qy ha,?_⟩;have hx:execOp a.eval { dst,op:=.call { callee:=.value (.tmp t),args,argTypes },type:=ty,pos,after,guard }=(do let d <- Deferred.ofValue (a.tmps.getD t undef) (args.map a.eval);invoke d.target d.args):=rfl;rw[hx,hv];have hx2:(do let d <- Deferred.ofValue (fnV x'.1 gs) (args.map a.eval);invoke d.target d.args)=callFunc x'.1 (#[]++args.map a.eval++(gs.map fun g=>Value.pointer (some ⟨g,0,none⟩)).toArray):=rfl;rw[hx2,gL he];simp
  ·cases hc
 ·cases hc
theorem yV{x:Fn}{F:Fn->Option R}:∀{l:List Fn},l.foldr (fun key next=>if x=key then F key else next) none=some r->F x=some r
 |[],he=>by cases he
 |key::l,he=>by
  simp only[List.foldr_cons] at he;split at he;·rename_i e;rw[e];exact he
  ·exact yV he
theorem xy{E:Env R}(hE:lM P C.L C.nl E){st:St}{a:Act}(R':Rel C γ w st a.tmps){o:Oper}{vals:List Value}
  {f:FuncId} {cs:List Cell} (hrun:aB P f->∃caps:List Value,ai (av C γ st.h w) cs caps/\(execOp a.eval o).run P w=.ok (.enter f (vals.toArray++caps.toArray)) w)
  {vs:List V} (hv:ai (bv C γ st.h w) vs vals) {K:Dl->Option R} (he:kH E st o.dst f cs vs K=some r):∃x,K x=some r/\gH P C w st a o x:=by
 unfold kH at he;split at he
 ·rename_i sp hsp;split at he
  ·rename_i ab hab;obtain⟨hok,he⟩:=aa he;cases hy:sp.f ab.x with
   |none=>rw[hy] at he;cases he
   |some y=>
    rw[hy] at he;exact⟨_,he,Qh hE R' hrun hsp hv hab hok hy⟩
  ·cases he
 ·cases he
theorem C9{te:TypeId->Option TI}(hte:∀t i,te t=some i->aS P t i){src dst:TypeId}(hh:AY te src dst=true):∃e,P.underlying src=some (.slice e)/\P.underlying e=some (.int .u8)/\P.underlying dst=some .string:=by
 unfold AY at hh;simp only[UB] at hh;obtain⟨h1,h2⟩:=hh;have hd:P.underlying dst=some .string:=by
  unfold isStr at h1;split at h1;·rename_i ti hti;exact(hte _ _ hti).str h1
  ·cases h1
 split at h2
 ·rename_i e he;split at h2
  ·rename_i ti hti;split at h2
   ·rename_i hk;refine⟨e,?_,(hte _ _ hti).int _ hk,hd⟩;cases h0:te src with
    |none=>rw[h0] at he;simp at he
    |some i0=>rw[h0] at he;exact(hte _ _ h0).elem e he
   ·cases h2
  ·cases h2
 ·cases h2
theorem yH{te:TypeId->Option TI}(hte:∀t i,te t=some i->aS P t i){src dst:TypeId}(hh:ui te src dst=true):∃e,P.underlying src=some .string/\P.underlying dst=some (.slice e)/\P.underlying e=some (.int .u8):=by
 unfold ui at hh;simp only[UB] at hh;obtain⟨h1,h2⟩:=hh;have hd:P.underlying src=some .string:=by
  unfold isStr at h1;split at h1;·rename_i ti hti;exact(hte _ _ hti).str h1
  ·cases h1
 split at h2
 ·rename_i e he;split at h2
  ·rename_i ti hti;split at h2
   ·rename_i hk;refine⟨e,hd,?_,(hte _ _ hti).int _ hk⟩;cases h0:te dst with
    |none=>rw[h0] at he;simp at he
    |some i0=>rw[h0] at he;exact(hte _ _ h0).elem e he
   ·cases h2
  ·cases h2
 ·cases h2
theorem Ni{st:St}{a:Act}(R':Rel C γ w st a.tmps){o:Oper}{src dst e:TypeId}{x:Operand}{s:Str}(ho:o.op=.convert src dst x)(h1:P.underlying src=some .string)(h2:P.underlying dst=some (.slice e))(h3:P.underlying e=some (.int .u8))
  (hx:opd st x=some (.c (.str s))):gH P C w st a o ⟨.v (.c (.sl none (.int .u8) (s.map fun b=>(b.toNat:Int)))),[],[]⟩:=by
 intro next Q hn
 have hv:a.eval x=.string (mkS s):=(R'.opd hx).1;have hsz:(mkS s).size=s.length:=rfl;have hrun:(execOp a.eval o).run P w=.ok (.value (.slice (some ⟨w.heap.size,0,none⟩) (mkS s).size (grownCap w (mkS s).size 0 e))) (Lib.bytesWorld w e (mkS s)):=by
  have hx:execOp a.eval o=(do pure (.value (<- convert src dst (a.eval x)))):=by simp[execOp,ho]
  rw[hx,UJ,hv,Lib.run_convert_string_bytes w src dst e (mkS s) h1 h2 h3,Uy,UQ]
 have hE:Ext w (Lib.bytesWorld w e (mkS s)):=⟨by rw[Lib.bytesWorld_size];omega,fun g hg=>Lib.bytesWorld_at_old w e (mkS s) g hg⟩
 have S:Step C w (Lib.bytesWorld w e (mkS s)):=Step.of_ext hE rfl rfl rfl;have R1:=R'.ext hE S;have I:=R'.inv;have hrep:bv C γ st.h (Lib.bytesWorld w e (mkS s)) (.v (.c (.sl none (.int .u8) (s.map fun b=>(b.toNat:Int))))) (.slice (some ⟨w.heap.size,0,none⟩) (mkS s).size (grownCap w (mkS s).size 0 e)):=?hrep;·exact eH hrun (hn γ _ _ (R1.put o.dst hrep))
 refine⟨rfl,?_⟩;refine⟨some ⟨w.heap.size,0,none⟩,grownCap w (mkS s).size 0 e,by simp[hsz],?_,fun i n hi=>?_⟩;·have:=grownCap_ge w (mkS s).size 0 e;simpa[hsz] using this
 ·simp only[Vo,Option.map_eq_some_iff] at hi;obtain⟨b,hb,rfl⟩:=hi;have hlt:i<s.length:=(UI.1 hb).1;refine⟨w.heap.size,0,[.int .u8 b.toNat],rfl,⟨I.rd _ (I.new _ I.size),fun k e' c hk hl hγ=>?_⟩,by rw[Lib.bytesWorld_size];omega,rfl,fun j u hj=>?_⟩
  ·have:=jh I hk hl hγ;omega
  ·cases j with
   |zero=>
    simp only[U0,Uw] at hj;subst hj;have:=Lib.bytesWorld_cell w e (mkS s) i (by rw[hsz];exact hlt);have hg:(mkS s).data.toList.getD i 0=b:=by
     show s.getD i 0=b;rw[UH,hb];rfl
    rw[hg] at this;simpa[Ty.size] using this
   |succ j=>simp at hj
theorem I4(ns:List Int):∀(s:ByteArray),ns.foldl (fun r n=>r.push (UInt8.ofNat n.toNat)) s=⟨s.data++(bytesOf ns).toArray⟩:=by
 induction ns with
 |nil=>intro s;simp[bytesOf]
 |cons n ns ih=>
  intro s;simp only[U9,ih];congr 1;simp[bytesOf,ByteArray.push,Array.push_append]
theorem Cm{ok:Nat->Prop}{k:IntKind}:∀{xs:List Int}{news:List Value},bq w ok (.int k) xs news->news.length=xs.length->news=xs.map (Value.int k)
 |[],news,_,hl=>by simpa using hl
 |x::xs,[],_,hl=>by simp at hl
 |x::xs,v::news,hr,hl=>by
  have h0:=hr 0 x rfl;simp only[Ty.size,Nat.zero_mul,U3,List.take_succ_cons,Vp] at h0;have h0:[v]=[.int k x]:=h0;simp only[List.cons.injEq,and_true] at h0;rw[h0,UO];congr 1;refine Cm (ok:=ok) (fun i y hy=>?_) (by simpa using hl);have:=hr (i+1) y (by simpa using hy);simpa[Ty.size] using this
theorem Kn(I:Inv C γ h w){x:V1}{xs:List Int}(hm:kL h (.int .u8) x=some xs){v:Value}(hv:aM C γ h w x v):∃A c,v=.slice A xs.length c/\(Conv.bytesToString v).run P w=.ok (.string (mkS (bytesOf xs))) w:=by
 obtain⟨d,hr⟩:=nW I hm hv;obtain⟨A,c,news,hA,hl,hrow,_,hc⟩:=flat hr;have hl':news.length=xs.length:=by simpa[Ty.size] using hl
 have hn:=Cm hrow hl';refine⟨A,c,hA,?_⟩;rw[hA];cases A with
 |none=>
  rcases hc with h0|⟨a,ha,_⟩;·have:xs=[]:=List.length_eq_zero_iff.1 h0;subst this;simp[Conv.bytesToString,UQ];rfl
  ·cases ha
 |some a=>
  have hload:(loadCells a xs.length).run P w=.ok (xs.map (Value.int .u8)).toArray w:=by
   have:=run_loadCells_list (P:=P) w a (xs.map (Value.int .u8)) fun j u e=>by
    rcases hc with h0|⟨b,hb,hcell⟩;·have:xs=[]:=List.length_eq_zero_iff.1 h0;subst this;simp at e
    ·simp only[Uw] at hb;subst hb;exact hcell j u (by rw[hn];exact e)
   simpa using this
  rw[run_bytesToString w a xs.length c xs hload,I4];congr 2;simp[mkS]
theorem wR{E:Env R}(hE:lM P C.L C.nl E){st:St}{a:Act}(R':Rel C γ w st a.tmps){o:Oper}{K:Dl->Option R}(he:bz E st o K=some r):∃x,K x=some r/\gH P C w st a o x:=by
 unfold bz at he;split at he
 ·rename_i t ho;split at he
  ·rename_i ti hti;exact⟨_,he,MX R' (hE.te _ _ hti) ho⟩
  ·cases he
 ·rename_i t x ho;obtain⟨v,hv,he⟩:=ae he;exact⟨_,he,M8 R' hv ho⟩
 ·rename_i t n parts ho;split at he
  ·cases he
  ·rename_i e hel;split at he
   ·rename_i ti hti hp;split at he
    ·rename_i k v fs hc;split at he
     ·rename_i cs hat
      obtain⟨hq,he⟩:=aa he;exact⟨_,he,FP hE.te R' ho hel hti hc hat hq⟩
     ·cases he
    ·cases he
   ·rename_i ti ps hti hp;split at he
    ·rename_i t' ht;split at he
     ·rename_i z hz;obtain⟨hn,he⟩:=aa he;obtain⟨xs,hx,he⟩:=ae he;refine⟨_,he,gH.pub (rd:=[dk o.dst]) ?_⟩;rw[<- OV];exact CR hE.te (wD R' _) ho hel hti (uZ R' (fun k hk=>hk) (jT R' hp)) ht hz hn hx
     ·cases he
    ·cases he
   ·cases he
 ·rename_i t x v ho;split at he
  ·rename_i hd;obtain⟨xv,hx,he⟩:=ae he;obtain⟨vv,hv,he⟩:=ae he;obtain⟨up,hk,hok⟩:=Po hE.te (wD R' _) ho hd (x:=xv) (by rw[<- hx];rfl) (JA R' (R'.opd hv).1) he (rd:=[]);exact⟨_,hk,hok.pub⟩
  ·cases he
 ·rename_i args argTypes ho;split at he
  ·rename_i s x sT xT ha hat
   obtain⟨hst,he1⟩:=aa he;subst hst;obtain⟨sv,hs,he⟩:=ae he1;obtain⟨xv,hx,he⟩:=ae he;exact IC hE.te R' ho ha hat hs hx he
  ·cases he
 ·rename_i c args argTypes ho;split at he
  ·rename_i vs hv;split at he
   ·rename_i p hc;obtain⟨vals,hvals,hrun⟩:=Kk (P:=P) R' ho hc hv;exact xy hE R' hrun hvals he
   ·split at he
    ·rename_i p hc;exact xy hE R' (fun hent=>IR R' ho hc hent) (lZ R' hv) he
    ·split at he
     ·rename_i x hc;exact xy hE R' (fun hent=>R7 R' ho hc hent) (lZ R' hv) (yV he)
     ·cases he
  ·cases he
 ·rename_i t g ho;split at he
  ·rename_i F hF;obtain⟨v,h1,h2⟩:=hE.maps g t F hF;refine⟨_,he,fun next Q hn=>eH (val:=v) (w':=w) ?_ (hn γ w v (R'.put o.dst (y:=.v (.c (.glob g))) ⟨h1,fun w' hw'=>(h2 w' hw').1⟩))⟩;have hx:execOp a.eval o=(do pure (.value (<- Instr.loadAt t (.pointer (some ⟨g,0,none⟩))))):=by simp[execOp,ho,Act.eval]
   rw[hx,UJ,(h2 w R'.inv.laid).2.1,Uy,UQ]
  ·cases he
 ·rename_i t x k ok ho;split at he
  ·rename_i g kc hx hk;split at he
   ·rename_i F hF;obtain⟨p,hp,he⟩:=ae he;obtain⟨v,h1,h2⟩:=hE.maps g t F hF;have hv:a.eval x=v:=by
     have:=(R'.opd hx).1.2 w R'.inv.laid;rw[(h2 w R'.inv.laid).1] at this;simpa using this.symm
    have hkv:=(R'.opd hk).1;obtain⟨rv,h3,h4⟩:=(h2 w R'.inv.laid).2.2 kc (a.eval k) p (fun s e=>by subst e;exact hkv) (fun k n e=>by subst e;exact hkv) hp;have hrp:av C γ st.h w p.1 rv:=uY h3;refine⟨_,he,fun next Q hn=>eH (val:=if ok=true then .tuple #[rv,.bool p.2] else rv) (w':=w) ?_ (hn γ w _ (R'.put o.dst ?_))⟩
    ·have hx:execOp a.eval o=(do pure (.value (<- Instr.lookup t (a.eval x) (a.eval k) ok))):=by simp[execOp,ho]
     rw[hx,UJ,hv,h4 ok,Uy,UQ]
    ·cases ok with
     |true=>exact⟨[rv,.bool p.2],rfl,hrp,rfl,trivial⟩
     |false=>exact hrp
   ·cases he
  ·cases he
 ·rename_i t l c ho;split at he
  ·cases he
  ·rename_i e hel;split at he
   ·rename_i ti kl n kc m hti hl hc;split at he
    ·rename_i t' ht;split at he
     ·rename_i z hz;obtain⟨hn,he⟩:=aa he;exact⟨_,he,Eu hE.te R' ho hel hti hl hc ht hz hn⟩
     ·cases he
    ·cases he
   ·cases he
 ·rename_i src dst x ho;split at he
  ·rename_i hsc;obtain⟨v,hv,he⟩:=ae he;obtain⟨xs,hxs,he⟩:=ae he;refine⟨_,he,fun next Q hn=>?_⟩;obtain⟨e,h1,h2,h3⟩:=C9 hE.te hsc;obtain⟨A,c,hA,hrun⟩:=Kn (P:=P) R'.inv hxs (R'.opd hv).1;refine eH (val:=.string (mkS (bytesOf xs))) (w':=w) ?_ (hn γ w _ (R'.put o.dst (y:=.v (.c (.str (bytesOf xs)))) rfl));have hx:execOp a.eval o=(do pure (.value (<- convert src dst (a.eval x)))):=by simp[execOp,ho]
   rw[hx,UJ,hA,run_convert_bytes_string w src dst e A xs.length c h1 h2 h3,<- hA,hrun,Uy,UQ]
  ·split at he
   ·rename_i hbc;split at he
    ·rename_i s hx;obtain⟨e,h1,h2,h3⟩:=yH hE.te hbc;exact⟨_,he,Ni R' ho h1 h2 h3 hx⟩
    ·cases he
   ·rw[<- ho] at he;exact MK hE.te R' he
 ·exact MK hE.te R' he
end
end Rv
namespace Rv
open Go
section
variable{P:Program}{C:Ctx}{γ:Gam}{w:World}{R:Type}{r:R}
structure Good (E:Env R) (a:Act):Prop where
 size:a.tmps.size=E.N
 defers:a.defers=[]
theorem Good.put{E:Env R}{a:Act}(g:Good E a)(d:Option Nat)(v:Value):Good E (a.put d v):=by
 cases d with
 |none=>exact g
 |some d=>exact⟨by simpa[Act.put] using g.size,g.defers⟩
def jM(C:Ctx)(E:Env R)(r:R)(K:St->Option R)(Q:Act->World->Prop):Prop:=
 ∀γ st a w,Rel C γ w st a.tmps->Good E a->K st=some r->Q a w
theorem sW{st:St}{a:Act}(R':Rel C γ w st a.tmps){ops:Array Oper}{j d:Nat}(hd:(ops[j]?).bind (·.dst)=some d){v:V}(hs:st.s[d]?=some v):∃u,a.tmps[d]?=some u/\bv C γ st.h w v u/\yielded ops a.tmps j=(match u with | .bool b=>some b|_=>none):=by
 have hlt:d<a.tmps.size:=by rw[R'.size];exact(UI.1 hs).1
 refine⟨a.tmps[d],by simp[hlt],?_,?_⟩;·have:=R'.slot d v hs;simpa[Array.getD,hlt] using this
 ·unfold yielded;rw[hd];simp only[Uv,Array.getElem?_eq_getElem hlt];cases a.tmps[d]<;>rfl
theorem zM{st:St}{a:Act}(R':Rel C γ w st a.tmps){ops:Array Oper}{o:Oper}{j d:Nat}{want:Bool}(hg:o.guard=some (j,want))(hd:(ops[j]?).bind (·.dst)=some d)(hs:st.s[d]?=some (.v (.c (.bool want)))) :
  Region.wanted o (yielded ops a.tmps)=true:=by
 obtain⟨u,hu,hr,hy⟩:=sW R' hd hs;have:u=.bool want:=hr;subst this;simp[Region.wanted,hg,hy]
theorem vS{st:St}{a:Act}(R':Rel C γ w st a.tmps){ops:Array Oper}{o:Oper}{j d:Nat}{want:Bool}(hg:o.guard=some (j,want))(hd:(ops[j]?).bind (·.dst)=some d)(hs:st.s[d]?=some (.v (.c (.bool !want)))\/st.s[d]?=some (.tup [])) :
  Region.wanted o (yielded ops a.tmps)=false:=by
 rcases hs with hs|hs;·obtain⟨u,hu,hr,hy⟩:=sW R' hd hs;have:u=.bool !want:=hr;subst this;simp[Region.wanted,hg,hy]
 ·obtain⟨u,hu,hr,hy⟩:=sW R' hd hs;obtain⟨vs,rfl,hv⟩:=hr;simp[Region.wanted,hg,hy]
theorem St.put_same{st:St}{d:Nat}{v:V}(h:st.s[d]?=some v):st.put (some d) v=st:=by
 obtain⟨hl,he⟩:=UI.1 h;show(⟨st.s.set d v,st.h⟩:St)=st;have:st.s.set d v=st.s:=by rw[<- he];exact List.set_getElem_self hl
 rw[this]
theorem vw{h:Heap}:bv C γ h w (.tup []) undef:=⟨[],rfl,trivial⟩
theorem jR{E:Env R}(hE:lM P C.L C.nl E){ops:Array Oper}{Q:Exit->Act->World->Prop}:∀{l:List Oper}{st:St}{a:Act}{w:World}{γ:Gam}{K:St->Option R},Rel C γ w st a.tmps->Good E a->iO E ops l st K=some r ->
  jM C E r K (Q .normal)->wpList P ops Q l a w
 |[],st,a,w,γ,K,R',G,he,hK=>hK γ st a w R' G he
 |o::l,st,a,w,γ,K,R',G,he,hK=>by
  have go:∀{K':Dl->Option R},bz E st o K'=some r->(∀x,K' x=iO E ops l (st.app o.dst x) K)->Region.wanted o (yielded ops a.tmps)=true->wpList P ops Q (o::l) a w:=by
   intro K' h1 h2 h3;obtain⟨x,hx,hok⟩:=wR hE R' h1;unfold wpList;rw[if_pos h3];refine .inl (hok _ _ fun γ' w' val R1=>?_);rw[h2] at hx;exact jR hE R1 (G.put _ _) hx hK
  simp only[iO] at he;split at he;·rename_i hg;exact go (K':=fun x=>iO E ops l (st.app o.dst x) K) he (fun _=>rfl) (by simp[Region.wanted,hg])
  ·rename_i j want hg;split at he
   ·cases he
   ·rename_i d hd;split at he
    ·rename_i b hs;split at he
     ·rename_i hb;subst hb;rw[St.put_same hs] at he;exact go (K':=fun x=>iO E ops l (st.app o.dst x) K) he (fun _=>rfl) (zM R' hg hd hs)
     ·rename_i hb;have hb':b=!want:=by cases b<;>cases want<;>simp_all
      subst hb';rw[St.put_same hs] at he;unfold wpList;rw[if_neg (by rw[vS R' hg hd (.inl hs)];simp)];exact jR hE (R'.put o.dst vw) (G.put _ _) he hK
    ·rename_i hs;unfold wpList;rw[if_neg (by rw[vS R' hg hd (.inr hs)];simp)];exact jR hE (R'.put o.dst vw) (G.put _ _) he hK
    ·cases he
end
end Rv
namespace Rv
open Go
def Agree(h h':Heap)(ks:List Nat):Prop:=∀k,k∈ks->h' k=h k
theorem Agree.sub{h h':Heap}{ks ls:List Nat}(H:Agree h h' ks)(hs:∀k,k∈ls->k∈ks):Agree h h' ls:=fun k hk=>H k (hs k hk)
section
variable{R:Type}{r:R}{h h':Heap}{st st':St}{te:TypeId->Option TI}
theorem at_eq{k:Nat}(e:h' k=h k)(v:Nat):h'.at k v=h.at k v:=by simp[Heap.at,e]
theorem jA{k:Nat}(e:h' k=h k):h'.next k=h.next k:=by simp[Heap.next,e]
theorem ig{k:Nat}(e:h' k=h k)(v:Nat):rowLen h' k v=rowLen h k v:=by simp[rowLen,at_eq e]
theorem kZ{d:Dep}(e:∀x,d=some x->h' x.1=h x.1):h'.depOk d=h.depOk d:=by
 cases d with
 |none=>rfl
 |some x=>obtain⟨k,v,dv⟩:=x;simp[Heap.depOk,e _ rfl]
theorem q8{d:Dep}{t:Ty}{xs:List t.D}(H:Agree h h' (Cell.sl d t xs).keys):h'.depOk d=h.depOk d:=kZ fun x e=>H _ (by subst e;simp[Cell.keys])
theorem um{d:Dep}{t:Ty}{xs:List t.D}{i off:Nat}(H:Agree h h' (Cell.slp d t xs i off).keys):h'.depOk d=h.depOk d:=kZ fun x e=>H _ (by subst e;simp[Cell.keys])
theorem Bq{d:Dep}{t:Ty}{xs:List t.D}(H:Agree h h' (Cell.slc d t xs).keys):h'.depOk d=h.depOk d:=kZ fun x e=>H _ (by subst e;simp[Cell.keys])
theorem yw{c:Cell}(H:Agree h h' c.keys):rowOf h' c=rowOf h c:=by
 cases c with
 |sl d t xs=>simp only[rowOf,q8 H]
 |own k v=>simp only[rowOf];rw[at_eq (H k (by simp[Cell.keys]))]
 |ownP k v n=>simp only[rowOf];rw[at_eq (H k (by simp[Cell.keys]))]
 |_=>rfl
theorem DU{c:Cell}(H:Agree h h' c.keys):fI h' c=fI h c:=by
 cases c with
 |own k v=>simp only[fI];rw[H k (by simp[Cell.keys])]
 |ownP k v n=>simp only[fI];rw[H k (by simp[Cell.keys])]
 |_=>rfl
theorem gQ{c:Cell}:(V1.c c).keys=c.keys:=by simp[V1.keys,V1.cells]
theorem N8{t:TypeId}{x:V1}{K:V1->Option R}(H:Agree st.h st'.h x.keys):dW te st' t x K=dW te st t x K:=by
 cases x with
 |agg cs=>rfl
 |c c=>
  rw[gQ] at H;cases hte:te t with
  |none=>cases c<;>simp only[dW,hte]
  |some ti=>
   cases c with
   |ptr k v off=>simp only[dW,hte,at_eq (H k (by simp[Cell.keys]))]
   |elt k v i off=>simp only[dW,hte,at_eq (H k (by simp[Cell.keys]))]
   |slp d t xs i off=>simp only[dW,hte,um H]
   |pel k v base n i=>simp only[dW,hte,at_eq (H k (by simp[Cell.keys]))]
   |_=>rfl
theorem N9{t:TypeId}{x:V1}{K:V->Option R}(H:Agree st.h st'.h x.keys):kK te st' t x K=kK te st t x K:=by
 cases x with
 |agg cs=>rfl
 |c c=>
  cases c with
  |cle k v f=>
   rw[gQ] at H;simp only[kK,at_eq (H k (by simp[Cell.keys]))]
  |_=>exact N8 (te:=te) (t:=t) (K:=one K) H
theorem CX{es ar:Option Nat}{el:Option (Nat×Nat)}{x i:V1}{K:V1->Option R}(H:Agree st.h st'.h x.keys):aV st' es ar el x i K=aV st es ar el x i K:=by
 cases x with
 |agg cs=>rfl
 |c c=>
  rw[gQ] at H;cases i with
  |agg cs=>cases c<;>rfl
  |c j=>
   cases j with
   |int ik n=>
    cases c with
    |own k v=>simp only[aV,ig (H k (by simp[Cell.keys]))]
    |ownP k v n=>simp only[aV,ig (H k (by simp[Cell.keys]))]
    |sl d t xs=>simp only[aV,q8 H]
    |ptr k v off=>simp only[aV,at_eq (H k (by simp[Cell.keys]))]
    |clr k v fs=>simp only[aV,at_eq (H k (by simp[Cell.keys]))]
    |_=>rfl
   |_=>cases c<;>rfl
theorem Mm{str:Bool}{es:Option Nat}{x:V1}{lo hi mx:Option V1}{K:V1->Option R}(H:Agree st.h st'.h x.keys):aZ st' str es x lo hi mx K=aZ st str es x lo hi mx K:=by
 cases x with
 |agg cs=>rfl
 |c c=>
  rw[gQ] at H;have h1:=yw H;have h2:=DU H;cases c with
  |own k v=>simp only[aZ,ig (H k (by simp[Cell.keys])),h1,h2]
  |ownP k v n=>simp only[aZ,ig (H k (by simp[Cell.keys])),h1,h2]
  |sl d t xs=>simp only[aZ,q8 H]
  |_=>rfl
theorem Mo{str:Bool}{es:Option Nat}{x:V1}{lo hi mx:Option V1}{K:V1->Option R}(H:Agree st.h st'.h x.keys):iL st' str es x lo hi mx K=iL st str es x lo hi mx K:=by
 have hs:=Mm (str:=str) (es:=es) (lo:=lo) (hi:=hi) (mx:=mx) (K:=K) H;unfold iL;split;·rw[gQ] at H;rw[yw H,DU H,hs]
 ·exact hs
theorem QT{str:Bool}{es:Option Nat}{x:V1}{K:Nat->Option R}(H:Agree st.h st'.h x.keys):gU st' str es x K=gU st str es x K:=by
 cases x with
 |agg cs=>rfl
 |c c=>
  rw[gQ] at H;cases c with
  |own k v=>simp only[gU,ig (H k (by simp[Cell.keys]))]
  |ownP k v n=>simp only[gU,ig (H k (by simp[Cell.keys]))]
  |sl d t xs=>simp only[gU,q8 H]
  |slc d t xs=>simp only[gU,Bq H]
  |clr k v fs=>simp only[gU,at_eq (H k (by simp[Cell.keys]))]
  |_=>rfl
theorem Mt{t:TypeId}{x v:V1}{K:List (Nat×En)->Option R}(H:Agree st.h st'.h x.keys):fG te st' t x v K=fG te st t x v K:=by
 cases x with
 |agg cs=>rfl
 |c c=>
  rw[gQ] at H;cases hte:te t with
  |none=>cases c<;>simp only[fG,hte]
  |some ti=>
   cases c with
   |ptr k v off=>simp only[fG,hte,H k (by simp[Cell.keys])]
   |pel k v base n i=>simp only[fG,hte,H k (by simp[Cell.keys])]
   |elt k v i off=>simp only[fG,hte,H k (by simp[Cell.keys])]
   |_=>rfl
theorem Kj{e:TypeId}{t:Ty}{x:V1}(H:Agree h h' x.keys):kG h' e t x=kG h e t x:=by
 cases x with
 |agg cs=>rfl
 |c c=>
  rw[gQ] at H;cases c with
  |own k v=>simp only[kG];rw[at_eq (H k (by simp[Cell.keys]))]
  |ownP k v n=>simp only[kG];rw[at_eq (H k (by simp[Cell.keys]))]
  |_=>rfl
theorem uO{t:Ty}{x:V1}(H:Agree h h' x.keys):kL h' t x=kL h t x:=by
 cases x with
 |agg cs=>rfl
 |c c=>
  rw[gQ] at H;have h1:=yw H;cases c<;>first|rfl|(simp only[kL];rw[h1])
theorem IG{e:TypeId}{t:Ty}{x:V1}{xs:List t.D}{k:Nat}(hb:kG h e t x=some (xs,some k)):k∈x.keys:=by
 unfold kG at hb;split at hb;·simp at hb
 ·rename_i k' v;split at hb
  ·obtain⟨_,hb'⟩:=aa hb;simp only[Option.map_eq_some_iff] at hb';obtain⟨a,_,ha⟩:=hb';simp only[UC,Uw] at ha;rw[gQ];simp[Cell.keys,ha.2]
  ·cases hb
 ·rename_i k' v n;split at hb
  ·obtain⟨_,hb'⟩:=aa hb;simp only[Option.map_eq_some_iff] at hb';obtain⟨a,_,ha⟩:=hb';simp only[UC,Uw] at ha;rw[gQ];simp[Cell.keys,ha.2]
  ·cases hb
 ·cases hb
theorem IA{d:Option Nat}{sT:TypeId}{s x:V1}{K:Dl->Option R}(Hs:Agree st.h st'.h s.keys)(Hx:Agree st.h st'.h x.keys)(hd:st'.h (dk d)=st.h (dk d)):iN te st' d sT s x K=iN te st d sT s x K:=by
 unfold iN;split;·rfl
 ·split
  ·rfl
  ·split
   ·rfl
   ·rename_i e _ ti _ t _;rw[Kj Hs,uO Hx,jA hd];split
    ·rename_i xs k ys hb _;cases k with
     |none=>rfl
     |some k=>simp only[jA (Hs k (IG hb))]
    ·rfl
theorem IB{d:Option Nat}{sT:TypeId}{s x:V1}{K:Dl->Option R}(Hs:Agree st.h st'.h s.keys)(Hx:Agree st.h st'.h x.keys)(hd:st'.h (dk d)=st.h (dk d)):gI te st' d sT s x K=gI te st d sT s x K:=by
 have hs:=IA (te:=te) (sT:=sT) (K:=K) Hs Hx hd;unfold gI;split;·rw[gQ] at Hs;simp only[uO Hx,Bq Hs,jA hd]
 ·exact hs
theorem Kc{bm:List Nat}{cd:CD}{c:Cell}{y:cd.T}{m:Met}(ha:cd.abs h bm c=some (y,m))(H:Agree h h' (bm++(m.rows.filterMap id++m.deps))):cd.abs h' bm c=some (y,m):=by
 cases cd with
 |sl t=>
  cases c with
  |sl d t' xs=>
   simp only[CD.abs] at ha⊢;obtain⟨hd,ha1⟩:=aa ha;have hk:∀x,d=some x->h' x.1=h x.1:=fun x e=>H _ (by
    split at ha1;·simp only[Uw,UC] at ha1;rw[<- ha1.2,e];simp
    ·cases ha1)
   rw[kZ hk];exact ha
  |slc d t' xs=>
   simp only[CD.abs] at ha⊢;obtain⟨hd,ha1⟩:=aa ha;have hk:∀x,d=some x->h' x.1=h x.1:=fun x e=>H _ (by
    split at ha1;·simp only[Uw,UC] at ha1;rw[<- ha1.2,e];simp
    ·cases ha1)
   rw[kZ hk];exact ha
  |own k v=>
   simp only[CD.abs] at ha⊢;have hk:h' k=h k:=H _ (by
    split at ha
    ·split at ha
     ·simp only[Uw,UC] at ha;rw[<- ha.2];simp
     ·cases ha
    ·cases ha)
   rw[at_eq hk];exact ha
  |ownP k v n=>
   simp only[CD.abs] at ha⊢;have hk:h' k=h k:=H _ (by
    split at ha
    ·split at ha
     ·simp only[Uw,UC] at ha;rw[<- ha.2];simp
     ·cases ha
    ·cases ha)
   rw[at_eq hk];exact ha
  |_=>exact ha
 |row e t=>
  cases c with
  |own k v=>
   simp only[CD.abs] at ha⊢;have hk:h' k=h k:=H _ (by
    split at ha
    ·obtain⟨_,ha⟩:=aa ha;split at ha
     ·simp only[Uw,UC] at ha;rw[<- ha.2];simp
     ·cases ha
    ·cases ha)
   rw[at_eq hk];exact ha
  |ownP k v n=>
   simp only[CD.abs] at ha⊢;have hk:h' k=h k:=H _ (by
    split at ha
    ·obtain⟨_,ha⟩:=aa ha;split at ha
     ·simp only[Uw,UC] at ha;rw[<- ha.2];simp
     ·cases ha
    ·cases ha)
   rw[at_eq hk];exact ha
  |_=>exact ha
 |ptr i off=>
  cases c with
  |ptr k v o=>
   simp only[CD.abs] at ha⊢;obtain⟨hb,_⟩:=aa ha;have hk:h' k=h k:=H _ (List.mem_append_left _ (List.mem_of_getElem? hb));rw[at_eq hk];exact ha
  |_=>exact ha
 |slc t=>
  cases c with
  |slc d t' xs=>
   simp only[CD.abs] at ha⊢;obtain⟨hd,ha1⟩:=aa ha;have hk:∀x,d=some x->h' x.1=h x.1:=fun x e=>H _ (by
    split at ha1;·simp only[Uw,UC] at ha1;rw[<- ha1.2,e];simp
    ·cases ha1)
   rw[kZ hk];exact ha
  |_=>exact ha
 |clr i fs=>
  cases c with
  |clr k v gs=>
   simp only[CD.abs] at ha⊢;obtain⟨hb,_⟩:=aa ha;have hk:h' k=h k:=H _ (List.mem_append_left _ (List.mem_of_getElem? hb));rw[at_eq hk];exact ha
  |_=>exact ha
 |pp t=>
  cases c with
  |slp d t' xs i off=>cases d with
   |none=>exact ha
   |some x=>cases ha
  |ptr k v off=>
   simp only[CD.abs] at ha⊢;have hk:h' k=h k:=H _ (by
    split at ha
    ·obtain⟨_,ha⟩:=aa ha;split at ha
     ·simp only[Uw,UC] at ha;rw[<- ha.2];simp
     ·cases ha
    ·cases ha)
   rw[at_eq hk];exact ha
  |_=>exact ha
 |_=>cases c<;>exact ha
theorem Gu{bm:List Nat}:∀{l:List CD}{cs:List Cell}{y:TL l}{m:Met},fK h bm l cs=some (y,m)->Agree h h' (bm++(m.rows.filterMap id++m.deps))->fK h' bm l cs=some (y,m)
 |[],[],_,_,ha,_=>ha
 |[],_::_,_,_,ha,_=>by cases ha
 |_::_,[],_,_,ha,_=>by cases ha
 |cd::l,c::cs,y,m,ha,H=>by
  simp only[fK] at ha⊢;split at ha
  ·rename_i y1 m1 h1;split at ha
   ·rename_i y2 m2 h2;simp only[Uw,UC] at ha;obtain⟨e1,e2⟩:=ha;subst e2;rw[Kc h1 (H.sub fun k hk=>?_),Gu h2 (H.sub fun k hk=>?_)]
    ·simp only[e1]
    ·simp only[List.filterMap_append,UK] at hk⊢;rcases hk with hk|hk|hk
     ·exact .inl hk
     ·exact .inr (.inl (.inr hk))
     ·exact .inr (.inr (.inr hk))
    ·simp only[List.filterMap_append,UK] at hk⊢;rcases hk with hk|hk|hk
     ·exact .inl hk
     ·exact .inr (.inl (.inl hk))
     ·exact .inr (.inr (.inl hk))
   ·cases ha
  ·cases ha
theorem iP:∀{bl:List (Option Nat×List CD)}{cs all:List Cell}{bm0 bm:List Nat},bD h bl cs bm0=some (all,bm)->(∀k,k∈bm0->k∈bm)/\bm.length=bm0.length+bl.length
 |[],cs,all,bm0,bm,he=>by
  simp only[bD,Uw,UC] at he;obtain⟨_,rfl⟩:=he;exact⟨fun k hk=>hk,by simp⟩
 |(none,ds)::bl,cs,all,bm0,bm,he=>by
  simp only[bD] at he;split at he;·obtain⟨_,he⟩:=aa he;obtain⟨g1,g2⟩:=iP he;exact⟨fun k hk=>g1 k (List.mem_append_left _ hk),by simp at g2⊢;omega⟩
  ·cases he
 |(some p,ds)::bl,cs,all,bm0,bm,he=>by
  simp only[bD] at he;split at he
  ·split at he
   ·obtain⟨_,he⟩:=aa he;obtain⟨g1,g2⟩:=iP he;exact⟨fun k hk=>g1 k (List.mem_append_left _ hk),by simp at g2⊢;omega⟩
   ·cases he
  ·cases he
theorem rA:∀{bl:List (Option Nat×List CD)}{cs all:List Cell}{bm0 bm:List Nat},bD h bl cs bm0=some (all,bm)->Agree h h' bm->bD h' bl cs bm0=some (all,bm)
 |[],cs,all,bm0,bm,he,_=>he
 |(none,ds)::bl,cs,all,bm0,bm,he,H=>by
  simp only[bD] at he⊢;have hk:h' (nmJ bm0.length).1=h (nmJ bm0.length).1:=H _ (by
   split at he;·obtain⟨_,he⟩:=aa he;exact(iP he).1 _ (by simp)
   ·cases he)
  rw[at_eq hk];split at he;·obtain⟨hl,he⟩:=aa he;rw[if_pos hl];exact rA he H
  ·cases he
 |(some p,ds)::bl,cs,all,bm0,bm,he,H=>by
  simp only[bD] at he⊢;split at he
  ·rename_i k v o hp;have hk:h' k=h k:=H _ (by
    split at he;·obtain⟨_,he⟩:=aa he;exact(iP he).1 _ (by simp)
    ·cases he)
   rw[at_eq hk];split at he;·obtain⟨hl,he⟩:=aa he;rw[if_pos hl];exact rA he H
   ·cases he
  ·cases he
theorem Fe{sh:Shape}{l:List V}{a:Abs sh.T}(ha:sh.abs ⟨l,h⟩=some a)(H:Agree h h' (a.keys++a.m.deps)):sh.abs ⟨l,h'⟩=some a:=by
 unfold Shape.abs at ha⊢;split at ha
 ·rename_i cs hg;rw[show dL (St.mk l h').s sh.slots=some cs from hg];split at ha
  ·rename_i all bm hgb;split at ha
   ·rename_i x m hm;obtain⟨hc,ha⟩:=aa ha;simp only[Uw] at ha;subst ha;have Hb:Agree h h' bm:=H.sub fun k hk=>by simp[Abs.keys,hk]
    have Hm:Agree h h' (bm++(m.rows.filterMap id++m.deps)):=H.sub fun k hk=>by
     simp only[Abs.keys,UK] at hk⊢;rcases hk with hk|hk|hk;·exact .inl (.inl hk)
     ·exact .inl (.inr hk)
     ·exact .inr hk
    simp only[rA hgb Hb,Gu hm Hm,if_pos hc]
   ·cases ha
  ·cases ha
 ·cases ha
theorem lQ{l:List V}:∀{sl:List (Nat×SD)}{cs:List Cell},dL l sl=some cs->∀c,c∈cs->∃v,v∈l/\∀k,k∈c.keys->k∈v.keys
 |[],cs,he,c,hc=>by
  simp only[dL,Uw] at he;subst he;simp at hc
 |(i,.c d)::sl,cs,he,c,hc=>by
  simp only[dL] at he;split at he
  ·rename_i x hx;split at he
   ·rename_i cs' h1;simp only[Uw] at he;subst he;rcases UG.1 hc with rfl|hc
    ·exact⟨_,List.mem_of_getElem? hx,fun k hk=>by simp[V.keys,V1.keys,V1.cells,hk]⟩
    ·exact lQ h1 c hc
   ·cases he
  ·cases he
 |(i,.agg d)::sl,cs,he,c,hc=>by
  simp only[dL] at he;split at he
  ·rename_i xs hx;obtain⟨_,he'⟩:=aa he;split at he'
   ·rename_i cs' h1;simp only[Uw] at he';subst he';rcases UK.1 hc with hc|hc
    ·exact⟨_,List.mem_of_getElem? hx,fun k hk=>List.mem_flatMap.2 ⟨c,hc,hk⟩⟩
    ·exact lQ h1 c hc
   ·cases he'
  ·cases he
 |(i,.clo f d)::sl,cs,he,c,hc=>by
  simp only[dL] at he;split at he
  ·rename_i f' xs hx;obtain⟨_,he'⟩:=aa he;split at he'
   ·rename_i cs' h1;simp only[Uw] at he';subst he';rcases UK.1 hc with hc|hc
    ·exact⟨_,List.mem_of_getElem? hx,fun k hk=>List.mem_flatMap.2 ⟨c,hc,hk⟩⟩
    ·exact lQ h1 c hc
   ·cases he'
  ·cases he
theorem Hq{x:Operand}{v:V1}(h:opd st x=some v):opdV st x=some (.v v):=by
 cases x with
 |tmp t=>
  simp only[opd] at h;simp only[opdV];split at h;·cases h
  ·rename_i y hy hs;simp only[Uw] at h;subst h;rw[hs];split<;>first|rfl|(rename_i e;cases e;done)|(rename_i e;simp at e;done)|skip
   all_goals simp_all
  ·cases h
 |_=>simp only[opdV,h]
structure bY (st st':St) (l:List Operand):Prop where
 slot:∀t,Operand.tmp t∈l->st'.s[t]?=st.s[t]?
 heap:Agree st.h st'.h (dn st l)
theorem bY.opd{l:List Operand}(A:bY st st' l){x:Operand}(hx:x∈l):Rv.opd st' x=Rv.opd st x:=by
 cases x with
 |tmp t=>simp only[Rv.opd,A.slot t hx]
 |_=>rfl
theorem bY.keysV{l:List Operand}(A:bY st st' l){x:Operand}(hx:x∈l){v:V}(hv:Rv.opdV st x=some v):Agree st.h st'.h v.keys:=
 A.heap.sub fun k hk=>List.mem_flatMap.2 ⟨x,hx,by rw[hv];exact hk⟩
theorem bY.keys{l:List Operand}(A:bY st st' l){x:Operand}(hx:x∈l){v:V1}(hv:Rv.opd st x=some v):Agree st.h st'.h v.keys:=A.keysV hx (Hq hv)
theorem bY.sub{l m:List Operand}(A:bY st st' l)(hs:∀x,x∈m->x∈l):bY st st' m:=
 ⟨fun t ht=>A.slot t (hs _ ht),A.heap.sub fun k hk=>by
  obtain⟨x,hx,hk⟩:=List.mem_flatMap.1 hk;exact List.mem_flatMap.2 ⟨x,hs x hx,hk⟩⟩
theorem qz:∀{l:List Operand},bY st st' l->iV st' l=iV st l
 |[],_=>rfl
 |x::l,A=>by
  simp only[iV];rw[A.opd (by simp),qz (A.sub fun x hx=>by simp[hx])]
theorem mU:∀{l:List (Nat×Operand)},bY st st' (l.map (·.2))->partsOf st' l=partsOf st l
 |[],_=>rfl
 |(i,x)::l,A=>by
  simp only[partsOf];rw[A.opd (by simp),mU (A.sub fun x hx=>by simp only[UO,UG];exact .inr hx)]
theorem uR{x:Option Operand}(A:bY st st' x.toList):kP st' x=kP st x:=by
 cases x with
 |none=>rfl
 |some x=>simp only[kP];rw[A.opd (by simp)]
theorem bY.opdV{l:List Operand}(A:bY st st' l){x:Operand}(hx:x∈l):Rv.opdV st' x=Rv.opdV st x:=by
 cases x with
 |tmp t=>simp only[Rv.opdV,A.slot t hx]
 |_=>rfl
theorem rX:∀{l:List Operand},bY st st' l->ja st' l=ja st l
 |[],_=>rfl
 |x::l,A=>by
  simp only[ja];rw[A.opdV (by simp),rX (A.sub fun x hx=>by simp[hx])]
theorem qV{c:Operand}(h:∀t,c=.tmp t->st'.s[t]?=st.s[t]?):kU st' c=kU st c:=by
 cases c with
 |tmp t=>simp only[kU,h t rfl]
 |_=>rfl
theorem wN{c:Operand}(h:∀t,c=.tmp t->st'.s[t]?=st.s[t]?):jW st' c=jW st c:=by
 cases c with
 |tmp t=>simp only[jW,h t rfl]
 |_=>rfl
theorem Bn:∀{l:List (Nat×Operand)},bY st st' (l.map (·.2))->gM st' l=gM st l
 |[],_=>rfl
 |[(i,x)],A=>by simp only[gM,A.opdV (x:=x) (by simp)]
 |(i,x)::p::r,A=>by
  have ih:=Bn (l:=p::r) (A.sub fun x hx=>by simp only[UO,UG] at hx⊢;exact .inr hx);simp only[gM,A.opdV (x:=x) (by simp)] at ih⊢;rw[ih]
theorem IW{k v:Nat}:∀{l:List (Nat×Operand)}{fs:List FuncId},gM st l=some (k,v,fs)->∃p,p∈l/\∃f,opdV st p.2=some (.clo f [.ptr k v 0])
 |[],fs,h=>by cases h
 |[(i,x)],fs,h=>by
  rw[gM] at h;split at h;·rename_i f k' v' hx;cases h;exact⟨(i,x),by simp,f,hx⟩
  ·cases h
 |(i,x)::p::r,fs,h=>by
  rw[gM] at h;split at h
  ·rename_i f k' v' hx;split at h
   ·rename_i k2 v2 fs2 hr;obtain⟨⟨rfl,rfl⟩,h⟩:=aa h;cases h;exact⟨(i,x),by simp,f,hx⟩
   ·cases h
  ·cases h
  ·rintro⟨⟩
theorem Qx{c:Operand}(h:∀t,c=.tmp t->st'.s[t]?=st.s[t]?):Ak st' c=Ak st c:=by
 cases c with
 |tmp t=>simp only[Ak,h t rfl]
 |_=>rfl
theorem Lr{v:V}(H:Agree h h' v.keys):mq h' v=mq h v:=by
 cases v with
 |v x=>
  cases x with
  |agg cs=>rfl
  |c c=>
   have H:Agree h h' c.keys:=H.sub fun k hk=>by simp[V.keys,V1.keys,V1.cells,hk]
   cases c with
   |ptr k v off=>simp only[mq,at_eq (H k (by simp[Cell.keys]))]
   |elt k v i off=>simp only[mq,ig (H k (by simp[Cell.keys]))]
   |slp d t xs i off=>simp only[mq,um H]
   |_=>rfl
 |_=>rfl
theorem MJ{op:Op}(A:bY st st' op.operands.toList){K:V->Option R}:vop te st' op K=vop te st op K:=by
 unfold vop;split;·rename_i x;rw[A.opdV (by simp[Op.operands])]
 ·rename_i x;rw[A.opdV (by simp[Op.operands])]
 ·rename_i c a b;rw[A.opd (x:=c) (by simp[Op.operands]),A.opd (x:=a) (by simp[Op.operands]),A.opd (x:=b) (by simp[Op.operands])]
 ·rename_i t parts;rw[mU (A.sub fun x hx=>by simpa[Op.operands] using hx)]
 ·rename_i t x;rw[A.opd (by simp[Op.operands])];cases hx:opd st x with
  |none=>rfl
  |some v=>exact N9 (A.keys (by simp[Op.operands]) hx)
 ·rename_i t x f;rw[A.opd (by simp[Op.operands])];cases hx:opd st x with
  |none=>rfl
  |some v=>
   have H:=A.keys (by simp[Op.operands]) hx;cases v with
   |agg cs=>rfl
   |c c=>
    rw[gQ] at H;cases hf:(te t).bind (·.fields[f]?) with
    |none=>cases c<;>rfl
    |some fd=>
     cases c with
     |ptr k v off=>simp only[at_eq (H k (by simp[Cell.keys]))]
     |elt k v i off=>simp only[ig (H k (by simp[Cell.keys]))]
     |slp d t xs i off=>simp only[um H]
     |_=>rfl
 ·rename_i t x f;rw[A.opd (by simp[Op.operands])]
 ·rename_i t x i;rw[A.opd (x:=x) (by simp[Op.operands]),A.opd (x:=i) (by simp[Op.operands])];cases hx:opd st x with
  |none=>rfl
  |some v=>
   cases hi:opd st i with
   |none=>rfl
   |some j=>exact CX (A.keys (by simp[Op.operands]) hx)
 ·rename_i t x i;rw[A.opd (x:=x) (by simp[Op.operands]),A.opd (x:=i) (by simp[Op.operands])]
 ·rename_i t x lo hi mx;rw[A.opd (x:=x) (by simp[Op.operands]),uR (x:=lo) (A.sub fun x hx=>by simp only[Option.mem_toList,Option.mem_def] at hx;simp[Op.operands,hx]),uR (x:=hi) (A.sub fun x hx=>by simp only[Option.mem_toList,Option.mem_def] at hx;simp[Op.operands,hx]),
   uR (x:=mx) (A.sub fun x hx=>by simp only[Option.mem_toList,Option.mem_def] at hx;simp[Op.operands,hx])]
  cases hx:opd st x with
  |none=>rfl
  |some v=>
   simp only[au];split
   ·split
    ·split
     ·exact Mo (A.keys (by simp[Op.operands]) hx)
     ·rfl
    ·rfl
   ·rfl
 ·rename_i op t x y _;rw[A.opd (x:=x) (by simp[Op.operands]),A.opd (x:=y) (by simp[Op.operands])]
 ·rename_i op _ x;rw[A.opd (by simp[Op.operands])]
 ·rename_i src dst x;rw[A.opd (by simp[Op.operands])]
 ·rename_i t x;cases x with
  |tmp s=>simp only[A.slot s (by simp[Op.operands])]
  |_=>rfl
 ·rename_i f first captured
  have h1:iV st' captured.toList=iV st captured.toList:=qz (A.sub fun x hx=>by simp only[Op.operands,Array.toList_append,UK];exact .inr hx);have h2:iV st' first.toList=iV st first.toList:=qz (A.sub fun x hx=>by simp only[Op.operands,Array.toList_append,UK];exact .inl hx)
  rw[h1,h2]
 ·rename_i x;rw[A.opdV (by simp[Op.operands])];cases hx:opdV st x with
  |none=>rfl
  |some v=>
   simp only[au];rw[Lr (A.keysV (by simp[Op.operands]) hx)]
 ·rename_i x i;split
  ·rename_i t;rw[A.slot t (by simp[Op.operands])]
  ·rfl
 ·rename_i args argTypes _;split
  ·rename_i x t ha ht;rw[A.opd (x:=x) (by simp[Op.operands,Call.operands,<- Array.mem_toList_iff,ha])];cases hx:opd st x with
   |none=>rfl
   |some v=>
    simp only[au];exact QT (A.keys (by simp[Op.operands,Call.operands,<- Array.mem_toList_iff,ha]) hx)
  ·rfl
 ·rename_i args _ _;rw[qz (A.sub fun x hx=>by simp[Op.operands,Call.operands];simpa using hx)]
 ·rename_i args _ _;rw[qz (A.sub fun x hx=>by simp[Op.operands,Call.operands];simpa using hx)]
 ·rfl
end
end Rv
namespace Rv
open Go
section
variable{R:Type}{r:R}{st:St}{te:TypeId->Option TI}
def eQ{α:Type}(F:(α->Option R)->Option R)(K:α->Option R)(r:R):Prop:=∃y,K y=some r/\∀K',F K'=K' y
theorem eQ.one{F:(V1->Option R)->Option R}{K:V->Option R}(h:eQ F (one K) r):eQ (fun K=>F (one K)) K r:=by
 obtain⟨y,h1,h2⟩:=h;exact⟨.v y,h1,fun K'=>h2 _⟩
theorem gV{α:Type}{x:Option α}{K:α->Option R}(he:au x K=some r):eQ (au x) K r:=by
 obtain⟨a,rfl,h⟩:=ae he;exact⟨a,h,fun _=>rfl⟩
theorem IJ{op:BinOp}{k:IntKind}{x y:Int}{K:Cell->Option R}(he:qR op k x y K=some r):eQ (qR op k x y) K r:=by
 unfold qR at he;split at he<;>first
  |exact⟨_,he,fun K'=>rfl⟩
  |(obtain⟨hy,he'⟩:=nu he;exact⟨_,he',fun K'=>by simp only[qR,if_neg hy]⟩)
  |cases he
theorem IQ{op:BinOp}{x y:Str}{K:Cell->Option R}(he:qU op x y K=some r):eQ (qU op x y) K r:=by
 unfold qU at he;split at he<;>first
  |exact⟨_,he,fun K'=>rfl⟩
  |(obtain⟨hy,he'⟩:=aa he;exact⟨_,he',fun K'=>by simp only[qU,if_pos hy]⟩)
  |cases he
theorem Ct{op:BinOp}{k:IntKind}{x y:Int}{K:Cell->Option R}(he:shI op k x y K=some r):eQ (shI op k x y) K r:=by
 unfold shI at he;obtain⟨hy,he⟩:=nu he;split at he;·exact⟨_,he,fun K'=>by simp only[shI,if_neg hy]⟩
 ·rename_i hne;refine⟨_,he,fun K'=>?_⟩;unfold shI;rw[if_neg hy];split
  ·exact absurd rfl hne
  ·rfl
theorem M5{isB isI isX:Bool}{ik:TypeId->Option IntKind}{et:Option Ty}{op:BinOp}{k k':IntKind}{x y:Int}{K:V1->Option R}(h1:op≠.shl)(h2:op≠.shr):jI isB isI isX ik et op (.c (.int k x)) (.c (.int k' y)) K=if k=k' then qR op k x y fun c=>K (.c c) else none:=by
 cases op<;>first|rfl|exact absurd rfl h1|exact absurd rfl h2
theorem M6{isB isI isX:Bool}{ik:TypeId->Option IntKind}{et:Option Ty}{op:BinOp}{x y:Str}{K:V1->Option R}:jI isB isI isX ik et op (.c (.str x)) (.c (.str y)) K=qU op x y fun c=>K (.c c):=by
 cases op<;>rfl
theorem wP{T:Ty}{xs ys:List Cell}{K:Bool->Option R}(he:oI T xs ys K=some r):eQ (oI T xs ys) K r:=by
 unfold oI at he;split at he;·rename_i hx hy;exact⟨_,he,fun K'=>by simp only[oI,hx,hy]⟩
 ·cases he
theorem IL{isB isI isX:Bool}{ik:TypeId->Option IntKind}{et:Option Ty}{op:BinOp}{a b:V1}{K:V1->Option R}(he:jI isB isI isX ik et op a b K=some r):eQ (jI isB isI isX ik et op a b) K r:=by
 unfold jI at he;split at he;·obtain⟨y,h1,h2⟩:=Ct he;exact⟨_,h1,fun K'=>h2 fun c=>K' (.c c)⟩
 ·obtain⟨y,h1,h2⟩:=Ct he;exact⟨_,h1,fun K'=>h2 fun c=>K' (.c c)⟩
 ·rename_i k x k' y hn hn';obtain⟨hk,he⟩:=aa he;obtain⟨z,h1,h2⟩:=IJ he;have g1:op≠.shl:=fun e=>by simp[e] at hn
  have g2:op≠.shr:=fun e=>by simp[e] at hn'
  refine⟨_,h1,fun K'=>?_⟩;rw[M5 g1 g2,if_pos hk];exact h2 fun c=>K' (.c c)
 ·obtain⟨z,h1,h2⟩:=IQ he;refine⟨_,h1,fun K'=>?_⟩;rw[M6];exact h2 fun c=>K' (.c c)
 ·obtain⟨hb,he⟩:=aa he;exact⟨_,he,fun K'=>by simp only[jI,if_pos hb]⟩
 ·obtain⟨hb,he⟩:=aa he;exact⟨_,he,fun K'=>by simp only[jI,if_pos hb]⟩
 ·obtain⟨hb,he⟩:=aa he;exact⟨_,he,fun K'=>by simp only[jI,if_pos hb]⟩
 ·obtain⟨hb,he⟩:=aa he;exact⟨_,he,fun K'=>by simp only[jI,if_pos hb]⟩
 ·obtain⟨hb,he⟩:=aa he;exact⟨_,he,fun K'=>by simp only[jI,if_pos hb]⟩
 ·obtain⟨hb,he⟩:=aa he;exact⟨_,he,fun K'=>by simp only[jI,if_pos hb]⟩
 ·obtain⟨hb,he⟩:=aa he;exact⟨_,he,fun K'=>by simp only[jI,if_pos hb]⟩
 ·obtain⟨hb,he⟩:=aa he;exact⟨_,he,fun K'=>by simp only[jI,if_pos hb]⟩
 ·split at he
  ·obtain⟨y,h1,h2⟩:=wP he;exact⟨_,h1,fun K'=>h2 fun b=>K' (.c (.bool b))⟩
  ·cases he
 ·split at he
  ·obtain⟨y,h1,h2⟩:=wP he;exact⟨_,h1,fun K'=>h2 fun b=>K' (.c (.bool !b))⟩
  ·cases he
 ·cases he
theorem MH{op:UnOp}{a:V1}{K:V1->Option R}(he:unK op a K=some r):eQ (unK op a) K r:=by
 unfold unK at he;split at he;·exact⟨_,he,fun K'=>rfl⟩
 ·exact⟨_,he,fun K'=>rfl⟩
 ·exact⟨_,he,fun K'=>rfl⟩
 ·cases he
theorem FZ{t:TypeId}{x:V1}{K:V1->Option R}(he:dW te st t x K=some r):eQ (dW te st t x) K r:=by
 unfold dW at he;split at he
 ·rename_i hti;split at he
  ·rename_i hat
   obtain⟨hle,he⟩:=aa he;obtain⟨y,hm,he⟩:=ae he;exact⟨y,he,fun K'=>by simp only[dW,hti,hat,if_pos hle,hm,au]⟩
  ·cases he
 ·rename_i hti;split at he
  ·rename_i hat
   obtain⟨hle,he⟩:=aa he;obtain⟨y,hm,he⟩:=ae he;exact⟨y,he,fun K'=>by simp only[dW,hti,hat,if_pos hle,hm,au]⟩
  ·rename_i hat
   obtain⟨hle,he⟩:=aa he;obtain⟨y,hm,he⟩:=ae he;exact⟨y,he,fun K'=>by simp only[dW,hti,hat,if_pos hle,hm,au]⟩
  ·cases he
 ·rename_i hti;split at he
  ·rename_i hat
   obtain⟨hle,he⟩:=aa he;obtain⟨y,hm,he⟩:=ae he;exact⟨_,he,fun K'=>by simp only[dW,hti,hat,if_pos hle,hm,au]⟩
  ·cases he
 ·rename_i hti;obtain⟨hd,he⟩:=aa he;obtain⟨hle,he⟩:=aa he;obtain⟨y,hm,he⟩:=ae he;exact⟨y,he,fun K'=>by simp only[dW,hti,if_pos hd,if_pos hle,hm,au]⟩
 ·cases he
theorem F4{t:TypeId}{x:V1}{K:V->Option R}(he:kK te st t x K=some r):eQ (kK te st t x) K r:=by
 unfold kK at he;split at he
 ·split at he
  ·rename_i hti hat
   obtain⟨h1,he⟩:=aa he;exact⟨_,he,fun K'=>by simp only[kK,hti,hat,if_pos h1]⟩
  ·cases he
 ·rename_i hne;obtain⟨y,h1,h2⟩:=(FZ he).one;refine⟨y,h1,fun K'=>?_⟩;unfold kK;split
  ·exact absurd rfl (hne _ _ _)
  ·exact h2 K'
theorem xK{es ar:Option Nat}{el:Option (Nat×Nat)}{x i:V1}{K:V1->Option R}(he:aV st es ar el x i K=some r):eQ (aV st es ar el x i) K r:=by
 unfold aV at he;split at he;·obtain⟨h1,he⟩:=aa he;obtain⟨h2,he⟩:=aa he;obtain⟨h3,he⟩:=aa he;exact⟨_,he,fun K'=>by simp only[aV,if_pos h1,if_pos h2,if_pos h3]⟩
 ·split at he
  ·rename_i hl;obtain⟨h2,he⟩:=aa he;obtain⟨h3,he⟩:=aa he;exact⟨_,he,fun K'=>by simp only[aV,hl,if_pos h2,if_pos h3]⟩
  ·cases he
 ·split at he
  ·rename_i hl;obtain⟨h2,he⟩:=aa he;obtain⟨h3,he⟩:=aa he;exact⟨_,he,fun K'=>by simp only[aV,hl,if_pos h2,if_pos h3]⟩
  ·cases he
 ·rename_i k v fs ik i;obtain⟨h1,he⟩:=aa he;split at he
  ·rename_i hat
   obtain⟨m,f,_,_,h3,h4⟩:=uW he;exact⟨_,h3,fun K'=>by simp only[aV,if_pos h1,hat];exact h4 _⟩
  ·cases he
 ·split at he
  ·rename_i har hat
   obtain⟨h3,he⟩:=aa he;exact⟨_,he,fun K'=>by simp only[aV,hat,if_pos h3]⟩
  ·rename_i hat
   split at he;·obtain⟨m,_,_,_,h3,h4⟩:=si he;exact⟨_,h3,fun K'=>by simp only[aV,hat];exact h4 _⟩
   ·cases he
  ·cases he
 ·cases he
theorem Eh{str:Bool}{ar:Option Nat}{x i:V1}{K:V1->Option R}(he:mg str ar x i K=some r):eQ (mg str ar x i) K r:=by
 unfold mg at he;split at he;·obtain⟨h2,he⟩:=aa he;obtain⟨h3,he⟩:=aa he;exact⟨_,he,fun K'=>by simp only[mg,if_pos h2,if_pos h3]⟩
 ·split at he
  ·obtain⟨h2,he⟩:=aa he;obtain⟨h3,he⟩:=aa he;obtain⟨c,hm,he⟩:=ae he;exact⟨_,he,fun K'=>by simp only[mg,if_pos h2,if_pos h3,hm,au]⟩
  ·cases he
 ·cases he
theorem Jj{str:Bool}{es:Option Nat}{x:V1}{K:Nat->Option R}(he:gU st str es x K=some r):eQ (gU st str es x) K r:=by
 unfold gU at he;split at he;·obtain⟨h1,he⟩:=aa he;exact⟨_,he,fun K'=>by simp only[gU,if_pos h1]⟩
 ·obtain⟨h1,he⟩:=aa he;obtain⟨h2,he⟩:=aa he;exact⟨_,he,fun K'=>by simp only[gU,if_pos h1,if_pos h2]⟩
 ·obtain⟨h1,he⟩:=aa he;exact⟨_,he,fun K'=>by simp only[gU,if_pos h1]⟩
 ·obtain⟨h1,he⟩:=aa he;obtain⟨h2,he⟩:=aa he;exact⟨_,he,fun K'=>by simp only[gU,if_pos h1,if_pos h2]⟩
 ·split at he
  ·rename_i hat
   obtain⟨h1,he⟩:=aa he;exact⟨_,he,fun K'=>by simp only[gU,hat,if_pos h1]⟩
  ·cases he
 ·split at he
  ·rename_i hl;obtain⟨h1,he⟩:=aa he;exact⟨_,he,fun K'=>by simp only[gU,hl,if_pos h1]⟩
  ·cases he
 ·split at he
  ·rename_i hl;obtain⟨h1,he⟩:=aa he;exact⟨_,he,fun K'=>by simp only[gU,hl,if_pos h1]⟩
  ·cases he
 ·cases he
def uM(lo:Option V1)(h:Int)(K:Nat->Nat->Option R):Option R:=
 match lo with
 |none=>K 0 h.toNat
 |some (.c (.int _ l))=>if 0<=l/\l<=h then K l.toNat h.toNat else none
 |some _=>none
theorem rQ{lo:Option V1}{h:Int}{K:Nat->Nat->Option R}(he:uM lo h K=some r):∃l,K l h.toNat=some r/\∀K':Nat->Nat->Option R,uM lo h K'=K' l h.toNat:=by
 unfold uM at he;split at he;·exact⟨0,he,fun K'=>rfl⟩
 ·rename_i l;obtain⟨h1,he⟩:=aa he;exact⟨_,he,fun K'=>by simp only[uM,if_pos h1]⟩
 ·cases he
theorem dh{n:Nat}{lo hi mx:Option V1}{K:Nat->Nat->Option R}(he:gK n lo hi mx K=some r):∃l h,K l h=some r/\∀K':Nat->Nat->Option R,gK n lo hi mx K'=K' l h:=by
 cases mx with
 |none=>
  cases hi with
  |none=>
   obtain⟨l,h1,h2⟩:=rQ (lo:=lo) (h:=(n:Int)) he;exact⟨l,_,h1,fun K'=>h2 K'⟩
  |some v=>
   cases v with
   |agg cs=>cases he
   |c c=>
    cases c with
    |int k h=>
     have he1:(if 0<=h/\h<=(n:Int) then uM lo h K else none)=some r:=he;obtain⟨h0,he2⟩:=aa he1;obtain⟨l,h1,h2⟩:=rQ he2;refine⟨l,_,h1,fun K'=>?_⟩;show(if 0<=h/\h<=(n:Int) then uM lo h K' else none)=_;rw[if_pos h0];exact h2 K'
    |_=>cases he
 |some m=>
  cases m with
  |agg cs=>cases he
  |c c=>
   cases c with
   |int mk m=>
    cases hi with
    |none=>
     have he1:(if 0<=m/\m<=(n:Int) then none else none)=some r:=he;split at he1<;>cases he1
    |some v=>
     cases v with
     |agg cs=>
      have he1:(if 0<=m/\m<=(n:Int) then none else none)=some r:=he;split at he1<;>cases he1
     |c c=>
      cases c with
      |int k h=>
       have he1:(if 0<=m/\m<=(n:Int) then(if 0<=h/\h<=m then uM lo h K else none) else none)=some r:=he;obtain⟨hm,he2⟩:=aa he1;obtain⟨h0,he3⟩:=aa he2;obtain⟨l,h1,h2⟩:=rQ he3;refine⟨l,_,h1,fun K'=>?_⟩;show(if 0<=m/\m<=(n:Int) then(if 0<=h/\h<=m then uM lo h K' else none) else none)=_;rw[if_pos hm,if_pos h0];exact h2 K'
      |_=>
       have he1:(if 0<=m/\m<=(n:Int) then none else none)=some r:=he;split at he1<;>cases he1
   |_=>cases he
theorem vI{str:Bool}{es:Option Nat}{x:V1}{lo hi mx:Option V1}{K:V1->Option R}(he:aZ st str es x lo hi mx K=some r):eQ (aZ st str es x lo hi mx) K r:=by
 cases x with
 |agg cs=>cases he
 |c c=>
  cases c with
  |str s=>
   cases mx with
   |some m=>cases he
   |none=>
    simp only[aZ] at he;obtain⟨h1,he⟩:=aa he;obtain⟨l,h,h2,h3⟩:=dh he;exact⟨_,h2,fun K'=>by simp only[aZ,if_pos h1];exact h3 _⟩
  |nilS=>
   simp only[aZ] at he;obtain⟨h1,he⟩:=aa he;obtain⟨l,h,h2,h3⟩:=dh he;exact⟨_,h2,fun K'=>by simp only[aZ,if_pos h1];exact h3 _⟩
  |sl d t xs=>
   simp only[aZ] at he;obtain⟨h0,he⟩:=aa he;obtain⟨h1,he⟩:=aa he;obtain⟨l,h,h2,h3⟩:=dh he;exact⟨_,h2,fun K'=>by simp only[aZ,if_pos h0,if_pos h1];exact h3 _⟩
  |own k v=>
   cases hl:rowLen st.h k v with
   |none=>simp only[aZ,hl] at he;cases he
   |some tn=>
    obtain⟨t,n⟩:=tn;cases lo with
    |none=>
     cases mx with
     |none=>
      simp only[aZ,hl] at he;obtain⟨h1,he⟩:=aa he;obtain⟨l,h,h2,h3⟩:=dh he;exact⟨_,h2,fun K'=>by simp only[aZ,hl,if_pos h1];exact h3 _⟩
     |some m=>
      simp only[aZ,hl] at he;obtain⟨h1,he⟩:=aa he;obtain⟨rw,h0,he⟩:=ae he;obtain⟨l,h,h2,h3⟩:=dh he;exact⟨_,h2,fun K'=>by simp only[aZ,hl,if_pos h1,h0,au];exact h3 _⟩
    |some lv=>
     simp only[aZ,hl] at he;obtain⟨h1,he⟩:=aa he;obtain⟨rw,h0,he⟩:=ae he;obtain⟨l,h,h2,h3⟩:=dh he;exact⟨_,h2,fun K'=>by simp only[aZ,hl,if_pos h1,h0,au];exact h3 _⟩
  |ownP k v m0=>
   cases hl:rowLen st.h k v with
   |none=>simp only[aZ,hl] at he;cases he
   |some tn=>
    obtain⟨t,n⟩:=tn;cases lo with
    |none=>
     cases mx with
     |none=>
      simp only[aZ,hl] at he;obtain⟨h1,he⟩:=aa he;obtain⟨l,h,h2,h3⟩:=dh he;exact⟨_,h2,fun K'=>by simp only[aZ,hl,if_pos h1];exact h3 _⟩
     |some m=>
      simp only[aZ,hl] at he;obtain⟨h1,he⟩:=aa he;obtain⟨rw,h0,he⟩:=ae he;obtain⟨l,h,h2,h3⟩:=dh he;exact⟨_,h2,fun K'=>by simp only[aZ,hl,if_pos h1,h0,au];exact h3 _⟩
    |some lv=>
     simp only[aZ,hl] at he;obtain⟨h1,he⟩:=aa he;obtain⟨rw,h0,he⟩:=ae he;obtain⟨l,h,h2,h3⟩:=dh he;exact⟨_,h2,fun K'=>by simp only[aZ,hl,if_pos h1,h0,au];exact h3 _⟩
  |_=>cases he
theorem Fu{t:TypeId}{x v:V1}{K:List (Nat×En)->Option R}(he:fG te st t x v K=some r):eQ (fG te st t x v) K r:=by
 unfold fG at he;split at he
 ·rename_i hti;split at he
  ·rename_i hat
   obtain⟨h1,he⟩:=aa he;obtain⟨h2,he⟩:=aa he;exact⟨_,he,fun K'=>by simp only[fG,hti,hat,if_pos h1,if_pos h2]⟩
  ·cases he
 ·rename_i hti;split at he
  ·rename_i hat
   obtain⟨h1,he⟩:=aa he;obtain⟨h2,he⟩:=aa he;split at he;·rename_i hns;exact⟨_,he,fun K'=>by simp only[fG,hti,hat,if_pos h1,if_pos h2,hns]⟩
   ·cases he
  ·cases he
 ·rename_i hti;split at he
  ·rename_i hat
   obtain⟨h1,he⟩:=aa he;obtain⟨h2,he⟩:=aa he;obtain⟨y,h3,he⟩:=ae he;exact⟨_,he,fun K'=>by simp only[fG,hti,hat,if_pos h1,if_pos h2,h3,au]⟩
  ·cases he
 ·cases he
theorem CP{d:Option Nat}{sT:TypeId}{s x:V1}{K:Dl->Option R}(he:iN te st d sT s x K=some r):∃y,K y=some r/\(∀K':Dl->Option R,iN te st d sT s x K'=K' y)/\dk d∈y.up.map (·.1):=by
 unfold iN at he;split at he;·cases he
 ·rename_i e he0;split at he
  ·cases he
  ·rename_i ti hti;split at he
   ·cases he
   ·rename_i t ht;split at he
    ·rename_i xs k ys hb hm;obtain⟨h1,he⟩:=aa he;exact⟨_,he,fun K'=>by simp only[iN,he0,hti,ht,hb,hm,if_pos h1],by simp⟩
    ·cases he
theorem Fh{str:Bool}{es:Option Nat}{x:V1}{lo hi mx:Option V1}{K:V1->Option R}(he:iL st str es x lo hi mx K=some r):eQ (iL st str es x lo hi mx) K r:=by
 unfold iL at he;split at he
 ·split at he
  ·rename_i hrr;obtain⟨h1,he⟩:=aa he;exact⟨_,he,fun K'=>by simp only[iL,hrr,if_pos h1]⟩
  ·rename_i hrr;obtain⟨y,h1,h2⟩:=vI he;exact⟨y,h1,fun K'=>by simp only[iL,hrr];exact h2 K'⟩
 ·rename_i hne;obtain⟨y,h1,h2⟩:=vI he;refine⟨y,h1,fun K'=>?_⟩;unfold iL;split
  ·exact absurd rfl (hne _ _ _ _ _ rfl rfl rfl)
  ·exact h2 K'
theorem CQ{d:Option Nat}{sT:TypeId}{s x:V1}{K:Dl->Option R}(he:gI te st d sT s x K=some r):∃y,K y=some r/\(∀K':Dl->Option R,gI te st d sT s x K'=K' y)/\dk d∈y.up.map (·.1):=by
 unfold gI at he;split at he
 ·split at he
  ·cases he
  ·rename_i e he0;split at he
   ·cases he
   ·rename_i ti hti;split at he
    ·cases he
    ·rename_i t ht;split at he
     ·rename_i xs ys hb hm;obtain⟨h1,he⟩:=aa he;obtain⟨h2,he⟩:=aa he;exact⟨_,he,fun K'=>by simp only[gI,he0,hti,ht,hb,hm,if_pos h1,if_pos h2],by simp⟩
     ·cases he
 ·rename_i hne;obtain⟨y,h1,h2,h3⟩:=CP he;refine⟨y,h1,fun K'=>?_,h3⟩;unfold gI;split
  ·exact absurd rfl (hne _ _ _)
  ·exact h2 K'
theorem CG{op:Op}{K:V->Option R}(he:vop te st op K=some r):eQ (vop te st op) K r:=by
 unfold vop at he;split at he;·exact gV he
 ·exact gV he
 ·rename_i c a b;split at he
  ·rename_i t hc;split at he
   ·rename_i ht;obtain⟨y,h1,h2⟩:=gV he |>.one;exact⟨y,h1,fun K'=>by simp only[vop,hc,if_pos ht];exact h2 K'⟩
   ·rename_i ht;obtain⟨y,h1,h2⟩:=gV he |>.one;exact⟨y,h1,fun K'=>by simp only[vop,hc,if_neg ht];exact h2 K'⟩
  ·cases he
 ·split at he
  ·rename_i hti hp;split at he
   ·rename_i har;obtain⟨cs,h1,he⟩:=ae he;exact⟨_,he,fun K'=>by simp only[vop,hti,hp,har,h1,au]⟩
   rename_i har;obtain⟨h0,he⟩:=nu he;obtain⟨cs,h1,he⟩:=ae he;exact⟨_,he,fun K'=>by simp only[vop,hti,hp,har,if_neg h0,h1,au]⟩
  ·cases he
 ·obtain⟨v,hv,he⟩:=ae he;obtain⟨y,h1,h2⟩:=F4 he;exact⟨y,h1,fun K'=>by simp only[vop,hv,au];exact h2 K'⟩
 ·split at he
  ·rename_i hx hf;split at he
   ·rename_i hat
    exact⟨_,he,fun K'=>by simp only[vop,hx,hf,hat]⟩
   ·cases he
  ·rename_i hx hf;split at he
   ·rename_i hat
    exact⟨_,he,fun K'=>by simp only[vop,hx,hf,hat]⟩
   ·cases he
  ·rename_i hx hf;obtain⟨h1,he⟩:=aa he;exact⟨_,he,fun K'=>by simp only[vop,hx,hf,if_pos h1]⟩
  ·cases he
 ·split at he
  ·rename_i hx hf;obtain⟨h1,he⟩:=aa he;obtain⟨y,h2,h3⟩:=(gV he).one;exact⟨y,h2,fun K'=>by simp only[vop,hx,hf,if_pos h1];exact h3 K'⟩
  ·cases he
 ·obtain⟨x,hx,he⟩:=ae he;obtain⟨i,hi,he⟩:=ae he;obtain⟨y,h1,h2⟩:=(xK he).one;exact⟨y,h1,fun K'=>by simp only[vop,hx,hi,au];exact h2 K'⟩
 ·obtain⟨x,hx,he⟩:=ae he;obtain⟨i,hi,he⟩:=ae he;obtain⟨y,h1,h2⟩:=(Eh he).one;exact⟨y,h1,fun K'=>by simp only[vop,hx,hi,au];exact h2 K'⟩
 ·obtain⟨x,hx,he⟩:=ae he;obtain⟨lo,hlo,he⟩:=ae he;obtain⟨hi,hhi,he⟩:=ae he;obtain⟨mx,hmx,he⟩:=ae he;obtain⟨y,h1,h2⟩:=(Fh he).one;exact⟨y,h1,fun K'=>by simp only[vop,hx,hlo,hhi,hmx,au];exact h2 K'⟩
 ·obtain⟨x,hx,he⟩:=ae he;obtain⟨i,hi,he⟩:=ae he;obtain⟨y,h1,h2⟩:=(IL he).one;exact⟨y,h1,fun K'=>by simp only[vop,hx,hi,au];exact h2 K'⟩
 ·obtain⟨x,hx,he⟩:=ae he;obtain⟨y,h1,h2⟩:=(MH he).one;exact⟨y,h1,fun K'=>by simp only[vop,hx,au];exact h2 K'⟩
 ·split at he
  ·rename_i hx hti;split at he
   ·rename_i hk;obtain⟨h1,he⟩:=aa he;exact⟨_,he,fun K'=>by simp only[vop,hx,hti,hk,if_pos h1]⟩
   ·cases he
  ·cases he
 ·rename_i t x;split at he
  ·rename_i ti hti;split at he
   ·cases he
   ·rename_i hni;split at he
    ·rename_i hs;exact⟨_,he,fun K'=>by simp only[vop,hti,if_neg hni,hs]⟩
    ·rename_i u hn hs;refine⟨_,he,fun K'=>?_⟩;simp only[vop,hti,if_neg hni,hs]
    ·cases he
  ·cases he
 ·obtain⟨h0,he⟩:=aa he;split at he
  ·rename_i h1;obtain⟨vs,h2,he⟩:=ae he;obtain⟨cs,h3,he⟩:=ae he;exact⟨_,he,fun K'=>by simp only[vop,if_pos h0,if_pos h1,h2,h3,au]⟩
  ·rename_i hn;obtain⟨h1,he⟩:=aa he;obtain⟨vs,h2,he⟩:=ae he;obtain⟨cs,h3,he⟩:=ae he;exact⟨_,he,fun K'=>by simp only[vop,if_pos h0,if_neg hn,if_pos h1,h2,h3,au]⟩
 ·obtain⟨v,hv,he⟩:=ae he;obtain⟨hn,he⟩:=aa he;exact⟨_,he,fun K'=>by simp only[vop,hv,au,if_pos hn]⟩
 ·split at he
  ·split at he
   ·rename_i hs;obtain⟨y,h1,h2⟩:=(gV he).one;exact⟨y,h1,fun K'=>by simp only[vop,hs];exact h2 K'⟩
   ·cases he
  ·cases he
 ·split at he
  ·rename_i ha ht;obtain⟨x,hx,he⟩:=ae he;obtain⟨n,h1,h2⟩:=Jj he;exact⟨_,h1,fun K'=>by simp only[vop,ha,ht,hx,au];exact h2 _⟩
  ·cases he
 ·split at he
  ·rename_i ha;obtain⟨n,hn,he⟩:=ae he;exact⟨_,he,fun K'=>by simp only[vop,ha,hn,au]⟩
  ·cases he
 ·split at he
  ·rename_i ha;obtain⟨n,hn,he⟩:=ae he;exact⟨_,he,fun K'=>by simp only[vop,ha,hn,au]⟩
  ·cases he
 ·cases he
end
end Rv
namespace Rv
open Go
section
variable{R:Type}{r:R}{st st':St}{te:TypeId->Option TI}{h h':Heap}
theorem q9{k v dv:Nat}(hd:h.depOk (some (k,v,dv))=true):∃e,h k=some e:=by
 simp only[Heap.depOk] at hd;split at hd;·exact⟨_,by assumption⟩
 ·cases hd
theorem xu{k v:Nat}{b:Box}(ha:h.at k v=some b):∃e,h k=some e:=by
 obtain⟨e,he,_⟩:=aK ha;exact⟨e,he⟩
theorem Qi{bm:List Nat}{cd:CD}{c:Cell}{y:cd.T}{m:Met}(ha:cd.abs h bm c=some (y,m)):∀k,k∈m.deps->k∈c.keys/\∃e,h k=some e:=by
 intro k hk;cases cd with
 |sl t=>
  cases c with
  |nilS=>simp only[CD.abs,Uw,UC] at ha;rw[<- ha.2] at hk;simp at hk
  |sl d t' xs=>
   simp only[CD.abs] at ha;obtain⟨hd,ha⟩:=aa ha;split at ha
   ·simp only[Uw,UC] at ha;rw[<- ha.2] at hk;cases d with
    |none=>simp at hk
    |some x=>
     obtain⟨a,b,c⟩:=x;have hk:k=a:=by simpa using hk
     subst hk;exact⟨by simp[Cell.keys],q9 hd⟩
   ·cases ha
  |slc d t' xs=>
   simp only[CD.abs] at ha;obtain⟨hd,ha⟩:=aa ha;split at ha
   ·simp only[Uw,UC] at ha;rw[<- ha.2] at hk;cases d with
    |none=>simp at hk
    |some x=>
     obtain⟨a,b,c⟩:=x;have hk:k=a:=by simpa using hk
     subst hk;exact⟨by simp[Cell.keys],q9 hd⟩
   ·cases ha
  |own k' v=>
   simp only[CD.abs] at ha;split at ha
   ·rename_i hat
    split at ha
    ·simp only[Uw,UC] at ha;rw[<- ha.2] at hk;have hk:k=k':=by simpa using hk
     subst hk;exact⟨by simp[Cell.keys],xu hat⟩
    ·cases ha
   ·cases ha
  |ownP k' v n=>
   simp only[CD.abs] at ha;split at ha
   ·rename_i hat
    split at ha
    ·simp only[Uw,UC] at ha;rw[<- ha.2] at hk;have hk:k=k':=by simpa using hk
     subst hk;exact⟨by simp[Cell.keys],xu hat⟩
    ·cases ha
   ·cases ha
  |_=>cases ha
 |row e t=>
  cases c with
  |nilS=>simp only[CD.abs,Uw,UC] at ha;rw[<- ha.2] at hk;simp at hk
  |own k' v=>
   simp only[CD.abs] at ha;split at ha
   ·obtain⟨_,ha⟩:=aa ha;split at ha
    ·simp only[Uw,UC] at ha;rw[<- ha.2] at hk;simp at hk
    ·cases ha
   ·cases ha
  |ownP k' v n=>
   simp only[CD.abs] at ha;split at ha
   ·obtain⟨_,ha⟩:=aa ha;split at ha
    ·simp only[Uw,UC] at ha;rw[<- ha.2] at hk;simp at hk
    ·cases ha
   ·cases ha
  |_=>cases ha
 |ptr i off=>
  cases c with
  |ptr k' v o=>
   simp only[CD.abs] at ha;obtain⟨_,ha⟩:=aa ha;obtain⟨_,ha⟩:=aa ha;split at ha;·have:=(Prod.mk.inj (Ux ha)).2;rw[<- this] at hk;simp at hk
   ·cases ha
  |_=>cases ha
 |slc t=>
  cases c with
  |slc d t' xs=>
   simp only[CD.abs] at ha;obtain⟨hd,ha⟩:=aa ha;split at ha
   ·simp only[Uw,UC] at ha;rw[<- ha.2] at hk;cases d with
    |none=>simp at hk
    |some x=>
     obtain⟨a,b,c⟩:=x;have hk:k=a:=by simpa using hk
     subst hk;exact⟨by simp[Cell.keys],q9 hd⟩
   ·cases ha
  |_=>cases ha
 |clr i fs=>
  cases c with
  |clr k' v gs=>
   simp only[CD.abs] at ha;obtain⟨_,ha⟩:=aa ha;obtain⟨_,ha⟩:=aa ha;split at ha;·have:=(Prod.mk.inj (Ux ha)).2;rw[<- this] at hk;simp at hk
   ·cases ha
  |_=>cases ha
 |pp t=>
  cases c with
  |slp d t' xs i off=>cases d with
   |none=>
    simp only[CD.abs] at ha;obtain⟨_,ha⟩:=aa ha;split at ha
    ·split at ha
     ·have:=(Prod.mk.inj (Ux ha)).2;rw[<- this] at hk;simp at hk
     ·cases ha
    ·cases ha
   |some x=>cases ha
  |ptr k' v off=>
   simp only[CD.abs] at ha;split at ha
   ·rename_i hat
    obtain⟨_,ha⟩:=aa ha;split at ha
    ·simp only[Uw,UC] at ha;rw[<- ha.2] at hk;have hk:k=k':=by simpa using hk
     subst hk;exact⟨by simp[Cell.keys],xu hat⟩
    ·cases ha
   ·cases ha
  |_=>cases ha
 |any=>
  have:some ((),(⟨[],[]⟩:Met))=some (y,m):=by cases c<;>exact ha
  have:=(Prod.mk.inj (Ux this)).2;rw[<- this] at hk;simp at hk
 |_=>
  exfalso;cases c<;>first
   |(cases ha;done)
   |(
    simp only[CD.abs] at ha;obtain⟨_,ha⟩:=aa ha;have:=(Prod.mk.inj (Ux ha)).2;rw[<- this] at hk;simp at hk;done)
   |(
    have:=(Prod.mk.inj (Ux ha)).2;rw[<- this] at hk;simp at hk;done)
theorem Bh{bm:List Nat}:∀{l:List CD}{cs:List Cell}{x:TL l}{m:Met},fK h bm l cs=some (x,m)->∀k,k∈m.deps->(∃c,c∈cs/\k∈c.keys)/\∃e,h k=some e
 |[],[],x,m,ha,k,hk=>by
  have:=(Prod.mk.inj (Ux ha)).2;rw[<- this] at hk;simp at hk
 |[],_::_,_,_,ha,_,_=>by cases ha
 |_::_,[],_,_,ha,_,_=>by cases ha
 |cd::l,c::cs,x,m,ha,k,hk=>by
  simp only[fK] at ha;split at ha
  ·rename_i y m1 h1;split at ha
   ·rename_i ys m2 h2;simp only[Uw,UC] at ha;rw[<- ha.2] at hk;simp only[UK] at hk;rcases hk with hk|hk
    ·obtain⟨g1,g2⟩:=Qi h1 k hk;exact⟨⟨c,by simp,g1⟩,g2⟩
    ·obtain⟨⟨c',hc,hk'⟩,g2⟩:=Bh h2 k hk;exact⟨⟨c',by simp[hc],hk'⟩,g2⟩
   ·cases ha
  ·cases ha
theorem JP{sh:Shape}{l:List V}{a:Abs sh.T}(ha:sh.abs ⟨l,h⟩=some a):∀k,k∈a.m.deps->(∃e,h k=some e)/\(a.bm=[]->∃v,v∈l/\k∈v.keys):=by
 intro k hk;unfold Shape.abs at ha;split at ha
 ·rename_i cs hg;split at ha
  ·rename_i all bm hgb;split at ha
   ·rename_i x m hm;obtain⟨_,ha⟩:=aa ha;simp only[Uw] at ha;subst ha;obtain⟨⟨c,hc,hkc⟩,he⟩:=Bh hm k hk;refine⟨he,fun hb=>?_⟩;have hl:=(iP hgb).2;simp only at hb;rw[hb] at hl;have hbx:sh.boxes=[]:=by
     simp only[U2,Nat.zero_add] at hl;exact List.length_eq_zero_iff.1 hl.symm
    rw[hbx] at hgb;simp only[bD,Uw,UC] at hgb;rw[<- hgb.1] at hc;obtain⟨v,hv,hkv⟩:=lQ hg c hc;exact⟨v,hv,hkv k hkc⟩
   ·cases ha
  ·cases ha
 ·cases ha
theorem Cf:∀{l:List Operand}{vs:List V},ja st l=some vs->∀v,v∈vs->∃x,x∈l/\opdV st x=some v
 |[],vs,he,v,hv=>by
  simp only[ja,Uw] at he;subst he;simp at hv
 |x::l,vs,he,v,hv=>by
  simp only[ja] at he;split at he
  ·rename_i u hu;split at he
   ·rename_i l' hl;simp only[Uw] at he;subst he;rcases UG.1 hv with rfl|hv
    ·exact⟨x,by simp,hu⟩
    ·obtain⟨y,hy,hv'⟩:=Cf hl v hv;exact⟨y,by simp[hy],hv'⟩
   ·cases he
  ·cases he
theorem Lf{nm nm':Nm}:∀{l:List CD}{y:TL l}{m:Nat},(∀i c,c∈l->c.boxN=some i->nm' i=nm i)->(∀i,m<=i->i<(mkL nm l y m).2.2->nm' i=nm i)->mkL nm' l y m=mkL nm l y m
 |[],_,_,_,_=>rfl
 |c::l,y,m,hp,hi=>by
  have hm:∀(nm:Nm),m<=(c.mk nm y.1 m).2.2:=fun nm=>by cases c<;>simp[CD.mk]
  have hmm:∀(l:List CD) (y:TL l) (m:Nat),m<=(mkL nm l y m).2.2:=fun l y m=>by rw[(dP nm l y m).1];omega
  have hc:c.mk nm' y.1 m=c.mk nm y.1 m:=by
   cases c with
   |row e t=>
    have:=hi m (Uz _) (by have:=hmm l y.2 (m+1);simp only[mkL,CD.mk];omega);simp only[CD.mk,this]
   |ptr i off=>simp only[CD.mk,hp i (.ptr i off) (by simp) rfl]
   |clr i fs=>simp only[CD.mk,hp i (.clr i fs) (by simp) rfl]
   |_=>rfl
  simp only[mkL,hc];rw[Lf (l:=l) (y:=y.2) (fun i c hm e=>hp i c (by simp[hm]) e) fun i h1 h2=>hi i (by have:=hm nm;omega) h2]
theorem xe{nm nm':Nm}:∀{bl:List (Option Nat×List CD)}{i:Nat}{cs:List Cell},(∀j,i<=j->j<i+bl.length->nm' j=nm j)->aW nm' i bl cs=aW nm i bl cs
 |[],_,_,_=>rfl
 |(p,ds)::bl,i,cs,H=>by
  simp only[aW];rw[H i (Uz _) (by simp),xe fun j h1 h2=>H j (by omega) (by simp;omega)]
theorem oW:∀{ks:List Nat},Agree h h' ks->cu h' ks=cu h ks
 |[],_=>rfl
 |k::ks,H=>by
  unfold cu;simp only[List.filterMap_cons,H k (by simp)];have:=oW (ks:=ks) (H.sub fun k hk=>by simp[hk]);unfold cu at this;rw[this]
theorem BO:∀{ks:List Nat},Agree h h' ks->nN h' ks=nN h ks
 |[],_=>rfl
 |k::ks,H=>by
  unfold nN;simp only[List.filterMap_cons,H k (by simp)];have:=BO (ks:=ks) (H.sub fun k hk=>by simp[hk]);unfold nN at this;rw[this]
theorem BJ:∀{ks:List Nat},Agree h h' ks->iH h' ks=iH h ks
 |[],_=>rfl
 |k::ks,H=>by
  unfold iH;simp only[UO,jA (H k (by simp))];have:=BJ (ks:=ks) (H.sub fun k hk=>by simp[hk]);unfold iH at this;rw[this]
theorem FW{d:Nat}{sp:Spec}{a:Abs sp.a.T}{y:sp.r.T}(hnb:sp.r.boxes.length=a.bm.length):(∀k,k∈a.keys->k∈(iQ st d sp a y).up.map (·.1))/\(∀k,k∈aX d sp.r->k∈(iQ st d sp a y).up.map (·.1)) /\
  (a.keys≠[]->∀k,k∈a.m.deps->(∃e,st.h k=some e)->k∈(iQ st d sp a y).up.map (·.1)):=by
 unfold iQ;simp only[U6,UK];refine⟨fun k hk=>?_,fun k hk=>?_,fun hne k hk he=>?_⟩
 ·rcases UK.1 hk with hk|hk
  ·right;right;right;left;show k∈(aW (nmI st.h d a.bm) 0 sp.r.boxes _).map (·.1);rw[iJ];obtain⟨i,hi⟩:=List.mem_iff_getElem?.1 hk;have hlt:=(UI.1 hi).1;refine UR.2 ⟨i,by simp;omega,?_⟩;simp only[Nat.zero_add,nmI,hi]
  ·right;right;left;exact UR.2 ⟨_,UR.2 ⟨k,hk,rfl⟩,rfl⟩
 ·right;right;right;right;show k∈(mkL (nmI st.h d a.bm) sp.r.all y sp.r.boxes.length).2.1.map (·.1);rw[(dP _ _ _ _).2.1];obtain⟨j,hj,rfl⟩:=UR.1 hk;refine UR.2 ⟨j,hj,?_⟩;simp only[nmI,List.getElem?_eq_none (show a.bm.length<=sp.r.boxes.length+j by omega),nmP]
 ·left;rw[if_neg (by simpa using hne)];obtain⟨e,he⟩:=he;exact UR.2 ⟨(k,e),List.mem_filterMap.2 ⟨k,hk,by rw[he];rfl⟩,rfl⟩
theorem I9{d:Nat}{sp:Spec}{a:Abs sp.a.T}{y:sp.r.T}(hpl:sp.r.okRes a.bm.length=true)(hd:Agree st.h st'.h a.m.deps)(hk:Agree st.h st'.h a.keys)(hn:Agree st.h st'.h (aX d sp.r)):iQ st' d sp a y=iQ st d sp a y:=by
 unfold Shape.okRes at hpl;simp only[UB,UE] at hpl;obtain⟨⟨⟨⟨hnb,hpin⟩,hidx⟩,hptr⟩,hisv⟩:=hpl;have nB:∀i,i<a.bm.length->nmI st'.h d a.bm i=nmI st.h d a.bm i:=fun i hi=>by
  simp only[nmI,UF hi];rw[hk a.bm[i] (List.mem_append_left _ (Vg hi))]
 have nR:∀i,a.bm.length<=i->i<a.bm.length+(sp.r.all.filter CD.isRow).length->nmI st'.h d a.bm i=nmI st.h d a.bm i:=fun i h1 h2=>by
  simp only[nmI,List.getElem?_eq_none h1,nmP];rw[jA (hn (16*d+i) (UR.2 ⟨i-sp.r.boxes.length,by simp;omega,by omega⟩))]
 have hml:mkL (nmI st'.h d a.bm) sp.r.all y sp.r.boxes.length=mkL (nmI st.h d a.bm) sp.r.all y sp.r.boxes.length:=by
  refine Lf (fun i c hm hcb=>nB i ?_) fun i h1 h2=>nR i (by omega) ?_
  ·have:=CD.ptrB_lt hcb (UT.1 hptr _ hm);simpa using this
  ·rw[(dP _ _ _ _).1] at h2;omega
 have hma:sp.r.mkAll (nmI st'.h d a.bm) sp.r.slots.length y=sp.r.mkAll (nmI st.h d a.bm) sp.r.slots.length y:=by
  have hpb:∀cs,aW (nmI st'.h d a.bm) 0 sp.r.boxes cs=aW (nmI st.h d a.bm) 0 sp.r.boxes cs:=fun cs=>xe fun j _ hj=>nB j (by omega)
  unfold Shape.mkAll;rw[hml];simp only[hpb]
 unfold iQ;rw[hma,oW hd,BO hd,BJ (hk.sub fun k hk=>List.mem_append_right _ hk)]
theorem zx{c:Cell}(H:Agree h h' c.keys):gW h' c=gW h c:=by
 cases c with
 |own k v=>simp only[gW,at_eq (H k (by simp[Cell.keys]))]
 |ownP k v n=>simp only[gW,at_eq (H k (by simp[Cell.keys]))]
 |_=>rfl
theorem Lv{c:Cell}:∀k,k∈c.ownK->k∈c.keys:=by
 intro k hk;cases c<;>first|(simp[Cell.ownK] at hk;done)|(simpa[Cell.ownK,Cell.keys] using hk)
theorem zo{x:V1}:∀k,k∈x.ownKs->k∈x.keys:=by
 intro k hk;obtain⟨c,hc,hk⟩:=List.mem_flatMap.1 hk;exact List.mem_flatMap.2 ⟨c,hc,Lv k hk⟩
theorem EK{x:V1}(H:Agree h h' x.keys):x.pub h'=x.pub h:=by
 cases x with
 |c c=>simp only[V1.pub,zx (H.sub fun k hk=>by simpa[V1.keys,V1.cells] using hk)]
 |agg cs=>
  simp only[V1.pub];congr 1;exact List.map_congr_left fun c hc=>zx (H.sub fun k hk=>List.mem_flatMap.2 ⟨c,hc,hk⟩)
theorem LG{x v:V1}(H:Agree h h' v.keys):qA h' x v=qA h x v/\cu h' (l6 x v)=cu h (l6 x v):=by
 unfold qA l6;split;·exact⟨EK H,oW (H.sub zo)⟩
 ·exact⟨rfl,rfl⟩
theorem Gj{ps:List (Nat×V1)}(H:Agree h h' (ps.flatMap fun p=>p.2.keys)):(ps.map fun p=>(p.1,p.2.pub h'))=(ps.map fun p=>(p.1,p.2.pub h))/\cu h' (ps.flatMap fun p=>p.2.ownKs)=cu h (ps.flatMap fun p=>p.2.ownKs):=by
 refine⟨List.map_congr_left fun p hp=>?_,oW (H.sub fun k hk=>?_)⟩;·rw[EK (H.sub fun k hk=>List.mem_flatMap.2 ⟨p,hp,hk⟩)]
 ·obtain⟨p,hp,hk⟩:=List.mem_flatMap.1 hk;exact List.mem_flatMap.2 ⟨p,hp,zo k hk⟩
theorem zt:∀{l:List (Nat×Operand)}{ps:List (Nat×V1)}{ops:List Operand},partsOf st l=some ps->(∀x,x∈l.map (·.2)->x∈ops)->∀k,k∈ps.flatMap (fun p=>p.2.keys)->k∈dn st ops
 |[],ps,ops,he,_,k,hk=>by
  simp only[partsOf,Uw] at he;subst he;simp at hk
 |(i,x)::l,ps,ops,he,ho,k,hk=>by
  simp only[partsOf] at he;split at he
  ·rename_i v hv;split at he
   ·rename_i l' hl;simp only[Uw] at he;subst he;rw[U7] at hk;rcases UK.1 hk with hk|hk
    ·exact List.mem_flatMap.2 ⟨x,ho x (by simp),by rw[Hq hv];exact hk⟩
    ·exact zt hl (fun y hy=>ho y (by simp only[UO,UG];exact .inr hy)) k hk
   ·cases he
  ·cases he
theorem vF{k:Nat}:∀{l:List (Nat×En)}{h h':Heap},h' k=h k->iK h' l k=iK h l k
 |[],_,_,e=>e
 |p::l,h,h',e=>by
  show iK (h'.set p.1 p.2) l k=iK (h.set p.1 p.2) l k;refine vF ?_;by_cases hp:k=p.1;·subst hp;rw[bO,bO]
  ·rw[bn _ _ hp,bn _ _ hp];exact e
theorem uj{E:Env R}{d:Option Nat}{f:FuncId}{cs:List Cell}{vs:List V}{ops:List Operand}(hv:∀v,v∈vs->∀k,k∈v.keys->∃x,x∈ops/\∃v',opdV st x=some v'/\k∈v'.keys)
  (hcs:∀c,c∈cs->∀k,k∈c.keys->∃x,x∈ops/\∃v,opdV st x=some v/\k∈v.keys) {K:Dl->Option R} (he:kH E st d f cs vs K=some r) :
  ∃x,K x=some r/\∀(st':St) (K':Dl->Option R),bY st st' ops->Agree st.h st'.h (x.up.map (·.1))->kH E st' d f cs vs K'=K' x:=by
 unfold kH at he;split at he
 ·rename_i sp hsp;split at he
  ·rename_i ab hab;obtain⟨hok,he⟩:=aa he;cases hy:sp.f ab.x with
   |none=>rw[hy] at he;cases he
   |some y=>
    rw[hy] at he;refine⟨_,he,fun st' K' A U=>?_⟩;have hok':=hok;unfold qf at hok;simp only[UB,UE] at hok;obtain⟨⟨⟨⟨hlen,hpl⟩,hb0⟩,hnk⟩,hnb0⟩:=hok;have hbl:ab.bm.length=sp.a.boxes.length:=by
     unfold Shape.abs at hab;split at hab
     ·split at hab
      ·rename_i hgb;split at hab
       ·obtain⟨_,hab⟩:=aa hab;simp only[Uw] at hab;subst hab;simpa using(iP hgb).2
       ·cases hab
      ·cases hab
     ·cases hab
    rw[<- hbl] at hpl;have hnb:sp.r.boxes.length=ab.bm.length:=by
     unfold Shape.okRes at hpl;simp only[UB,UE] at hpl;exact hpl.1.1.1.1
    obtain⟨u1,u2,u3⟩:=FW (st:=st) (d:=d.getD 0) (y:=y) hnb;have Hkeys:Agree st.h st'.h ab.keys:=U.sub u1;have Hdeps:Agree st.h st'.h ab.m.deps:=fun k hk=>by
     obtain⟨he',hv'⟩:=JP hab k hk;by_cases hne:ab.keys=[]
     ·have hbm:ab.bm=[]:=by
       unfold Abs.keys at hne;exact(List.append_eq_nil_iff.1 hne).1
      obtain⟨v,hvm,hkv⟩:=hv' hbm;rcases UK.1 hvm with hvm|hvm;·obtain⟨x',hx',v',hv',hk'⟩:=hv v hvm k hkv;exact A.keysV hx' hv' k hk'
      ·obtain⟨x,hx,rfl⟩:=UR.1 hvm;obtain⟨x',hx',v',hv',hk'⟩:=hcs x hx k (by simpa[V.keys,V1.keys,V1.cells] using hkv);exact A.keysV hx' hv' k hk'
     ·exact U k (u3 hne k hk he')
    have Hall:Agree st.h st'.h (ab.keys++ab.m.deps):=fun k hk=>(UK.1 hk).elim (Hkeys k) (Hdeps k)
    have hok2:qf st'.h (d.getD 0) sp ab (vs.length+cs.length)=true:=by
     rw[<- hok'];unfold qf;have hnb:ab.m.deps.all (oP st'.h)=ab.m.deps.all (oP st.h):=by
      have:∀(l:List Nat),(∀k,k∈l->k∈ab.m.deps)->l.all (oP st'.h)=l.all (oP st.h):=by
       intro l
       induction l with
       |nil=>intro _;rfl
       |cons k l ih=>
        intro hl;simp only[Vi];rw[ih fun k hk=>hl k (by simp[hk])];unfold oP;rw[Hdeps k (hl k (by simp))]
      exact this _ fun k hk=>hk
     rw[hnb];congr 3;have:∀(l:List Nat),(∀k,k∈l->k∈ab.bm)->l.all (qo st'.h)=l.all (qo st.h):=by
      intro l
      induction l with
      |nil=>intro _;rfl
      |cons k l ih=>
       intro hl;simp only[Vi];rw[ih fun k hk=>hl k (by simp[hk])];unfold qo;rw[Hkeys k (List.mem_append_left _ (hl k (by simp)))]
     rw[this ab.bm fun k hk=>hk]
    unfold kH;simp only[hsp];rw[Fe hab Hall];simp only[if_pos hok2,hy,Uv];rw[I9 hpl Hdeps Hkeys (U.sub u2)]
  ·cases he
 ·cases he
theorem uf{vs:List V}{args ops:List Operand}(hv:ja st args=some vs)(ms:∀x,x∈args->x∈ops):∀v,v∈vs->∀k,k∈v.keys->∃x,x∈ops/\∃v',opdV st x=some v'/\k∈v'.keys:=fun v hvm k hk=>by
 obtain⟨x,hx,hxv⟩:=Cf hv v hvm;exact⟨x,ms x hx,v,hxv,hk⟩
theorem Np(c:Cap):c.cell.keys=[]:=by
 cases c with
 |cf g=>rfl
 |c0 c=>cases c<;>rfl
theorem BH{E:Env R}{d:Option Nat}{vs:List V}{args ops:List Operand}(hv:ja st args=some vs)(ms:∀x,x∈args->x∈ops){x:Fn}{K:Dl->Option R}:∀{l:List Fn},
  l.foldr (fun key next=>if x=key then kH E st d key.1 (key.2.map Cap.cell) vs K else next) none=some r ->
  ∃y,K y=some r/\∀(st':St) (K':Dl->Option R),bY st st' ops->Agree st.h st'.h (y.up.map (·.1))->l.foldr (fun key next=>if x=key then kH E st' d key.1 (key.2.map Cap.cell) vs K' else next) none=K' y
 |[],he=>by cases he
 |key::l,he=>by
  simp only[List.foldr_cons] at he⊢;by_cases e:x=key
  ·rw[if_pos e] at he;obtain⟨y,hk,hok⟩:=uj (ops:=ops) (uf hv ms) (fun c hc k hk=>by
    obtain⟨c',_,rfl⟩:=UR.1 hc;rw[Np] at hk;simp at hk) he
   exact⟨y,hk,fun st' K' A U=>by rw[if_pos e];exact hok st' K' A U⟩
  ·rw[if_neg e] at he;obtain⟨y,hk,hok⟩:=BH hv ms he;exact⟨y,hk,fun st' K' A U=>by rw[if_neg e];exact hok st' K' A U⟩
theorem Bz{E:Env R}{o:Oper}{K:Dl->Option R}(he:bz E st o K=some r) :
  ∃x,K x=some r/\∀(st':St) (K':Dl->Option R),bY st st' o.op.operands.toList->Agree st.h st'.h (x.up.map (·.1))->bz E st' o K'=K' x:=by
 unfold bz at he;split at he
 ·rename_i t ho;split at he
  ·rename_i ti hti;refine⟨_,he,fun st' K' A U=>?_⟩;unfold bz;simp only[ho,hti,qx];rw[jA (U (dk o.dst) (by simp[qx]))]
  ·cases he
 ·rename_i t x ho;obtain⟨v,hv,he⟩:=ae he;refine⟨_,he,fun st' K' A U=>?_⟩;unfold bz;simp only[ho];rw[A.opd (by simp[ho,Op.operands]),hv];simp only[au];rw[jA (U (dk o.dst) (by simp))]
 ·rename_i t n parts ho;split at he
  ·cases he
  ·rename_i e hel;split at he
   ·rename_i ti hti hp;split at he
    ·rename_i k v fs hc;split at he
     ·rename_i cs hat
      obtain⟨hq,he⟩:=aa he;refine⟨_,he,fun st' K' A U=>?_⟩;unfold bz;simp only[ho,hel,hti];have hsub:bY st st' (parts.toList.map (·.2)):=A.sub fun x hx=>by simpa[ho,Op.operands] using hx
      obtain⟨p,hp1,f,hp2⟩:=IW hc;have hag:=hsub.keysV (x:=p.2) (UR.2 ⟨p,hp1,rfl⟩) hp2;rw[mU hsub,hp];simp only[];rw[Bn hsub,hc];simp only[at_eq (hag k (by simp[V.keys,Cell.keys])),hat];rw[if_pos hq]
     ·cases he
    ·cases he
   ·rename_i ti ps hti hp;split at he
    ·rename_i t' ht;split at he
     ·rename_i z hz;obtain⟨hn,he⟩:=aa he;obtain⟨xs,hx,he⟩:=ae he;refine⟨_,he,fun st' K' A U=>?_⟩;unfold bz;simp only[ho,hel,hti];have hpp:=mU (st:=st) (st':=st') (l:=parts.toList) (A.sub fun x hx=>by simpa[ho,Op.operands] using hx);rw[hpp,hp];have hag:Agree st.h st'.h (ps.flatMap fun p=>p.2.keys):=A.heap.sub fun k hk=>zt hp (fun x hx=>by simpa[ho,Op.operands] using hx) k hk
      obtain⟨e1,e2⟩:=Gj hag;simp only[ht,hz,if_pos hn,e1,e2,hx,au];rw[jA (U (dk o.dst) (by simp))]
     ·cases he
    ·cases he
   ·cases he
 ·rename_i t x v ho;split at he
  ·rename_i hd;obtain⟨xv,hx,he⟩:=ae he;obtain⟨vv,hv,he⟩:=ae he;obtain⟨up,hk,hok⟩:=Fu he;refine⟨_,hk,fun st' K' A U=>?_⟩;unfold bz;simp only[ho,hd];rw[A.opd (x:=x) (by simp[ho,Op.operands]),A.opd (x:=v) (by simp[ho,Op.operands]),hx,hv];simp only[au];have hax:=A.keys (x:=x) (by simp[ho,Op.operands]) hx;have hav:=A.keys (x:=v) (by simp[ho,Op.operands]) hv;obtain⟨e1,e2⟩:=LG (x:=xv) hav;rw[e1,e2,Mt (st:=dm st (l6 xv vv)) (st':=dm st' (l6 xv vv)) fun k hk=>by
    show iK st'.h (cu st'.h (l6 xv vv)) k=iK st.h (cu st.h (l6 xv vv)) k;rw[e2];exact vF (hax k hk)]
   exact hok _
  ·cases he
 ·rename_i args argTypes ho;split at he
  ·rename_i s x sT xT ha hat
   obtain⟨hst,he1⟩:=aa he;subst hst;obtain⟨sv,hs,he⟩:=ae he1;obtain⟨xv,hx,he⟩:=ae he;obtain⟨y,hk,hok,hdk⟩:=CQ he;have ms:s∈o.op.operands.toList:=by simp[ho,Op.operands,Call.operands,<- Array.mem_toList_iff,ha]
   have mx:x∈o.op.operands.toList:=by simp[ho,Op.operands,Call.operands,<- Array.mem_toList_iff,ha]
   refine⟨_,hk,fun st' K' A U=>?_⟩;unfold bz;simp only[ho,ha,hat,if_true];rw[A.opd ms,A.opd mx,hs,hx];simp only[au];rw[IB (A.keys ms hs) (A.keys mx hx) (U _ hdk)];exact hok _
  ·cases he
 ·rename_i c args argTypes ho;have mc:∀t,c=.tmp t->Operand.tmp t∈o.op.operands.toList:=fun t e=>by simp[ho,Op.operands,Call.operands,e]
  have ms:∀x,x∈args.toList->x∈o.op.operands.toList:=fun x hx=>by simp only[ho,Op.operands,Call.operands];simp at hx⊢;exact .inr hx
  split at he
  ·rename_i vs hv;split at he
   ·rename_i p hc;obtain⟨y,hk,hok⟩:=uj (ops:=o.op.operands.toList) (fun v hvm k hk=>by
     rcases UK.1 hvm with hvm|hvm
     ·obtain⟨c',hc',rfl⟩:=UR.1 hvm;unfold kU at hc;split at hc
      ·rename_i t;split at hc
       ·rename_i f' cs' hs;split at hc
        ·cases hc
        ·simp only[Uw] at hc;rw[<- hc] at hc';refine⟨.tmp t,mc t rfl,.clo f' cs',by simp only[opdV,hs],?_⟩;exact List.mem_flatMap.2 ⟨c',hc',by simpa[V.keys,V1.keys,V1.cells] using hk⟩
       ·cases hc
      ·cases hc
     ·exact uf hv ms v hvm k hk) (fun c hc k hk=>by cases hc) he
    refine⟨_,hk,fun st' K' A U=>?_⟩;unfold bz;simp only[ho];rw[rX (A.sub ms),hv];simp only[];rw[qV fun t e=>A.slot t (mc t e),hc];exact hok st' K' A U
   ·rename_i hbn;split at he
    ·rename_i p hc;obtain⟨y,hk,hok⟩:=uj (ops:=o.op.operands.toList) (uf hv ms) (fun c' hc' k hk=>by
      unfold jW at hc;split at hc;·simp only[Uw] at hc;rw[<- hc] at hc';simp at hc'
      ·rename_i t;split at hc
       ·rename_i f' cs' hs;obtain⟨_,hc⟩:=aa hc;simp only[Uw] at hc;refine⟨.tmp t,mc t rfl,.clo f' cs',by simp only[opdV,hs],?_⟩;rw[<- hc] at hc';exact List.mem_flatMap.2 ⟨c',hc',hk⟩
       ·split at hc
        ·simp only[Uw] at hc;rw[<- hc] at hc';simp at hc'
        ·cases hc
       ·cases hc
      ·cases hc) he
     refine⟨_,hk,fun st' K' A U=>?_⟩;unfold bz;simp only[ho];rw[rX (A.sub ms),hv];simp only[];rw[qV fun t e=>A.slot t (mc t e),hbn];simp only[];rw[wN fun t e=>A.slot t (mc t e),hc];exact hok st' K' A U
    ·rename_i hcn;split at he
     ·rename_i x hc;obtain⟨y,hk,hok⟩:=BH (ops:=o.op.operands.toList) hv ms he;refine⟨_,hk,fun st' K' A U=>?_⟩;unfold bz;simp only[ho];rw[rX (A.sub ms),hv];simp only[];rw[qV fun t e=>A.slot t (mc t e),hbn];simp only[];rw[wN fun t e=>A.slot t (mc t e),hcn];simp only[];rw[Qx fun t e=>A.slot t (mc t e),hc];exact hok st' K' A U
     ·cases he
  ·cases he
 ·rename_i t g ho;split at he
  ·rename_i F hF;refine⟨_,he,fun st' K' A U=>?_⟩;unfold bz;simp only[ho,hF]
  ·cases he
 ·rename_i t x k ok ho;split at he
  ·rename_i g kc hx hk;split at he
   ·rename_i F hF;obtain⟨p,hp,he⟩:=ae he;refine⟨_,he,fun st' K' A U=>?_⟩;unfold bz;simp only[ho];rw[A.opd (x:=x) (by simp[ho,Op.operands]),A.opd (x:=k) (by simp[ho,Op.operands]),hx,hk];simp only[hF,hp,au]
   ·cases he
  ·cases he
 ·rename_i t l c ho;split at he
  ·cases he
  ·rename_i e hel;split at he
   ·rename_i ti kl n kc m hti hl hc;split at he
    ·rename_i t' ht;split at he
     ·rename_i z hz;obtain⟨hn,he⟩:=aa he;refine⟨_,he,fun st' K' A U=>?_⟩;unfold bz;simp only[ho,hel,hti];rw[A.opd (x:=l) (by simp[ho,Op.operands]),A.opd (x:=c) (by simp[ho,Op.operands]),hl,hc];simp only[ht,hz,if_pos hn,qx];rw[jA (U (dk o.dst) (by simp[qx]))]
     ·cases he
    ·cases he
   ·cases he
 ·rename_i src dst x ho;split at he
  ·rename_i hsc;obtain⟨v,hv,he⟩:=ae he;obtain⟨xs,hxs,he⟩:=ae he;refine⟨_,he,fun st' K' A U=>?_⟩;have mx:x∈o.op.operands.toList:=by simp[ho,Op.operands]
   unfold bz;simp only[ho,if_pos hsc];rw[A.opd mx,hv];simp only[au];rw[uO (A.keys mx hv),hxs]
  ·rename_i hsc;split at he
   ·rename_i hbc;split at he
    ·rename_i s hx;refine⟨_,he,fun st' K' A U=>?_⟩;have mx:x∈o.op.operands.toList:=by simp[ho,Op.operands]
     unfold bz;simp only[ho,if_neg hsc,if_pos hbc];rw[A.opd mx,hx]
    ·cases he
   rename_i hbc;obtain⟨y,hk,hok⟩:=CG he;refine⟨_,hk,fun st' K' A U=>?_⟩;have mx:x∈o.op.operands.toList:=by simp[ho,Op.operands]
   unfold bz;simp only[ho,if_neg hsc,if_neg hbc];rw[MJ (by rw[<- ho];exact A)];have:dn st' [x]=dn st [x]:=by simp only[dn,U7,List.flatMap_nil,A.opdV mx]
   rw[this];exact hok _
 ·rename_i op h1 h2 h3 h4 h5 h6 h8 h9 h10 h7;obtain⟨y,hk,hok⟩:=CG he;refine⟨_,hk,fun st' K' A U=>?_⟩;unfold bz;split
  ·rename_i e;exact absurd e (h1 _)
  ·rename_i e;exact absurd e (h2 _ _)
  ·rename_i e;exact absurd e (h3 _ _ _)
  ·rename_i e;exact absurd e (h4 _ _ _)
  ·rename_i e;exact absurd e (h5 _ _)
  ·rename_i e;exact absurd e (h6 _ _ _)
  ·rename_i e;exact absurd e (h8 _ _)
  ·rename_i e;exact absurd e (h9 _ _ _ _)
  ·rename_i e;exact absurd e (h10 _ _ _)
  ·rename_i e;exact absurd e (h7 _ _ _)
  ·rw[MJ A];have hko:dn st' o.op.operands.toList=dn st o.op.operands.toList:=by
    have:∀(l:List Operand),(∀x,x∈l->opdV st' x=opdV st x)->dn st' l=dn st l:=by
     intro l
     induction l with
     |nil=>intro _;rfl
     |cons x l ih=>
      intro hh;unfold dn at ih⊢;simp only[U7];rw[hh x (by simp),ih fun y hy=>hh y (by simp[hy])]
    exact this _ fun x hx=>A.opdV hx
   rw[hko];exact hok _
theorem wQ{E:Env R}{o:Oper}{K:Dl->Option R}(hq:quiet o.op=true):bz E st o K=vop E.te st o.op fun v=>K ⟨v,dn st o.op.operands.toList,[]⟩:=by
 unfold bz;cases hop:o.op<;>first|rfl|(rw[hop] at hq;cases hq)
theorem ML{op:Op}{K:V->Option R}(hq:quiet op=true)(s:List V)(h h':Heap):vop te ⟨s,h⟩ op K=vop te ⟨s,h'⟩ op K:=by
 have ho:∀x,opd ⟨s,h⟩ x=opd ⟨s,h'⟩ x:=fun x=>by cases x<;>rfl
 have hV:∀x,opdV ⟨s,h⟩ x=opdV ⟨s,h'⟩ x:=fun x=>by cases x<;>rfl
 have hs:∀l,iV ⟨s,h⟩ l=iV ⟨s,h'⟩ l:=fun l=>by
  induction l with
  |nil=>rfl
  |cons x l ih=>simp only[iV,ho,ih]
 have hp:∀l,partsOf ⟨s,h⟩ l=partsOf ⟨s,h'⟩ l:=fun l=>by
  induction l with
  |nil=>rfl
  |cons x l ih=>obtain⟨i,x⟩:=x;simp only[partsOf,ho,ih]
 cases op<;>first
  |(cases hq;done)
  |(simp only[vop,ho,hV,hs,hp];done)
  |rfl
  |(unfold vop;simp only[ho,hV,hs,hp];done)
  |skip
 rename_i f first captured
 cases f<;>simp only[vop,hs]
structure Looks (st st':St) (o:Oper):Prop where
 slot:∀t,Operand.tmp t∈o.op.operands.toList->st'.s[t]?=st.s[t]?
 heap:Agree st.h st'.h (rO st o)
theorem I1{E:Env R}{o:Oper}{K:Dl->Option R}(he:bz E st o K=some r) :
  ∃x,K x=some r/\∀(st':St) (K':Dl->Option R),Looks st st' o->Agree st.h st'.h (x.up.map (·.1))->bz E st' o K'=K' x:=by
 by_cases hq:quiet o.op=true
 ·obtain⟨x,hx,hok⟩:=Bz he;refine⟨x,hx,fun st' K' L U=>?_⟩;have h1:bz E st' o K'=bz E ⟨st'.s,st.h⟩ o K':=by
   rw[wQ hq,wQ hq];have e:dn (⟨st'.s,st.h⟩:St) o.op.operands.toList=dn st' o.op.operands.toList:=rfl;rw[e];exact ML (K:=fun v=>K' ⟨v,dn st' o.op.operands.toList,[]⟩) hq st'.s st'.h st.h
  rw[h1];exact hok ⟨st'.s,st.h⟩ K' ⟨L.slot,fun k _=>rfl⟩ fun k _=>rfl
 ·obtain⟨x,hx,hok⟩:=Bz he;refine⟨x,hx,fun st' K' L U=>hok st' K' ⟨L.slot,?_⟩ U⟩;have:=L.heap;unfold rO at this
  rwa [if_neg hq] at this
end
end Rv
namespace Rv
open Go
section
variable{P:Program}{C:Ctx}{γ:Gam}{w:World}{R:Type}{r:R}
theorem Rel.world{st:St}{tmps:Array Value}(R':Rel C γ w st tmps){w':World}(h1:w'.heap=w.heap)(h2:w'.os=w.os)(h3:w'.tape=w.tape)(h4:w'.output=w.output):Rel C γ w' st tmps:=by
 have T:cK C γ st.h w C γ st.h w':=⟨by rw[h1];exact Uz _,fun k e hk=>⟨e,hk,.inr ⟨rfl,rfl,Alike.refl e⟩⟩,fun g _ _=>by rw[h1],fun k e c g hk hl hg _=>⟨k,e,c,hk,hl,hg,.inl rfl⟩,fun _ _ h=>h,fun _ h=>h⟩
 refine R'.step T (R'.inv.step ⟨by rw[h1];exact Uz _,fun g _ _=>by rw[h1],h2,h3,h4⟩ T (fun k e hk=>dJ.step T (R'.inv.box k e hk) rfl fun _ g c _=>by rw[h1]) R'.inv.inj R'.inv.own)
def RN(ops:Array Oper)(o:Oper)(st:St):Prop:=
 o.guard=none\/∃j want s,o.guard=some (j,want)/\(ops[j]?).bind (·.dst)=some s/\st.s[s]?=some (.v (.c (.bool want)))
def Rest(ops:Array Oper)(o:Oper)(st:St):Prop:=
 ∃j want s,o.guard=some (j,want)/\(ops[j]?).bind (·.dst)=some s/\(st.s[s]?=some (.v (.c (.bool !want)))\/st.s[s]?=some (.tup []))
def Did.app(d:Did)(st:St):St:=st.app d.dst d.x
def zP(E:Env R)(ops:Array Oper)(o:Oper)(st:St)(d:Did):Prop:=
 d.dst=o.dst/\d.looks=Oper.looks ops o/\(∀k,k∈d.ups->k∈d.rd) /\
 ((RN ops o st/\(∀k,k∈rO st o->k∈d.rd)/\∀(st':St) (K':Dl->Option R),Looks st st' o->Agree st.h st'.h d.ups->bz E st' o K'=K' d.x)\/(Rest ops o st/\d.x=⟨.tup [],[],[]⟩))
theorem guard_looks{ops:Array Oper}{o:Oper}{j s:Nat}{want:Bool}(hg:o.guard=some (j,want))(hd:(ops[j]?).bind (·.dst)=some s):s∈Oper.looks ops o:=by
 unfold Oper.looks Oper.guardSlot;simp[hg,hd]
theorem ME{ops:Array Oper}{o:Oper}{t:Nat}(ht:Operand.tmp t∈o.op.operands.toList):t∈Oper.looks ops o:=by
 unfold Oper.looks;exact UK.2 (.inl (List.mem_filterMap.2 ⟨_,ht,rfl⟩))
structure Same (X Y:List Nat) (st st':St):Prop where
 len:st'.s.length=st.s.length
 slot:∀t,t∈X->st'.s[t]?=st.s[t]?
 heap:∀k,k∈Y->st'.h k=st.h k
open Classical in
theorem PY{E:Env R}(hE:lM P C.L C.nl E)(r:R){ops:Array Oper}{Q:Exit->Act->World->Prop}{i:Nat}{o:Oper}(ho:ops[i]?=some o){st0 st:St}{d:Did}(hA:zP E ops o st0 d)(hS:Same d.looks d.rd st0 st){a:Act}(R':Rel C γ w st a.tmps)(G:Good E a)
  {next:Act->World->Prop} (hn:∀γ' w' a',Rel C γ' w' (d.app st) a'.tmps->Good E a'->next a' w'):wpOp P ops Q i next a w:=by
 obtain⟨hd,hl,hu,hc⟩:=hA;unfold wpOp;rw[ho];simp only;rcases hc with⟨hf,hk,hev⟩|⟨hr,hx⟩
 ·have hw:Region.wanted o (yielded ops a.tmps)=true:=by
   rcases hf with hg|⟨j,want,s,hg,hds,hs⟩;·simp[Region.wanted,hg]
   ·exact zM R' hg hds (by rw[hS.slot s (by rw[hl];exact guard_looks hg hds)];exact hs)
  rw[if_pos hw];have he:bz E st o (fun y=>if y=d.x then some r else none)=some r:=by
   rw[hev st _ ⟨fun t ht=>hS.slot t (by rw[hl];exact ME ht),fun k hkk=>hS.heap k (hk k hkk)⟩ (fun k hkk=>hS.heap k (hu k hkk))];simp
  obtain⟨x,hx,hok⟩:=wR hE R' he;have:x=d.x:=by
   by_cases h:x=d.x;·exact h
   ·simp[h] at hx
  subst this;refine .inl (hok next Q fun γ' w' val R1=>hn γ' w' _ ?_ (G.put _ _));unfold Did.app;rw[hd];exact R1
 ·obtain⟨j,want,s,hg,hds,hs⟩:=hr;have hw:Region.wanted o (yielded ops a.tmps)=false:=by
   have:=hS.slot s (by rw[hl];exact guard_looks hg hds);exact vS R' hg hds (by rw[this];exact hs)
  rw[if_neg (by rw[hw];simp)];refine hn γ w _ ?_ (G.put _ _);unfold Did.app;rw[hd,hx];exact R'.put o.dst vw
def eG(b:Nat->Bool):Nat->List Did->St->St
 |_,[],st=>st
 |i,d::l,st=>eG b (i+1) l (if b i=true then d.app st else st)
theorem yx(st:St)(d:Did):(d.app st).s.length=st.s.length:=by
 unfold Did.app St.app St.put;cases d.dst<;>simp
theorem iY:∀{l:List (Nat×En)}{h h':Heap}{k:Nat},h' k=h k->l.foldl (fun h p=>Heap.set h p.1 p.2) h' k=l.foldl (fun h p=>Heap.set h p.1 p.2) h k
 |[],_,_,_,e=>e
 |p::l,h,h',k,e=>by
  simp only[U9];apply iY;unfold Heap.set;split;·rfl
  ·exact e
theorem qN(d:Did)(st:St):(d.app st).h=d.x.up.foldl (fun h p=>h.set p.1 p.2) st.h:=by
 unfold Did.app St.app St.put;cases d.dst<;>rfl
theorem qO(d:Did)(st:St):(d.app st).s=match d.dst with|some t=>st.s.set t d.x.v|none=>st.s:=by
 unfold Did.app St.app St.put;cases d.dst<;>rfl
theorem Same.app{X Y:List Nat}{st st':St}(S:Same X Y st st')(d:Did):Same X Y (d.app st) (d.app st') where
 len:=by rw[yx,yx,S.len]
 slot:=fun t ht=>by
  rw[qO,qO];cases hd:d.dst with
  |none=>exact S.slot t ht
  |some u=>
   simp only[List.getElem?_set,S.len];split;·rfl
   ·exact S.slot t ht
 heap:=fun k hk=>by
  rw[qN,qN];exact iY (S.heap k hk)
theorem Same.skip{X Y:List Nat}{st:St}{d:Did}(hd:∀t,d.dst=some t->t ∉ X)(hu:∀k,k∈d.ups->k ∉ Y):Same X Y st (d.app st) where
 len:=yx _ _
 slot:=fun t ht=>by
  rw[qO];cases h:d.dst with
  |none=>rfl
  |some u=>
   simp only[List.getElem?_set];rw[if_neg fun e=>hd u h (by rw[e];exact ht)]
 heap:=fun k hk=>by
  rw[qN,aU fun h=>hu k h hk]
theorem Same.refl(X Y:List Nat)(st:St):Same X Y st st:=⟨rfl,fun _ _=>rfl,fun _ _=>rfl⟩
theorem Same.symm{X Y:List Nat}{st st':St}(S:Same X Y st st'):Same X Y st' st:=⟨S.len.symm,fun t h=>(S.slot t h).symm,fun k h=>(S.heap k h).symm⟩
theorem Same.trans{X Y:List Nat}{a b c:St}(S:Same X Y a b)(T:Same X Y b c):Same X Y a c:=⟨T.len.trans S.len,fun t h=>(T.slot t h).trans (S.slot t h),fun k h=>(T.heap k h).trans (S.heap k h)⟩
theorem Co{X Y:List Nat}{b b':Nat->Bool}:∀{l:List Did}{i:Nat}{st st':St},Same X Y st st'->(∀j d,l[j]?=some d->b (i+j)≠b' (i+j)->(∀t,d.dst=some t->t ∉ X)/\∀k,k∈d.ups->k ∉ Y) ->
  Same X Y (eG b i l st) (eG b' i l st')
 |[],_,_,_,S,_=>S
 |d::l,i,st,st',S,H=>by
  simp only[eG];refine Co ?_ fun j e hj hne=>H (j+1) e (by simpa using hj) (by rw[show i+(j+1)=i+1+j by omega];exact hne)
  cases h1:b i<;>cases h2:b' i
  ·exact S
  ·obtain⟨g1,g2⟩:=H 0 d rfl (by simp[h1,h2]);exact S.trans (Same.skip g1 g2)
  ·obtain⟨g1,g2⟩:=H 0 d rfl (by simp[h1,h2]);exact(Same.skip g1 g2).symm.trans S
  ·exact S.app d
theorem jD{b b':Nat->Bool}:∀{l:List Did}{i:Nat}{st:St},(∀j,j<l.length->b (i+j)=b' (i+j))->eG b i l st=eG b' i l st
 |[],_,_,_=>rfl
 |d::l,i,st,H=>by
  simp only[eG];rw[show b i=b' i from H 0 (by simp)];exact jD fun j hj=>by have:=H (j+1) (by simpa using hj);rwa [show i+(j+1)=i+1+j by omega] at this
theorem qG:∀{l:List Did}{i n:Nat}{st:St},eG (fun k=>decide (k<i+n)) i l st=(l.take n).foldl (fun s d=>d.app s) st
 |[],_,_,_=>by simp[eG]
 |d::l,i,0,st=>by
  simp only[eG,Nat.add_zero,Nat.lt_irrefl,decide_false,Vp,List.foldl_nil];have:=qG (l:=l) (i:=i+1) (n:=0) (st:=st);simp only[Nat.add_zero,Vp,List.foldl_nil] at this;rw[<- this];simp only[if_neg Bool.false_ne_true];rw[this];rw[jD (b':=fun k=>decide (k<i+1)) fun j _=>by simp;omega];exact this
 |d::l,i,n+1,st=>by
  simp only[eG,List.take_succ_cons,U9];rw[if_pos (by simp)];have:=qG (l:=l) (i:=i+1) (n:=n) (st:=d.app st);rw[<- this];exact jD fun j _=>by simp;omega
theorem Al:∀{l m:List (Nat×En)}{h:Heap},(∀k,k∈l.map (·.1)->k ∉ m.map (·.1))->l.foldl (fun h p=>Heap.set h p.1 p.2) (m.foldl (fun h p=>Heap.set h p.1 p.2) h)=m.foldl (fun h p=>Heap.set h p.1 p.2) (l.foldl (fun h p=>Heap.set h p.1 p.2) h):=by
 intro l m h H;funext k;by_cases h1:k∈l.map (·.1);·rw[aU (l:=m) (H k h1)];apply iY;rw[aU (H k h1)]
 ·rw[aU h1];apply Eq.symm;apply iY;rw[aU h1]
theorem M0{a b:Did}(hd:∀t,a.dst=some t->b.dst≠some t)(hu:∀k,k∈a.ups->k ∉ b.ups)(st:St):a.app (b.app st)=b.app (a.app st):=by
 have h1:(a.app (b.app st)).h=(b.app (a.app st)).h:=by
  rw[qN,qN,qN,qN];exact Al hu
 have h2:(a.app (b.app st)).s=(b.app (a.app st)).s:=by
  rw[qO,qO,qO,qO];cases ha:a.dst with
  |none=>rfl
  |some t=>
   cases hb:b.dst with
   |none=>rfl
   |some u=>
    have:t≠u:=fun e=>hd t ha (by rw[hb,e])
    exact(List.set_comm _ _ this).symm
 cases hx:a.app (b.app st);cases hy:b.app (a.app st);rw[hx,hy] at h1 h2;simp only at h1 h2;rw[h1,h2]
def Apart(a b:Did):Prop:=(∀t,a.dst=some t->t ∉ b.looks/\b.dst≠some t)/\(∀t,b.dst=some t->t ∉ a.looks)/\(∀k,k∈a.ups->k ∉ b.rd)/\(∀k,k∈b.ups->k ∉ a.rd)
theorem kI{a b:List Nat}(h:Ab a b=true):∀x,x∈a->x ∉ b:=fun x hx hb=>by
 have:=UT.1 h x hx;simp[hb] at this
theorem FN{a b:Did}(h:Did.apart a b=true):Apart a b:=by
 unfold Did.apart at h;simp only[UB] at h;obtain⟨⟨⟨⟨h1,h2⟩,h3⟩,h4⟩,h5⟩:=h;refine⟨fun t ht=>⟨kI h1 t (by simp[ht]),fun hb=>kI h3 t (by simp[ht]) (by simp[hb])⟩,fun t ht=>kI h2 t (by simp[ht]),kI h4,kI h5⟩
theorem EX{b:Nat->Bool}{a:Did}:∀{l:List Did}{i:Nat}{st:St},(∀j d,l[j]?=some d->b (i+j)=true->∀st,a.app (d.app st)=d.app (a.app st))->eG b i l (a.app st)=a.app (eG b i l st)
 |[],_,_,_=>rfl
 |d::l,i,st,H=>by
  simp only[eG];have ih:∀st,eG b (i+1) l (a.app st)=a.app (eG b (i+1) l st):=fun st=>EX fun j e hj hb=>H (j+1) e (by simpa using hj) (by rw[show i+(j+1)=i+1+j by omega];exact hb)
  cases hb:b i;·exact ih st
  ·simp only[if_true];rw[<- H 0 d rfl hb,ih]
theorem EY{b:Nat->Bool}{a:Did}:∀{l:List Did}{i n:Nat}{st:St},l[n]?=some a->b (i+n)=false->(∀j d,l[j]?=some d->n<j->b (i+j)=true->∀st,a.app (d.app st)=d.app (a.app st)) ->
  eG (fun k=>b k||decide (k=i+n)) i l st=a.app (eG b i l st)
 |d::l,i,0,st,ha,hb,H=>by
  simp only[U0,Uw] at ha;subst ha;simp only[eG,Nat.add_zero] at hb⊢;simp only[hb,decide_true,Bool.or_true,if_true,Bool.false_eq_true,if_false];rw[jD (b':=b) fun j _=>by simp;omega];exact EX fun j e hj hbj=>H (j+1) e (by simpa using hj) (by omega) (by rw[show i+(j+1)=i+1+j by omega];exact hbj)
 |d::l,i,n+1,st,ha,hb,H=>by
  simp only[eG];have e1:(b i||decide (i=i+(n+1)))=b i:=by simp
  simp only[e1];have:=EY (b:=b) (a:=a) (l:=l) (i:=i+1) (n:=n) (st:=if b i=true then d.app st else st) (by simpa using ha) (by rw[show i+1+n=i+(n+1) by omega];exact hb)
   (fun j e hj hlt hbj=>H (j+1) e (by simpa using hj) (by omega) (by rw[show i+(j+1)=i+1+j by omega];exact hbj))
  rw[<- this];congr 1;funext k;rw[show i+1+n=i+(n+1) by omega]
 |[],_,_,_,ha,_,_=>by simp at ha
theorem Il:∀{xs ys:List Nat}{k:Nat},k∈uni xs ys->k∈xs\/k∈ys
 |[],_,_,h=>.inr h
 |x::xs,ys,k,h=>by
  unfold uni at h;simp only[U9] at h;have:=Il (xs:=xs) h;rcases this with h|h;·exact .inl (by simp[h])
  ·split at h
   ·exact .inr h
   ·rcases UG.1 h with rfl|h
    ·exact .inl (by simp)
    ·exact .inr h
theorem xq{b:Nat->Bool}:∀{l:List Oper}{tbl:List (List Nat)},(∀j as,tbl[j]?=some as->b j=true->∀k,k∈as->b k=true) ->
  (∀j o,l[j]?=some o->b (tbl.length+j)=true->∀e,e∈o.after.toList->Region.binds .any e=true->b e.on=true)->∀j as,(tZ l tbl)[j]?=some as->b j=true->∀k,k∈as->b k=true
 |[],tbl,H,_=>H
 |o::l,tbl,H,Ho=>by
  simp only[tZ];refine xq (fun j as hj hb k hk=>?_) fun j o' hj hb=>Ho (j+1) o' (by simpa using hj) (by simpa[Vk,Nat.add_comm 1 j] using hb)
  rw[List.getElem?_append] at hj;split at hj;·exact H j as hj hb k hk
  ·rename_i hlt;have hj0:j=tbl.length:=by
    by_cases h:j-tbl.length=0;·omega
    ·obtain⟨m,hm⟩:=Nat.exists_eq_succ_of_ne_zero h;rw[hm] at hj;simp at hj
   subst hj0;simp only[Nat.sub_self,U0,Uw] at hj;subst hj;have hon:=Ho 0 o rfl hb;have gen:∀(es:List Edge) (acc:List Nat),(∀e,e∈es->b e.on=true)->(∀k,k∈acc->b k=true)->∀k,k∈es.foldl (fun acc e=>uni (e.on::tbl.getD e.on []) acc) acc->b k=true:=by
    intro es
    induction es with
    |nil=>intro acc _ h k hk;exact h k hk
    |cons e es ih=>
     intro acc h1 h2 k hk;simp only[U9] at hk;refine ih _ (fun e he=>h1 e (by simp[he])) (fun k hk=>?_) k hk;rcases Il hk with hk|hk
     ·rcases UG.1 hk with rfl|hk
      ·exact h1 e (by simp)
      ·cases htb:tbl[e.on]? with
       |none=>simp[List.getD,htb] at hk
       |some as=>exact H e.on as htb (h1 e (by simp)) k (by simpa[List.getD,htb] using hk)
     ·exact h2 k hk
   refine gen _ [] (fun e he=>?_) (fun k hk=>by simp at hk) k hk;obtain⟨h1,h2⟩:=U8.1 he;exact hon e h1 h2
theorem pV:∀{l:List Oper}{i:Nat},zG i l=true->∀j o,l[j]?=some o->∀e,e∈o.after.toList->Region.binds .any e=true->e.on<i+j
 |o::l,i,h,j,o',hj,e,he,hb=>by
  simp only[zG,UB] at h;cases j with
  |zero=>
   simp only[U0,Uw] at hj;subst hj;have:=UT.1 h.1 e he;simpa[hb] using this
  |succ j=>have:=pV h.2 j o' (by simpa using hj) e he hb;omega
 |[],_,_,_,_,hj,_,_,_=>by simp at hj
theorem tC{E:Env R}{ops:Array Oper}:∀{l:List Oper}{st:St}{acc:List Did}{K:List Did->St->Option R},fq E ops l st acc K=some r ->
  ∃ds:List Did,ds.length=l.length/\K (acc.reverse++ds) (ds.foldl (fun s d=>d.app s) st)=some r/\∀i o d,l[i]?=some o->ds[i]?=some d->zP E ops o ((ds.take i).foldl (fun s d=>d.app s) st) d
 |[],st,acc,K,he=>⟨[],rfl,by simpa[fq] using he,fun i o d hi=>by simp at hi⟩
 |o::l,st,acc,K,he=>by
  have go:∀{d:Did}{st1:St},zP E ops o st d->d.app st=st1->fq E ops l st1 (d::acc) K=some r ->
    ∃ds:List Did,ds.length=(o::l).length/\K (acc.reverse++ds) (ds.foldl (fun s d=>d.app s) st)=some r/\∀i o' d,(o::l)[i]?=some o'->ds[i]?=some d->zP E ops o' ((ds.take i).foldl (fun s d=>d.app s) st) d:=by
   intro d st1 hA h1 he;obtain⟨ds,h2,h3,h4⟩:=tC he;refine⟨d::ds,by simp[h2],?_,fun i o' d' hi hd=>?_⟩;·simpa[h1] using h3
   ·cases i with
    |zero=>
     simp only[U0,Uw] at hi hd;subst hi hd;exact hA
    |succ i=>
     simp only[List.take_succ_cons,U9,h1];exact h4 i o' d' (by simpa using hi) (by simpa using hd)
  have fire:∀{K':Dl->Option R},bz E st o K'=some r->(∀x,K' x=fq E ops l (st.app o.dst x) (did ops st o x::acc) K)->RN ops o st ->
    ∃ds:List Did,ds.length=(o::l).length/\K (acc.reverse++ds) (ds.foldl (fun s d=>d.app s) st)=some r/\∀i o' d,(o::l)[i]?=some o'->ds[i]?=some d->zP E ops o' ((ds.take i).foldl (fun s d=>d.app s) st) d:=by
   intro K' h1 h2 hf;obtain⟨x,hx,hloc⟩:=I1 h1;rw[h2] at hx;exact go (d:=did ops st o x) ⟨rfl,rfl,fun k hk=>UK.2 (.inr hk),.inl ⟨hf,fun k hk=>UK.2 (.inl hk),hloc⟩⟩ rfl hx
  simp only[fq] at he;split at he;·rename_i hg;exact fire (K':=fun x=>fq E ops l (st.app o.dst x) (did ops st o x::acc) K) he (fun _=>rfl) (.inl hg)
  ·rename_i j want hg;split at he
   ·cases he
   ·rename_i d hd;split at he
    ·rename_i b hs;split at he
     ·rename_i hb;subst hb;rw[St.put_same hs] at he;exact fire (K':=fun x=>fq E ops l (st.app o.dst x) (did ops st o x::acc) K) he (fun _=>rfl) (.inr ⟨j,b,d,hg,hd,hs⟩)
     ·rename_i hb;have hb':b=!want:=by cases b<;>cases want<;>simp_all
      subst hb';rw[St.put_same hs] at he;exact go (d:=wK ops o) ⟨rfl,rfl,fun k hk=>by simp[wK,Did.ups] at hk,.inr ⟨⟨j,want,d,hg,hd,.inl hs⟩,rfl⟩⟩ rfl he
    ·rename_i hs;exact go (d:=wK ops o) ⟨rfl,rfl,fun k hk=>by simp[wK,Did.ups] at hk,.inr ⟨⟨j,want,d,hg,hd,.inr hs⟩,rfl⟩⟩ rfl he
    ·cases he
theorem least{n:Nat}{p:Nat->Prop}(h:∃i,i<n/\p i):∃i,i<n/\p i/\∀j,j<i->¬p j:=by
 obtain⟨i,hi,hp⟩:=h
 induction i using Nat.strongRecOn with
 |_ i ih=>
  by_cases h:∃j,j<i/\p j;·obtain⟨j,hj,hpj⟩:=h;exact ih j hj (by omega) hpj
  ·exact⟨i,hi,hp,fun j hj hpj=>h ⟨j,hj,hpj⟩⟩
theorem ng{l:Array Bool}{i:Nat}(h:i<l.size):l.getD i true=l.getD i false:=by simp[Array.getD,h]
theorem IY{E:Env R}(hE:lM P C.L C.nl E){ops:Array Oper}{Q:Exit->Act->World->Prop}{st:St}{ds:List Did}(hlen:ds.length=ops.size)(hacts:∀i o d,ops[i]?=some o->ds[i]?=some d->zP E ops o ((ds.take i).foldl (fun s d=>d.app s) st) d)
  (hap:qM ops ds=true) (r:R) (hK:∀γ a w,Rel C γ w (ds.foldl (fun s d=>d.app s) st) a.tmps->Good E a->Q .normal a w) :
  ∀(fuel:Nat) (listed:Array Bool) (γ:Gam) (a:Act) (w:World),listed.size=ops.size->((List.range ops.size).filter fun i=>!listed.getD i false).length<=fuel ->
   (∀j o,ops[j]?=some o->listed.getD j false=true->∀e,e∈o.after.toList->Region.binds .any e=true->listed.getD e.on false=true) ->
   Rel C γ w (eG (fun k=>listed.getD k false) 0 ds st) a.tmps->Good E a->wpAny P .any ops Q fuel listed a w:=by
 unfold qM at hap;simp only[UB] at hap;obtain⟨htext,hap⟩:=hap;have fin:∀(listed:Array Bool) (γ:Gam) (a:Act) (w:World),listed.size=ops.size->(∀i,i<ops.size->listed.getD i false=true)->Rel C γ w (eG (fun k=>listed.getD k false) 0 ds st) a.tmps->Good E a->Q .normal a w:=by
  intro listed γ a w hsz hall R' G;refine hK γ a w ?_ G;have:=qG (l:=ds) (i:=0) (n:=ds.length) (st:=st);rw[List.take_length] at this;rw[<- this];rw[jD (b':=fun k=>decide (k<0+ds.length)) fun j hj=>by
   simp only[Nat.zero_add];rw[hall j (by omega)];simp[hj]] at R'
  exact R'
 have none_ready:∀(listed:Array Bool),listed.size=ops.size->Region.ready .any ops listed=[]->∀i,i<ops.size->listed.getD i false=true:=by
  intro listed hsz hr i hi;by_cases h:listed.getD i false=true;·exact h
  ·obtain⟨j,hj,hp,hmin⟩:=least (n:=ops.size) (p:=fun i=>¬listed.getD i false=true) ⟨i,hi,h⟩;exfalso;have ho:ops[j]?=some ops[j]:=by simp[hj]
   have:j∈Region.ready .any ops listed:=by
    unfold Region.ready;refine U8.2 ⟨by simpa using hj,?_⟩;have hjl:j<listed.size:=by omega
    simp only[UB,Bool.not_eq_true'];refine⟨?_,?_⟩;·rw[ng hjl];simpa using hp
    ·rw[ho];simp only[Vh,Option.getD_some];rw[Array.all_eq_true'];intro e he;by_cases hb:Region.binds .any e=true
     ·have hlt:=pV htext j ops[j] (by simpa using ho) e (by simpa using he) hb;have:=hmin e.on (by omega);simp only[Decidable.not_not] at this;simp[this]
     ·simp only[Bool.not_eq_true] at hb;simp[hb]
   rw[hr] at this;simp at this
 intro fuel
 induction fuel with
 |zero=>
  intro listed γ a w hsz hcnt _ R' G;have hall:∀i,i<ops.size->listed.getD i false=true:=fun i hi=>by
   by_cases h:listed.getD i false=true;·exact h
   ·have:i∈(List.range ops.size).filter fun i=>!listed.getD i false:=U8.2 ⟨by simpa using hi,by simpa using h⟩
    have h0:=List.length_pos_of_mem this;omega
  refine⟨?_,fin listed γ a w hsz hall R' G⟩;unfold Region.ready;refine List.filter_eq_nil_iff.2 fun i hi=>?_
  have hi':i<ops.size:=by simpa using hi
  have:=hall i hi';rw[ng (by omega:i<listed.size),this];simp
 |succ fuel ih=>
  intro listed γ a w hsz hcnt hcl R' G;refine⟨fun hr=>fin listed γ a w hsz (none_ready listed hsz hr) R' G,fun i hi=>?_⟩;unfold Region.ready at hi;obtain⟨hi1,hi2⟩:=U8.1 hi;have hin:i<ops.size:=by simpa using hi1
  have hil:i<listed.size:=by omega
  simp only[UB,Bool.not_eq_true'] at hi2;obtain⟨hi2,hi3⟩:=hi2;have hoff:listed.getD i false=false:=by rw[<- ng hil];exact hi2
  have ho:ops[i]?=some ops[i]:=by simp[hin]
  rw[ho] at hi3;simp only[Vh,Option.getD_some] at hi3;rw[Array.all_eq_true'] at hi3;have hahead:∀e,e∈ops[i].after.toList->Region.binds .any e=true->listed.getD e.on false=true:=fun e he hb=>by
   have:=hi3 e (by simpa using he);simpa[hb] using this
  have hid:i<ds.length:=by omega
  have hdi:ds[i]?=some ds[i]:=by simp[hid]
  have hA:=hacts i ops[i] ds[i] ho hdi
  let b:Nat->Bool:=fun k=>listed.getD k false
  have hset:∀k,(listed.setIfInBounds i true).getD k false=(b k||decide (k=i)):=fun k=>by
   simp only[Array.getD_eq_getD_getElem?,Array.getElem?_setIfInBounds,b];by_cases h:i=k;·subst h;simp[hil]
   ·have h':¬k=i:=fun e=>h e.symm
    simp[h,h']
  have hclosed':∀j o,ops[j]?=some o->(listed.setIfInBounds i true).getD j false=true->∀e,e∈o.after.toList->Region.binds .any e=true->(listed.setIfInBounds i true).getD e.on false=true:=fun j o hj hb e he hbe=>by
   rw[hset] at hb⊢;simp only[Bool.or_eq_true,UE] at hb⊢;rcases hb with hb|rfl;·exact .inl (hcl j o hj hb e he hbe)
   ·rw[ho] at hj;simp only[Uw] at hj;subst hj;exact .inl (hahead e he hbe)
  have hanc:∀j as,(tZ ops.toList [])[j]?=some as->b j=true->∀k,k∈as->b k=true:=
   xq (b:=b) (fun j as hj=>by simp at hj) fun j o hj hb e he hbe=>hcl j o (by simpa using hj) (by simpa[b] using hb) e he hbe
  have hanci:∀as,(tZ ops.toList [])[i]?=some as->∀k,k∈as->k≠i->b k=true:=fun as has k hk hki=>by
   have:=xq (b:=fun k=>b k||decide (k=i)) (tbl:=[]) (l:=ops.toList) (fun j as hj=>by simp at hj) (fun j o hj hb e he hbe=>by
    have:=hclosed' j o (by simpa using hj) (by rw[hset];simpa using hb) e he hbe
    rwa [hset] at this) i as has (by simp) k hk
   simp only[Bool.or_eq_true,UE] at this;exact this.resolve_right hki
  have hpair:∀j k dj dk',j<k->ds[j]?=some dj->ds[k]?=some dk'->(∃as,(tZ ops.toList [])[k]?=some as/\j∈as)\/Apart dj dk':=fun j k dj dk' hjk hj hk=>by
   have hkl:k<ds.length:=(UI.1 hk).1;have h1:=UT.1 hap k (by simpa using hkl);rw[hk] at h1;simp only at h1;unfold DF at h1;have h2:=UT.1 h1 j (by simpa using hjk);rw[hj] at h2;simp only[Bool.or_eq_true] at h2;rcases h2 with h2|h2
   ·left;cases hanc:(tZ ops.toList [])[k]? with
    |none=>simp[List.getD,hanc] at h2
    |some as=>exact⟨as,hanc,by simpa[List.getD,hanc] using h2⟩
   ·exact .inr (FN h2)
  have hlater:∀k dk',i<k->ds[k]?=some dk'->b k=true->Apart ds[i] dk':=fun k dk' hik hk hbk=>by
   rcases hpair i k ds[i] dk' hik hdi hk with⟨as,has,hm⟩|h;·have:=hanc k as has hbk i hm;simp only[b] at this;rw[hoff] at this;cases this
   ·exact h
  have hearlier:∀k dk',k<i->ds[k]?=some dk'->b k=false->Apart dk' ds[i]:=fun k dk' hik hk hbk=>by
   rcases hpair k i dk' ds[i] hik hk hdi with⟨as,has,hm⟩|h;·have:=hanci as has k hm (by omega);rw[hbk] at this;cases this
   ·exact h
  have hS:Same ds[i].looks ds[i].rd ((ds.take i).foldl (fun s d=>d.app s) st) (eG b 0 ds st):=by
   have:=qG (l:=ds) (i:=0) (n:=i) (st:=st);rw[<- this];refine Co (Same.refl _ _ _) fun j d hj hne=>?_
   simp only[Nat.zero_add] at hne;rcases Nat.lt_trichotomy j i with hlt|rfl|hgt
   ·have hbj:b j=false:=by
     cases h:b j;·rfl
     ·simp[h,hlt] at hne
    have:=hearlier j d hlt hj hbj;exact⟨fun t ht=>(this.1 t ht).1,this.2.2.1⟩
   ·have:b j=false:=hoff;simp[this] at hne
   ·have hbj:b j=true:=by
     cases h:b j;·simp[h] at hne;omega
     ·rfl
    have:=hlater j d hgt hj hbj;exact⟨this.2.1,this.2.2.2⟩
  have hrun:eG (fun k=>(listed.setIfInBounds i true).getD k false) 0 ds st=ds[i].app (eG b 0 ds st):=by
   have:=EY (b:=b) (l:=ds) (i:=0) (n:=i) (st:=st) hdi (by simp only[Nat.zero_add];exact hoff) fun j d hj hij hb st=>by
    simp only[Nat.zero_add] at hb;have h:=hlater j d hij hj hb;refine M0 (fun t ht=>(h.1 t ht).2) (fun k hk hk'=>h.2.2.1 k hk ?_) st;have hjo:j<ops.size:=by have:=(UI.1 hj).1;omega
    exact(hacts j ops[j] d (by simp[hjo]) hj).2.2.1 k hk'
   simp only[Nat.zero_add] at this;rw[<- this];congr 1;funext k;rw[hset]
  refine PY hE r ho hA hS R' G fun γ' w' a' R1 G1=>?_
  refine ih _ γ' a' w' (by simpa using hsz) ?_ hclosed' (by rw[hrun];exact R1) G1;have hlt:((List.range ops.size).filter fun k=>!(listed.setIfInBounds i true).getD k false).length<((List.range ops.size).filter fun k=>!listed.getD k false).length:=by
   have e1:((List.range ops.size).filter fun k=>!(listed.setIfInBounds i true).getD k false)=(((List.range ops.size).filter fun k=>!listed.getD k false)).filter fun k=>!decide (k=i):=by
    rw[List.filter_filter];congr 1;funext k;rw[hset];show(!(listed.getD k false||decide (k=i)))=(!decide (k=i)&&!listed.getD k false)
    cases listed.getD k false<;>cases decide (k=i)<;>rfl
   rw[e1];have hm:i∈(List.range ops.size).filter fun k=>!listed.getD k false:=U8.2 ⟨by simpa using hin,by rw[hoff];rfl⟩
   exact List.length_filter_lt_length_iff_exists.2 ⟨i,hm,by simp⟩
  omega
theorem EQ{E:Env R}(hE:lM P C.L C.nl E)(hm:P.follows .mixedOrders=true){id:Nat}{ops:Array Oper}{draw:Bool}{Q:Exit->Act->World->Prop}{st:St}{a:Act}{K:St->Option R}(R':Rel C γ w st a.tmps)(G:Good E a)
  (he:yQ E ops draw st K=some r) (hK:jM C E r K (Q .normal)):(Code.region id ops draw).wp P Q a w:=by
 cases draw with
 |false=>exact wp_region_list (jR hE R' G he hK)
 |true=>
  have he:fq E ops ops.toList st [] (fun l st=>if qM ops l=true then K st else none)=some r:=he;obtain⟨ds,h1,h2,h3⟩:=tC he;simp only[List.reverse_nil,UY] at h2;obtain⟨hap,h2⟩:=aa h2;refine wp_region_any hm (IY hE (by simpa using h1) (fun i o d hi hd=>h3 i o d (by simpa using hi) hd) hap r (fun γ a w R1 G1=>hK γ _ a w R1 G1 h2) ops.size _ γ a _ (by simp) ?_ (fun j o _ hb=>?_) ?_ G);·exact UW (List.length_filter_le _ _) (by simp)
  ·simp[Array.getD_eq_getD_getElem?,Array.getElem?_replicate] at hb;split at hb<;>simp at hb
  ·rw[jD (b':=fun k=>decide (k<0+0)) fun j _=>by
    simp[Array.getD_eq_getD_getElem?,Array.getElem?_replicate];split<;>simp]
   rw[qG];exact R'.world rfl rfl rfl rfl
end
end Rv
namespace Rv
open Go
section
variable{P:Program}{C:Ctx}{γ:Gam}{w:World}{R:Type}{r:R}
def Ex.toExit:Ex->Exit
 | .normal=>.normal
 | .exit id=>.exit id
 | .goto l=>.goto l
 | .ret=>.ret
def KOk(C:Ctx)(E:Env R)(r:R)(K:iq R)(Q:Exit->Act->World->Prop):Prop:=
 ∀ex,jM C E r (K ex) (Q ex.toExit)
theorem G8:∀i j,(nmJ i).1=(nmJ j).1->i=j:=fun i j e=>by simp only[nmJ] at e;omega
theorem Dz{E:Env R}(hnl:E.nl=C.nl){sh:Shape}(hp:sh.pins E.nl=true){st:St}{ab:Abs sh.T}(he:sh.abs st=some ab){a:Act}(R':Rel C γ w st a.tmps)(G:Good E a):∃γ',Rel C γ' w (sh.mk' nmJ E.N ab.x) a.tmps:=by
 have I:=R'.inv;obtain⟨γ',R1,_⟩:=tX he R' G8 I.invW (fun d g ho _ _=>ho.1) (fun k e g c l _ hk hb hg=>I.rd g (I.own k e g c hk (by rw[hb];trivial) hg)) (fun k e g c _ hk hl hg=>I.own k e g c hk hl hg)
  (fun i hi=>by
   obtain⟨h1,e,h2,h3⟩:=DC he hp i (by omega);obtain⟨e',h4,h5⟩:=I.lent i hi;rw[h2] at h4;simp only[Uw] at h4;subst h4;exact⟨rfl,_,h1,h5 h3⟩)
 have:st.s.length=E.N:=by rw[<- R'.size,G.size]
 rw[this] at R1;exact⟨γ',R1⟩
theorem Ed{E:Env R}(hnl:E.nl=C.nl){h:JH R}{ms:List Nat}{F:St->Option R}(hj:∀x,h.j ms x=F (h.sh.mk' nmJ E.N x)){Q:Act->World->Prop}(hF:jM C E r F Q):jM C E r (goJ E.nl h ms) Q:=fun γ st a w R' G he=>by
 unfold goJ at he;obtain⟨hp,he⟩:=aa he;split at he;·rename_i ab hab;obtain⟨γ',R1⟩:=Dz hnl hp hab R' G;rw[hj] at he;exact hF γ' _ a w R1 G he
 ·cases he
def ma(C:Ctx)(E:Env R)(r:R)(h:LH R)(ms:List Nat)(n:Nat)(a:Act)(w:World):Prop:=
 ∃γ x,Rel C γ w (h.sh.mk' nmJ E.N x) a.tmps/\Good E a/\h.l ms n x=some r
theorem uz{E:Env R}(hnl:E.nl=C.nl){h:LH R}{ms:List Nat}{n:Nat}{Q:Act->World->Prop}(hQ:∀a w,ma C E r h ms n a w->Q a w):jM C E r (goL E.nl h ms n) Q:=fun γ st a w R' G he=>by
 unfold goL at he;obtain⟨hp,he⟩:=aa he;split at he;·rename_i ab hab;obtain⟨γ',R1⟩:=Dz hnl hp hab R' G;exact hQ a w ⟨γ',_,R1,G,he⟩
 ·cases he
theorem ll:∀{c:Code}{l:Nat}{b:Code},fD c l=some b->findLabel c l=some (.seq .skip b)
 | .seq a b,l,b',h=>by
  simp only[fD] at h;split at h
  ·rename_i i hi;have ha:a=.label i:=by
    unfold jv at hi;split at hi;·simp only[Uw] at hi;rw[hi]
    ·cases hi
   subst ha;split at h;·rename_i e;subst e;simp only[Uw] at h;subst h;simp[findLabel]
   ·rename_i e;simp only[findLabel];rw[if_neg (by simpa using e)];exact ll h
  ·split at h
   ·rename_i hn;simp only[findLabel];rw[Option.isNone_iff_eq_none.1 hn];exact ll h
   ·cases h
 | .skip,_,_,h | .label _,_,_,h | .region ..,_,_,h | .cond ..,_,_,h | .block ..,_,_,h | .loop _,_,_,h | .rangeFunc ..,_,_,h | .exit _,_,_,h | .scope _,_,_,h | .goto _,_,_,h | .ret,_,_,h | .refuse _,_,_,h=>by cases h
theorem pG:∀{c:Code}{l:Nat}{b:Code},fD c l=some b->sizeOf b<sizeOf c
 | .seq a b,l,b',h=>by
  simp only[fD] at h;split at h
  ·split at h
   ·simp only[Uw] at h;subst h;simp only[Code.seq.sizeOf_spec];omega
   ·have:=pG h;simp only[Code.seq.sizeOf_spec];omega
  ·split at h
   ·have:=pG h;simp only[Code.seq.sizeOf_spec];omega
   ·cases h
 | .skip,_,_,h | .label _,_,_,h | .region ..,_,_,h | .cond ..,_,_,h | .block ..,_,_,h | .loop _,_,_,h | .rangeFunc ..,_,_,h | .exit _,_,_,h | .scope _,_,_,h | .goto _,_,_,h | .ret,_,_,h | .refuse _,_,_,h=>by cases h
theorem K4{E:Env R}{a:Code}{h:Nat×LH R}(hh:pK E a=some h):a=.label h.1/\E.lab h.1=some h.2:=by
 unfold pK at hh;split at hh
 ·rename_i l hl;split at hh
  ·rename_i g hg;simp only[Uw] at hh;subst hh;refine⟨?_,hg⟩;unfold jv at hl;split at hl
   ·simp only[Uw] at hl;rw[hl]
   ·cases hl
  ·cases hh
 ·cases hh
theorem GV{E:Env R}{l:Nat}{h:LH R}(hh:E.lab l=some h):pK E (.label l)=some (l,h):=by
 simp[pK,jv,hh]
theorem lm{E:Env R}{l:Nat}{h:LH R}(hl:E.lab l=some h):∀{c b:Code}{K:List Nat->iq R},fD c l=some b->(∀s,s∈sites E c K->s.ok E) ->
  (dx b).isEmpty=true/\(Site.loop h b (fun ms m=>uF E.nl l h ms m (K ms))).ok E/\∀s,s∈sites E b (fun ms=>uF E.nl l h ms.tail ms.head! (K ms.tail))->s.ok E
 | .seq x y,b,K,hf,hs=>by
  simp only[fD] at hf;simp only[sites] at hs;split at hf
  ·rename_i i hi;have hx:x=.label i:=by
    unfold jv at hi;split at hi;·simp only[Uw] at hi;rw[hi]
    ·cases hi
   subst hx;split at hf;·rename_i e;subst e;simp only[Uw] at hf;subst hf;rw[GV hl] at hs;exact⟨hs (.flag (dx y).isEmpty) (by simp),hs (.loop h y fun ms m=>uF E.nl i h ms m (K ms)) (by simp),fun s h=>hs s (by simp[h])⟩
   ·cases hlh:pK E (.label i) with
    |some g=>
     rw[hlh] at hs;have h1:=hs (.flag (dx y).isEmpty) (by simp);have h2:dx y=[]:=by simpa[Site.ok] using h1
     exact absurd hf (by
      have:∀{c:Code},dx c=[]->fD c l=none:=by
       intro c
       induction c with
       |seq a b iha ihb=>
        intro hc;simp only[dx,List.append_eq_nil_iff] at hc;simp only[fD];split
        ·rename_i j hj;exfalso;unfold jv at hj;split at hj
         ·simp[dx] at hc
         ·cases hj
        ·split
         ·exact ihb hc.2
         ·rfl
       |_=>intro _;rfl
      rw[this h2];simp)
    |none=>
     rw[hlh] at hs;exact lm hl hf fun s h=>hs s (by simp[h])
  ·rename_i hi;split at hf
   ·have:pK E x=none:=by unfold pK;rw[hi]
    rw[this] at hs;exact lm hl hf fun s h=>hs s (by simp[h])
   ·cases hf
 | .skip,_,_,h,_ | .label _,_,_,h,_ | .region ..,_,_,h,_ | .cond ..,_,_,h,_ | .block ..,_,_,h,_ | .loop _,_,_,h,_ | .rangeFunc ..,_,_,h,_ | .exit _,_,_,h,_ | .scope _,_,_,h,_ | .goto _,_,_,h,_ | .ret,_,_,h,_ | .refuse _,_,_,h,_=>by cases h
def jQ(C:Ctx)(E:Env R)(r:R)(c:Code)(ms:List Nat)(Q:Exit->Act->World->Prop):Prop:=
 ∀l h,l∈dx c->E.lab l=some h->∀n a w,ma C E r h ms n a w->Q (.goto l) a w
theorem jQ.of_nil{E:Env R}{c:Code}{ms:List Nat}{Q:Exit->Act->World->Prop}(h:(dx c).isEmpty=true):jQ C E r c ms Q:=fun l g hl=>by
 rw[List.isEmpty_iff.1 h] at hl;simp at hl
theorem yP{E:Env R}(hE:lM P C.L C.nl E)(hm:P.follows .mixedOrders=true):∀(n:Nat) (c:Code),sizeOf c<n->∀{Kf:List Nat->iq R} (ms:List Nat) {Q:Exit->Act->World->Prop},(∀s,s∈sites E c Kf->s.ok E)->jQ C E r c ms Q->KOk C E r (Kf ms) Q ->
  jM C E r (fun st=>aP E ms c st (Kf ms)) (c.wp P Q):=by
 intro n
 induction n with
 |zero=>intro c hc;omega
 |succ n ih=>
 intro c hc Kf ms Q hs hL hK γ st a w R' G he;cases c with
 |skip=>exact wp_skip (hK .normal γ st a w R' G (by simpa[aP] using he))
 |label l=>exact wp_label (hK .normal γ st a w R' G (by simpa[aP] using he))
 |region id ops draw=>exact EQ hE hm R' G (by simpa[aP] using he) (hK .normal)
 |seq x y=>
  simp only[aP] at he;simp only[sites] at hs;cases hlh:pK E x with
  |some h=>
   rw[hlh] at he hs;obtain⟨hx,hlab⟩:=K4 hlh;subst hx;refine wp_seq (wp_label ?_);show y.wp P Q a w;refine uz hE.nl (Q:=y.wp P Q) (fun a w hLp=>?_) γ st a w R' G he;obtain⟨γ,x,R1,G1,hx⟩:=hLp;have hsite:=hs (.loop h.2 y fun ms m=>uF E.nl h.1 h.2 ms m (Kf ms)) (by simp) ms;cases hn:E.n with
   |zero=>rw[hn,hsite.1] at hx;cases hx
   |succ m=>
    rw[hn,hsite.2] at hx;refine ih y (by simp at hc;omega) (Kf:=fun ms=>uF E.nl h.1 h.2 ms.tail ms.head! (Kf ms.tail)) (m::ms) (fun s h=>hs s (by simp[h])) (jQ.of_nil (hs (.flag (dx y).isEmpty) (by simp))) ?_ γ _ a w R1 G1 hx;intro ex;cases ex with
    |goto i=>
     intro γ st a w R' G he;have he:(if i=h.1 then goL E.nl h.2 ms m st else Kf ms (.goto i) st)=some r:=he;by_cases e:i=h.1;·subst e;rw[if_pos rfl] at he;exact uz hE.nl (fun a w hLp=>hL h.1 h.2 (by simp[dx]) hlab m a w hLp) γ st a w R' G he
     ·rw[if_neg e] at he;exact hK (.goto i) γ st a w R' G he
    |normal=>exact hK .normal
    |exit id=>exact hK (.exit id)
    |ret=>exact hK .ret
  |none=>
   rw[hlh] at he hs;simp only[List.cons_append,UG,UK] at hs;have hflag:=hs _ (.inl rfl);have hLx:jQ C E r x ms (Exit.then (y.wp P Q) Q):=by
    intro l g hl hg;simp only[Site.ok,Bool.or_eq_true] at hflag;rcases hflag with h|h
    ·obtain⟨i,hi⟩:=Vn.1 h;unfold jv at hi;split at hi
     ·simp only[dx,UV] at hl;subst hl;rw[GV hg] at hlh;cases hlh
     ·cases hi
    ·rw[List.isEmpty_iff.1 h] at hl;simp at hl
   have hy:=ih y (by simp at hc;omega) ms (fun s h=>hs s (.inr (.inr h))) (fun l g hl=>hL l g (by simp[dx,hl])) hK;refine wp_seq (ih x (by simp at hc;omega) (Kf:=fun ms=>NN E ms y (fun st=>aP E ms y st (Kf ms)) (Kf ms)) ms (fun s h=>hs s (.inr (.inl (.inl h)))) hLx ?_ γ st a w R' G he);intro ex;cases ex with
   |normal=>
    show jM C E r (fun st=>match (first y).bind E.join with|some h=>goJ E.nl h ms st|none=>aP E ms y st (Kf ms)) (y.wp P Q);cases hj:(first y).bind E.join with
    |none=>exact hy
    |some h=>
     have:=hs (.join h y Kf) (.inr (.inl (.inr (by rw[hj];simp))));exact Ed hE.nl (fun x=>this ms x) hy
   |exit id=>exact hK (.exit id)
   |goto l=>exact hK (.goto l)
   |ret=>exact hK .ret
 |cond cv x y=>
  have hsz:=hc;simp only[Code.cond.sizeOf_spec] at hsz;simp only[aP] at he;simp only[sites,List.cons_append,UG,UK] at hs;have hflag:=hs _ (.inl rfl);simp only[Site.ok,UB] at hflag;split at he
  ·rename_i t hcv;have hv:=(R'.opd hcv).1;have hv:a.eval cv=.bool t:=hv;refine wp_cond hv ?_;have hx:=ih x (by omega) ms (fun s h=>hs s (.inr (.inl (.inr h)))) (jQ.of_nil hflag.1) hK;have hy:=ih y (by omega) ms (fun s h=>hs s (.inr (.inr h))) (jQ.of_nil hflag.2) hK;split at he
   ·rename_i ht;rw[if_pos ht];cases hj:(first x).bind E.join with
    |none=>rw[hj] at he;exact hx γ st a w R' G he
    |some h=>
     rw[hj] at he;have:=hs (.join h x Kf) (.inr (.inl (.inl (.inl (by rw[hj];simp)))));exact Ed hE.nl (fun x=>this ms x) hx γ st a w R' G he
   ·rename_i ht;rw[if_neg ht];cases hj:(first y).bind E.join with
    |none=>rw[hj] at he;exact hy γ st a w R' G he
    |some h=>
     rw[hj] at he;have:=hs (.join h y Kf) (.inr (.inl (.inl (.inr (by rw[hj];simp)))));exact Ed hE.nl (fun x=>this ms x) hy γ st a w R' G he
  ·cases he
 |block id c=>
  simp only[aP] at he;simp only[sites,UG] at hs;refine wp_block (ih c (by simp at hc;omega) (Kf:=fun ms=>za id (Kf ms)) ms (fun s h=>hs s (.inr h)) (jQ.of_nil (hs _ (.inl rfl))) ?_ γ st a w R' G he);intro ex;cases ex with
  |normal=>exact hK .normal
  |exit i=>
   intro γ st a w R' G he;simp only[za] at he;show(if i=id then Q .normal a w else Q (.exit i) a w);split at he;·rename_i h;rw[if_pos h];exact hK .normal γ st a w R' G he
   ·rename_i h;rw[if_neg h];exact hK (.exit i) γ st a w R' G he
  |goto l=>exact hK (.goto l)
  |ret=>exact hK .ret
 |loop c=>
  simp only[aP] at he;simp only[sites] at hs;split at he
  ·rename_i h hl;rw[hl] at hs;simp only[UG] at hs;have hsite:=hs _ (.inr (.inl rfl)) ms;refine uz hE.nl (Q:=(Code.loop c).wp P Q) (fun a w hL=>?_) γ st a w R' G he;refine wp_loop_ghost (ma C E r h ms) E.n hL fun n a w hn=>?_
   obtain⟨γ,x,R1,G1,hx⟩:=hn;cases n with
   |zero=>rw[hsite.1] at hx;cases hx
   |succ m=>
    rw[hsite.2] at hx;refine ih c (by simp at hc;omega) (Kf:=fun ms=>Jc E.nl h ms.tail ms.head! (Kf ms.tail)) (m::ms) (fun s h=>hs s (.inr (.inr h))) (jQ.of_nil (hs _ (.inl rfl))) ?_ γ _ a w R1 G1 hx;intro ex;cases ex with
    |normal=>exact uz hE.nl fun a w hL=>⟨m,Nat.lt_succ_self m,hL⟩
    |exit id=>exact hK (.exit id)
    |goto l=>exact hK (.goto l)
    |ret=>exact hK .ret
  ·cases he
 |exit id=>exact wp_exit (hK (.exit id) γ st a w R' G (by simpa[aP] using he))
 |goto l=>exact wp_goto (hK (.goto l) γ st a w R' G (by simpa[aP] using he))
 |ret=>exact wp_ret (hK .ret γ st a w R' G (by simpa[aP] using he))
 |scope c=>
  simp only[aP] at he;simp only[sites,UG] at hs;have hflag:=hs _ (.inl rfl);have hs':∀s,s∈sites E c (fun ms=>qp (Kf ms))->s.ok E:=fun s h=>hs s (.inr h)
  have straight:(∀l h,l∈dx c->E.lab l=some h->False)->(Code.scope c).wp P Q a w:=by
   intro hno;refine wp_scope_straight (ih c (by simp at hc;omega) (Kf:=fun ms=>qp (Kf ms)) ms hs' (fun l h hl hg=>(hno l h hl hg).elim) ?_ γ st a w R' G he);intro ex;cases ex with
   |normal=>exact hK .normal
   |exit id=>exact hK (.exit id)
   |goto l=>exact fun γ st a w R' G he=>by cases he
   |ret=>exact hK .ret
  simp only[Site.ok,Mh] at hflag;split at hflag;·rename_i hlabs;exact straight fun l h hl=>by rw[hlabs] at hl;simp at hl
  ·rename_i l hlabs;cases hg:E.lab l with
   |none=>
    refine straight fun i h hi hg'=>?_
    rw[hlabs] at hi;simp only[UV] at hi;subst hi;rw[hg] at hg';cases hg'
   |some h=>
    obtain⟨b,hb⟩:=Vn.1 hflag;obtain⟨g1,g2,g3⟩:=lm hg hb hs';refine wp_scope_jumps l (fun a w=>∃n,ma C E r h ms n a w) (fun a w=>leastOf fun n=>ma C E r h ms n a w) (ll hb) ?_ ?_
    ·refine ih c (by simp at hc;omega) (Kf:=fun ms=>qp (Kf ms)) ms hs' (fun i g hi hg'=>?_) ?_ γ st a w R' G he
     ·rw[hlabs] at hi;simp only[UV] at hi;subst hi;rw[hg] at hg';simp only[Uw] at hg';subst hg';exact fun n a w hLp=>⟨rfl,n,hLp⟩
     ·intro ex;cases ex with
      |normal=>exact hK .normal
      |exit id=>exact hK (.exit id)
      |goto l=>exact fun γ st a w R' G he=>by cases he
      |ret=>exact hK .ret
    ·intro a w hJ;have hleast:=(leastOf_spec hJ).1;refine wp_seq (wp_skip ?_);show b.wp P _ a w;generalize hnn:leastOf (fun n=>ma C E r h ms n a w)=n at *;obtain⟨γ,x,R1,G1,hx⟩:=hleast;cases n with
     |zero=>rw[(g2 ms).1] at hx;cases hx
     |succ m=>
      rw[(g2 ms).2] at hx;have hlt:=pG hb;refine ih b (by simp only[Code.scope.sizeOf_spec] at hc;omega) (Kf:=fun ms=>uF E.nl l h ms.tail ms.head! (qp (Kf ms.tail))) (m::ms) g3 (jQ.of_nil g1) ?_ γ _ a w R1 G1 hx;intro ex;cases ex with
      |goto i=>
       intro γ st a w R' G he;have he:(if i=l then goL E.nl h ms m st else none)=some r:=he;obtain⟨e,he2⟩:=aa he;subst e;refine uz hE.nl (fun a' w' hLp=>?_) γ st a w R' G he2;exact show i=i/\(∃n,ma C E r h ms n a' w')/\leastOf (fun n=>ma C E r h ms n a' w')<m+1 from⟨rfl,⟨m,hLp⟩,Nat.lt_succ_of_le ((leastOf_spec ⟨m,hLp⟩).2 m hLp)⟩
      |normal=>exact hK .normal
      |exit id=>exact hK (.exit id)
      |ret=>exact hK .ret
  ·cases hflag
 |rangeFunc f p x y=>cases he
 |refuse why=>cases he
theorem Ah{E:Env R}(hE:lM P C.L C.nl E)(hm:P.follows .mixedOrders=true)(c:Code){Kf:List Nat->iq R}(ms:List Nat){Q:Exit->Act->World->Prop}(hs:∀s,s∈sites E c Kf->s.ok E)(hL:jQ C E r c ms Q)(hK:KOk C E r (Kf ms) Q) :
  jM C E r (fun st=>aP E ms c st (Kf ms)) (c.wp P Q):=yP hE hm _ c (Nat.lt_succ_self _) ms hs hL hK
end
end Rv
namespace Rv
open Go
def zD(te:TypeId->Option TI)(st:St):ResultVar->Option V1
 | .tmp t=>opd st (.tmp t)
 | .cell a t=>match opd st (.tmp a) with
  |some (.c (.ptr k v off))=>dW te st t (.c (.ptr k v off)) some
  |_=>none
def qE(te:TypeId->Option TI)(st:St):List ResultVar->Option (List V1)
 |[]=>some []
 |x::r=>match zD te st x with
  |some v=>match qE te st r with
   |some l=>some (v::l)
   |none=>none
  |none=>none
def De(te:TypeId->Option TI)(rs:List ResultVar)(sp:Spec)(st:St):Option sp.r.T:=
 match qE te st rs with
 |some vs=>if vs.length=sp.r.slots.length/\sp.r.pins sp.a.boxes.length=true then match sp.r.abs ⟨vs.map .v,st.h⟩ with
  |some a=>some a.x
  |none=>none
  else none
 |none=>none
def ut(te:TypeId->Option TI)(rs:List ResultVar)(sp:Spec):iq sp.r.T
 | .normal,st=>De te rs sp st
 | .ret,st=>De te rs sp st
 |_,_=>none
def init(sp:Spec)(N:Nat)(x:sp.a.T):St:=
 let s:=sp.a.mk' nmJ sp.a.slots.length x
 ⟨s.s++List.replicate (N-sp.a.slots.length) V.dead,s.h⟩
section
variable{P:Program}{C:Ctx}{γ:Gam}{w:World}{R:Type}{r:R}
def ET(tmps:Array Value):ResultVar->Sem Value
 | .tmp t=>pure (tmps.getD t undef)
 | .cell b t=>do loadVar t (<- asAddr (tmps.getD b undef))
theorem ES{te:TypeId->Option TI}(hte:∀t i,te t=some i->aS P t i){st:St}{a:Act}(R':Rel C γ w st a.tmps){x:ResultVar}{v:V1}(he:zD te st x=some v) :
  ∃u,aM C γ st.h w v u/\(ET a.tmps x).run P w=.ok u w:=by
 cases x with
 |tmp t=>
  simp only[zD] at he;exact⟨_,(R'.opd he).1,rfl⟩
 |cell b t=>
  simp only[zD] at he;split at he
  ·rename_i k kv off ho;have hb:=(R'.opd ho).1;obtain⟨y,hy,u,hu,hrun⟩:=wW (P:=P) hte R'.inv he hb;simp only[Uw] at hy;subst hy;refine⟨u,hu,?_⟩;have h1:=hrun w (Ext.refl w);unfold dW at he;split at he
   ·rename_i k' kv' off' ti he' _;injection he' with he'
    injection he' with e1 e2 e3
    subst e1 e2 e3;split at he
    ·rename_i l hat
     obtain⟨e,hk,hve,hbox⟩:=aK hat
     obtain⟨g,c,hγ,hv⟩:=hb.2.get hk hve l hbox;have hv':a.tmps.getD b undef=_:=hv;rw[show a.eval (.tmp b)=_ from hv'] at h1;show(do loadVar t (<- asAddr (a.tmps.getD b undef))).run P w=_;rw[hv'];exact h1
    ·cases he
   ·rename_i he' _;simp at he'
   ·rename_i he' _;simp at he'
   ·rename_i he' _;simp at he'
   ·cases he
  ·cases he
theorem vB{te:TypeId->Option TI}(hte:∀t i,te t=some i->aS P t i){st:St}{a:Act}(R':Rel C γ w st a.tmps):∀{l:List ResultVar}{vs:List V1},qE te st l=some vs ->
  ∃us:List Value,ai (aM C γ st.h w) vs us/\(l.mapM (ET a.tmps)).run P w=.ok us w
 |[],vs,he=>by
  simp only[qE,Uw] at he;subst he;exact⟨[],trivial,rfl⟩
 |x::l,vs,he=>by
  simp only[qE] at he;split at he
  ·rename_i v hv;split at he
   ·rename_i l' hl;simp only[Uw] at he;subst he;obtain⟨u,h1,h2⟩:=ES hte R' hv;obtain⟨us,h3,h4⟩:=vB hte R' hl;refine⟨u::us,⟨h1,h3⟩,?_⟩;rw[List.mapM_cons,UJ,h2,Uy,UJ,h4];rfl
   ·cases he
  ·cases he
theorem C8{te:TypeId->Option TI}(hte:∀t i,te t=some i->aS P t i){st:St}{a:Act}(R':Rel C γ w st a.tmps){fn:Func}{vs:List V1}(he:qE te st fn.results.toList=some vs) :
  ∃rs:Array Value,ai (aM C γ st.h w) vs rs.toList/\(results fn a.tmps).run P w=.ok (if h:rs.size=1 then rs[0] else .tuple rs) w:=by
 obtain⟨us,h1,h2⟩:=vB hte R' he;refine⟨us.toArray,h1,?_⟩;have hr:results fn a.tmps=(do
   let vs <- fn.results.mapM (ET a.tmps)
   pure (if h:vs.size=1 then vs[0] else .tuple vs)):=by
  unfold results;congr 1
 rw[hr,Array.mapM_eq_mapM_toList];simp only[UJ,map_eq_pure_bind,h2,Uy,UQ]
theorem S9{L:World->Prop}{f:FuncId}{fn:Func}{c:Code}{sp:Spec}{E:Nat->Env sp.r.T}(hf:P.funcs[f]?=some fn)(hb:fn.body=some c)(hm:P.follows .mixedOrders=true)(hE:∀n,lM P L sp.a.boxes.length (E n))(hN:∀n,(E n).N=fn.ntmps)
  (hle:sp.a.slots.length<=fn.ntmps) (hlabs:(dx c).isEmpty=true) (hs:∀n s,s∈sites (E n) c (fun _=>ut (E n).te fn.results.toList sp)->s.ok (E n))
  (hx:∀x y,sp.f x=some y->∃n,aP (E n) [] c (init sp fn.ntmps x) (ut (E n).te fn.results.toList sp)=some y):Sat P L f sp:=by
 intro x y hy C γ vals hCL hCn R0;subst hCL;rw[<- hCn] at hE;obtain⟨n,hn⟩:=hx x y hy;have hsz:vals.size=sp.a.slots.length:=by
  rw[R0.size];show(aA _ _ _).1.length=_;rw[cz];simp
 refine calls_of_wp hf hb ?_;have Ri:Rel C γ C.w0 (init sp fn.ntmps x) (vals++Array.replicate (fn.ntmps-vals.size) undef):=by
  have hl:(sp.a.mk' nmJ sp.a.slots.length x).s.length=sp.a.slots.length:=by rw[<- R0.size];exact hsz
  refine⟨?_,fun i v hi=>?_,R0.inv⟩;·simp only[init,Array.size_append,Array.size_replicate,UD,Vm,hl,hsz]
  ·simp only[init] at hi;by_cases hlt:i<vals.size
   ·rw[Ve (by rw[hl,<- hsz];exact hlt)] at hi;have:=R0.slot i v hi;simpa[Array.getD_eq_getD_getElem?,Array.getElem?_append,hlt,init] using this
   ·rw[List.getElem?_append_right (by rw[hl,<- hsz];omega),List.getElem?_replicate] at hi;split at hi
    ·simp only[Uw] at hi;subst hi;trivial
    ·cases hi
 refine Ah (C:=C) (r:=y) (hE n) hm c [] (hs n) (Q:=bodyPost P fn _) (jQ.of_nil hlabs) ?_ γ _ _ C.w0 Ri ⟨?_,rfl⟩ hn
 ·have fin:jM C (E n) y (De (E n).te fn.results.toList sp) (fun a w=>a.defers=[]/\∃v,(results fn a.tmps).run P w=.ok v w/\∃(γ':Gam) (rs:Array Value),Ending.returned v=.returned (if h:rs.size=1 then rs[0] else .tuple rs)/\Rel C γ' w (sp.r.mk' nmJ sp.r.slots.length y) rs):=by
   intro γ1 st a w R1 G he;unfold De at he;split at he
   ·rename_i vs hv;obtain⟨⟨hlen,hbx⟩,he'⟩:=aa he;split at he'
    ·rename_i ab hab;simp only[Uw] at he';subst he';obtain⟨rs,ha,hrun⟩:=C8 (hE n).te R1 hv;have Rr:Rel C γ1 w ⟨vs.map .v,st.h⟩ rs:=by
      refine⟨?_,fun i v hi=>?_,R1.inv⟩;·have:=ha.length;simp only[Vb];rw[this];simp
      ·simp only[Vo,Option.map_eq_some_iff] at hi;obtain⟨v1,h1,rfl⟩:=hi;obtain⟨u,hu,hr⟩:=ha.get h1;have:rs.getD i undef=u:=by
        rw[Array.getD_eq_getD_getElem?,<- Array.getElem?_toList,hu];rfl
       rw[this];exact hr
     obtain⟨γ',R2,_⟩:=tX hab Rr G8 R1.inv.invW (fun d g ho _ _=>ho.1) (fun k e g c l _ hk hb hg=>R1.inv.rd g (R1.inv.own k e g c hk (by rw[hb];trivial) hg)) (fun k e g c _ hk hl hg=>R1.inv.own k e g c hk hl hg)
      (fun i hi=>by
       obtain⟨h1,e,h2,h3⟩:=DC hab hbx i (by omega);obtain⟨e',h4,h5⟩:=R1.inv.lent i hi;simp only at h2;rw[h2] at h4;simp only[Uw] at h4;subst h4;exact⟨rfl,_,h1,h5 h3⟩)
     have hl2:(vs.map V.v).length=sp.r.slots.length:=by rw[Vb];exact hlen
     rw[hl2] at R2;exact⟨G.defers,_,hrun,γ',rs,rfl,R2⟩
    ·cases he'
   ·cases he
  intro ex;cases ex with
  |normal=>exact fin
  |ret=>exact fin
  |exit id=>exact fun γ1 st a w R1 G he=>by cases he
  |goto l=>exact fun γ1 st a w R1 G he=>by cases he
 ·simp only[Array.size_append,Array.size_replicate,hN n,hsz];omega
end
end Rv
namespace Rv
open Go
def EI:Cell->Value->Bool
 | .int k n,.int j m=>decide (k=j)&&decide (n=m)
 | .bool b,.bool c=>b == c
 | .str s,.string t=>decide (t.data.toList=s)
 | .nilS,.slice none 0 0=>true
 | .raw .nilIface,.nilIface=>true
 | .raw (.pointer none),.pointer none=>true
 | .raw .nilFunc,.nilFunc=>true
 |_,_=>false
def wB:List Cell->List Value->Bool
 |[],[]=>true
 |c::l,v::m=>EI c v&&wB l m
 |_,_=>false
def KL(P:Program)(f:Nat×Nat×Bool)(fd:Field):Bool:=
 decide (fd.offset=f.1)&&decide (0<f.2.1)&&(match P.info? fd.type with|some inf=>decide (inf.size=f.2.1)|none=>false) &&
  (match P.underlying fd.type with|some d=>gP d == f.2.2|none=>false)
def fieldsB(P:Program):List (Nat×Nat×Bool)->List Field->Bool
 |[],[]=>true
 |f::l,g::m=>KL P f g&&fieldsB P l m
 |_,_=>false
def yN(P:Program)(rec:TypeId->Ty->Bool):List Field->Nat->Ty->Bool
 |[],_,.nil=>true
 |f::fs,off,.pair A B=>!(f.name == "_")&&decide (f.offset=off)&&rec f.type A&&(match P.info? f.type with|some inf=>decide (inf.size=A.size)|none=>false) &&
  (match P.underlying f.type with|some d=>gP d == A.isAgg|none=>false)&&yN P rec fs (off+A.size) B
 |_,_,_=>false
def oL:Option TypeDesc->Bool
 |some (.struct _)=>true
 |_=>false
def eqB(P:Program):Nat->TypeId->Ty->Bool
 |0,_,_=>false
 |d+1,t,T=>match T with
  | .int k=>match P.underlying t with|some (.int k')=>decide (k'=k)|_=>false
  | .bool=>match P.underlying t with|some .bool=>true|_=>false
  | .str=>match P.underlying t with|some .string=>true|_=>false
  | .sl _=>false
  | .fn=>false
  | .nil=>oL (P.underlying t)&&!(P.stoodInHeld t)&&yN P (eqB P d) (P.fieldsOf t).toList 0 .nil
  | .pair a b=>oL (P.underlying t)&&!(P.stoodInHeld t)&&yN P (eqB P d) (P.fieldsOf t).toList 0 (.pair a b)
def kY(P:Program)(t:TypeId)(i:TI):Bool:=
 match P.info? t,P.underlying t with
 |some inf,some d=>
  decide (inf.size=i.size)&&decide (inf.bytes=i.bytes)&&(match inf.zero with|some z=>decide (z.cells.size=i.size)&&wB i.zero z.cells.toList|none=>false) &&
  (gP d == i.agg)&&(i.fields.isEmpty||match d with | .struct fs=>fieldsB P i.fields fs.toList|_=>false) &&
  (match i.elem with|none=>true|some e=>match d with | .slice e'=>decide (e'=e)|_=>false) &&
  (match i.int with|none=>true|some k=>match d with | .int k'=>decide (k'=k)|_=>false) &&
  (!i.str||match d with | .string=>true|_=>false) &&
  (match i.ty with|none=>true|some T=>decide (T.size=i.size)&&(T.isAgg == i.agg)&&(match T with | .bool=>(match d with | .bool=>true|_=>false)|_=>true)) &&
  (!i.iface||match d with | .interface _=>true|_=>false) &&
  (match i.eq with|none=>true|some T=>eqB P 20 t T&&!T.hasSl&&T.isAgg&&!(P.eqGuardType P.depth t)) &&
  (!i.cmp||inf.comparable)&&(i.iface||match d with | .interface _=>false|_=>true) &&
  (match i.arr with|none=>true|some n=>match d with | .array m e=>decide (m=n)&&(match P.info? e,P.underlying e with|some ie,some de=>decide (0<n)&&(decide (ie.size=i.size / n)&&(!decide (i.size=n)||!gP de))|_,_=>false)|_=>false)
 |_,_=>false
section
variable{P:Program}
theorem EJ{c:Cell}{v:Value}(h:EI c v=true):c.plain=some v:=by
 unfold EI at h;split at h;·simp only[UB,UE] at h;rw[h.1,h.2];rfl
 ·simp only[beq_iff_eq] at h;rw[h];rfl
 ·simp only[UE] at h;subst h;rfl
 ·rfl
 ·rfl
 ·rfl
 ·rfl
 ·cases h
theorem tN:∀{l:List Cell}{m:List Value},wB l m=true->ai (fun c v=>c.plain=some v) l m
 |[],[],_=>trivial
 |c::l,v::m,h=>by
  simp only[wB,UB] at h;exact⟨EJ h.1,tN h.2⟩
 |[],_::_,h=>by cases h
 |_::_,[],h=>by cases h
theorem tF:∀{l:List (Nat×Nat×Bool)}{m:List Field},fieldsB P l m=true->ai (fun(f:Nat×Nat×Bool) (fd:Field)=>fd.offset=f.1/\0<f.2.1/\(∃inf,P.info? fd.type=some inf/\inf.size=f.2.1) /\
  ∃d,P.underlying fd.type=some d/\gP d=f.2.2) l m
 |[],[],_=>trivial
 |f::l,g::m,h=>by
  simp only[fieldsB,UB] at h;refine⟨?_,tF h.2⟩;have h:=h.1;unfold KL at h;simp only[UB,UE] at h;obtain⟨⟨⟨h1,h2⟩,h3⟩,h4⟩:=h;refine⟨h1,h2,?_,?_⟩
  ·split at h3
   ·rename_i inf hi;exact⟨inf,hi,by simpa using h3⟩
   ·cases h3
  ·split at h4
   ·rename_i d hd;exact⟨d,hd,by simpa using h4⟩
   ·cases h4
 |[],_::_,h=>by cases h
 |_::_,[],h=>by cases h
theorem qI{t:TypeId}(h:oL (P.underlying t)=true):P.underlying t=some (.struct (P.fieldsOf t)):=by
 unfold oL at h;split at h;·rename_i fs hu;rw[hu];simp[Program.fieldsOf,hu]
 ·cases h
theorem pz{rb:TypeId->Ty->Bool}{rp:TypeId->Ty->Prop}(hr:∀t T,rb t T=true->rp t T):∀{fs:List Field}{off:Nat}{T:Ty},yN P rb fs off T=true->Dr P rp fs off T
 |[],off,.nil,_=>trivial
 |f::fs,off,.pair A B,h=>by
  simp only[yN,UB,UE,Bool.not_eq_true'] at h;obtain⟨⟨⟨⟨⟨h1,h2⟩,h3⟩,h4⟩,h5⟩,h6⟩:=h;refine⟨h1,h2,hr _ _ h3,?_,?_,pz hr h6⟩
  ·split at h4
   ·rename_i inf hi;exact⟨inf,hi,by simpa using h4⟩
   ·cases h4
  ·split at h5
   ·rename_i d hd;exact⟨d,hd,by simpa using h5⟩
   ·cases h5
 |[],_,.int _,h|[],_,.bool,h|[],_,.str,h|[],_,.sl _,h|[],_,.pair _ _,h|[],_,.fn,h=>by cases h
 |_::_,_,.int _,h|_::_,_,.bool,h|_::_,_,.str,h|_::_,_,.sl _,h|_::_,_,.nil,h|_::_,_,.fn,h=>by cases h
theorem uw:∀{d:Nat}{t:TypeId}{T:Ty},eqB P d t T=true->zR P d t T
 |0,_,_,h=>by cases h
 |d+1,t,T,h=>by
  cases T with
  |int k=>
   simp only[eqB] at h;split at h
   ·rename_i k' hu;have:k'=k:=by simpa using h
    subst this;exact hu
   ·cases h
  |bool=>
   simp only[eqB] at h;split at h;·rename_i hu;exact hu
   ·cases h
  |str=>
   simp only[eqB] at h;split at h;·rename_i hu;exact hu
   ·cases h
  |sl t=>cases h
  |fn=>cases h
  |nil=>
   simp only[eqB,UB,Bool.not_eq_true'] at h;exact⟨qI h.1.1,h.1.2,pz (fun t T hh=>uw hh) h.2⟩
  |pair a b=>
   simp only[eqB,UB,Bool.not_eq_true'] at h;exact⟨qI h.1.1,h.1.2,pz (fun t T hh=>uw hh) h.2⟩
theorem CS{t:TypeId}{i:TI}(h:kY P t i=true):aS P t i:=by
 unfold kY at h;split at h
 ·rename_i inf d hi hd;simp only[UB,UE] at h;obtain⟨⟨⟨⟨⟨⟨⟨⟨⟨⟨⟨⟨⟨h1,h2⟩,h3⟩,h4⟩,h5⟩,h6⟩,h7⟩,h8⟩,h9⟩,h10⟩,h11⟩,h12⟩,h13⟩,h14⟩:=h;refine⟨?_,⟨d,hd,by simpa using h4⟩,?_,?_,?_,?_,?_,?_,?_,?_,?_,?_,?_⟩
  ·split at h3
   ·rename_i z hz;simp only[UB,UE] at h3;exact⟨inf,hi,h1,h2,z,hz,h3.1,tN h3.2⟩
   ·cases h3
  ·simp only[Bool.or_eq_true,List.isEmpty_iff] at h5;rcases h5 with h5|h5
   ·exact .inl h5
   ·split at h5
    ·rename_i fs;exact .inr ⟨fs,hd,tF h5⟩
    ·cases h5
  ·intro e he;rw[he] at h6;simp only at h6;split at h6
   ·rename_i e';have:e'=e:=by simpa using h6
    rw[hd,this]
   ·cases h6
  ·intro k hk;rw[hk] at h7;simp only at h7;split at h7
   ·rename_i k';have:k'=k:=by simpa using h7
    rw[hd,this]
   ·cases h7
  ·intro hs;rw[hs] at h8;simp only[Bool.not_true,Bool.false_or] at h8;split at h8
   ·exact hd
   ·cases h8
  ·intro T hT;rw[hT] at h9;simp only[UB,UE] at h9;exact⟨h9.1.1,by simpa using h9.1.2⟩
  ·intro hT;rw[hT] at h9;simp only[UB,UE] at h9;have h:=h9.2;split at h
   ·exact hd
   ·cases h
  ·intro hi;rw[hi] at h10;simp only[Bool.not_true,Bool.false_or] at h10;split at h10
   ·exact⟨_,hd⟩
   ·cases h10
  ·intro hc;rw[hc] at h12;exact⟨inf,hi,by simpa using h12⟩
  ·intro hni ms hms;rw[hni] at h13;rw[hd] at hms;simp only[Uw] at hms;subst hms;simp at h13
  ·intro T hT;rw[hT] at h11;simp only[UB,Bool.not_eq_true'] at h11;exact⟨uw h11.1.1.1,h11.1.1.2,h11.1.2,h11.2⟩
  ·intro n hn;rw[hn] at h14;simp only at h14;split at h14
   ·rename_i m e;simp only[UB,UE] at h14;obtain⟨hm,h14⟩:=h14;split at h14
    ·rename_i ie de hie hde;simp only[UB,Bool.or_eq_true,UE,Bool.not_eq_true',decide_eq_false_iff_not] at h14;refine⟨h14.1,e,by rw[hd,hm],fun w=>?_,fun hs w=>?_⟩
     ·simp[Go.sizeOf,typeInfo,hie,h14.2.1]
     ·have:(Go.isAgg e).run P w=.ok (gP de) w:=by
       simp only[Go.isAgg,UJ,run_underlying hde,Uy];cases de<;>rfl
      rw[(h14.2.2.resolve_left fun h=>h hs)] at this;exact this
    ·cases h14
   ·cases h14
 ·cases h
def Ps(l:List (TypeId×TI)):TypeId->Option TI:=fun t=>(l.find? fun p=>p.1 == t).map (·.2)
theorem RH{l:List (TypeId×TI)}(h:(l.all fun p=>kY P p.1 p.2)=true):∀t i,Ps l t=some i->aS P t i:=by
 intro t i he;unfold Ps at he;simp only[Option.map_eq_some_iff] at he;obtain⟨p,hp,rfl⟩:=he;have h1:=List.find?_some hp;have h2:=List.mem_of_find?_eq_some hp;simp only[beq_iff_eq] at h1;subst h1;exact CS (UT.1 h p h2)
def Fj(l:List ((FuncId×List FuncId)×Spec)):FuncId->List FuncId->Option Spec:=fun f ids=>(l.find? fun p=>p.1.1 == f&&p.1.2 == ids).map (·.2)
theorem Mr{L:World->Prop}{l:List ((FuncId×List FuncId)×Spec)}(h:∀p,p∈l->Sat P L p.1.1 p.2/\aB P p.1.1):∀f ids sp,Fj l f ids=some sp->Sat P L f sp/\aB P f:=by
 intro f ids sp he;unfold Fj at he;simp only[Option.map_eq_some_iff] at he;obtain⟨p,hp,rfl⟩:=he;have h1:=List.find?_some hp;have h2:=List.mem_of_find?_eq_some hp;simp only[UB,beq_iff_eq] at h1;obtain⟨rfl,_⟩:=h1;exact h p h2
theorem il{L:World->Prop}:∀p,p∈([]:List ((FuncId×List FuncId)×Spec))->Sat P L p.1.1 p.2/\aB P p.1.1:=fun p hp=>by simp at hp
theorem eX{L:World->Prop}{f:FuncId}{ids:List FuncId}{sp:Spec}{l:List ((FuncId×List FuncId)×Spec)}(h1:Sat P L f sp)(h2:aB P f)(h:∀p,p∈l->Sat P L p.1.1 p.2/\aB P p.1.1):∀p,p∈((f,ids),sp)::l->Sat P L p.1.1 p.2/\aB P p.1.1:=fun p hp=>by
 rcases UG.1 hp with rfl|hp;·exact⟨h1,h2⟩
 ·exact h p hp
theorem ko{L:World->Prop}{f:FuncId}{sp:Spec}(h:∀x,sp.f x=none):Sat P L f sp:=fun x y hy=>by rw[h x] at hy;cases hy
variable{R:Type}
def Site.lhs(E:Env R):Site R->List ((T:Type)×T)
 | .join h _ _=>[⟨List Nat->h.sh.T->Option R,h.j⟩]
 | .loop h _ _=>[⟨List Nat->h.sh.T->Option R,fun ms x=>h.l ms 0 x⟩,⟨List Nat->Nat->h.sh.T->Option R,fun ms m x=>h.l ms (m+1) x⟩]
 | .flag b=>[⟨Bool,b⟩]
def Site.rhs(E:Env R):Site R->List ((T:Type)×T)
 | .join h b K=>[⟨List Nat->h.sh.T->Option R,fun ms x=>aP E ms b (h.sh.mk' nmJ E.N x) (K ms)⟩]
 | .loop h c K=>[⟨List Nat->h.sh.T->Option R,fun _ _=>none⟩,⟨List Nat->Nat->h.sh.T->Option R,fun ms m x=>aP E (m::ms) c (h.sh.mk' nmJ E.N x) (K ms m)⟩]
 | .flag _=>[⟨Bool,true⟩]
theorem RA{E:Env R}{s:Site R}(h:s.lhs E=s.rhs E):s.ok E:=by
 cases s with
 |join h0 b K=>
  simp only[Site.lhs,Site.rhs,List.cons.injEq,and_true] at h;have h1:=eq_of_heq (Sigma.mk.inj h).2;intro ms x;rw[h1]
 |loop h0 c K=>
  simp only[Site.lhs,Site.rhs,List.cons.injEq,and_true] at h;have h1:=eq_of_heq (Sigma.mk.inj h.1).2;have h2:=eq_of_heq (Sigma.mk.inj h.2).2;intro ms;exact⟨fun x=>congrFun (congrFun h1 ms) x,fun m x=>congrFun (congrFun (congrFun h2 ms) m) x⟩
 |flag b=>
  simp only[Site.lhs,Site.rhs,List.cons.injEq,and_true] at h;exact eq_of_heq (Sigma.mk.inj h).2
theorem Ph{E:Env R}{l:List (Site R)}(h:l.map (Site.lhs E)=l.map (Site.rhs E)):∀s,s∈l->s.ok E:=by
 induction l with
 |nil=>intro s hs;simp at hs
 |cons a l ih=>
  simp only[UO,List.cons.injEq] at h;intro s hs;rcases UG.1 hs with rfl|hs;·exact RA h.1
  ·exact ih h.2 s hs
def funcOf(P:Program)(f:FuncId):Func:=(P.funcs[f]?).getD default
def jc(P:Program)(f:FuncId):Code:=(funcOf P f).body.getD .skip
def sF(P:Program)(f:FuncId):List ResultVar:=(funcOf P f).results.toList
theorem aL{P:Program}{f:FuncId} (h:((P.funcs[f]?).map fun fn=>fn.body.isSome&&!(fn.name == "runtime.NumGoroutine"))=some true):aB P f:=by
 cases hf:P.funcs[f]? with
 |none=>rw[hf] at h;cases h
 |some fn=>
  rw[hf] at h;simp only[Vh,Uw,UB,Bool.not_eq_true'] at h;exact⟨fn,hf,h.1,h.2⟩
theorem SY{P:Program}{L:World->Prop}{f:FuncId}{sp:Spec}{E:Nat->Env sp.r.T}(hm:P.follows .mixedOrders=true)(hen:aB P f)(hte:∀n t i,(E n).te t=some i->aS P t i)(hspec:∀n g ids s,(E n).spec g ids=some s->Sat P L g s/\aB P g)(hnl:∀n,(E n).nl=sp.a.boxes.length)(hmaps:∀n,pY P L (E n).maps)
  (hN:∀n,(E n).N=(funcOf P f).ntmps) (hle:sp.a.slots.length<=(funcOf P f).ntmps) (hlabs:(dx (jc P f)).isEmpty=true) {g:Nat->sp.a.T->Option sp.r.T} (B:sp.a.T->Nat)
  (hs:∀n,(sites (E n) (jc P f) (fun _=>ut (E n).te (sF P f) sp)).map (Site.lhs (E n))=(sites (E n) (jc P f) (fun _=>ut (E n).te (sF P f) sp)).map (Site.rhs (E n)))
  (hx:∀n,(fun x=>aP (E n) [] (jc P f) (init sp (funcOf P f).ntmps x) (ut (E n).te (sF P f) sp))=g n) (hsp:∀x,sp.f x=g (B x) x):Sat P L f sp:=by
 obtain⟨fn,hf,hb,_⟩:=hen;have e1:funcOf P f=fn:=by simp[funcOf,hf]
 cases hc:fn.body with
 |none=>rw[hc] at hb;cases hb
 |some c=>
  have e2:jc P f=c:=by simp[jc,e1,hc]
  rw[e1] at hN hle;rw[e2] at hlabs;unfold sF at hs hx;simp only[e1,e2] at hs hx;refine S9 (E:=E) hf hc hm (fun n=>⟨hte n,hspec n,hnl n,hmaps n⟩) hN hle hlabs (fun n=>Ph (hs n)) fun x y hy=>⟨B x,?_⟩
  rw[hsp] at hy;have h1:=congrFun (hx (B x)) x;exact Eq.trans h1 hy
def Cur:List CD->Type->Type
 |[],R=>R
 | .ptr _ _::r,R=>Cur r R
 | .clr _ _::r,R=>Cur r R
 | .slc t::r,R=>List t.D->Cur r R
 | .raw _::r,R=>Cur r R
 | .any::r,R=>Cur r R
 | .int _::r,R=>Int->Cur r R
 | .bool::r,R=>Bool->Cur r R
 | .str::r,R=>Str->Cur r R
 | .sl t::r,R=>List t.D->Cur r R
 | .row _ t::r,R=>List t.D->Cur r R
 | .err::r,R=>Bool->Cur r R
 | .ifo _ _::r,R=>Option Int->Cur r R
 | .fn::r,R=>Fn->Cur r R
 | .pp t::r,R=>t.D->Cur r R
def ap:(l:List CD)->{R:Type}->Cur l R->TL l->R
 |[],_,g,_=>g
 | .ptr _ _::r,_,g,x=>ap r g x.2
 | .clr _ _::r,_,g,x=>ap r g x.2
 | .slc _::r,_,g,x=>ap r (g x.1) x.2
 | .raw _::r,_,g,x=>ap r g x.2
 | .any::r,_,g,x=>ap r g x.2
 | .int _::r,_,g,x=>ap r (g x.1) x.2
 | .bool::r,_,g,x=>ap r (g x.1) x.2
 | .str::r,_,g,x=>ap r (g x.1) x.2
 | .sl _::r,_,g,x=>ap r (g x.1) x.2
 | .row _ _::r,_,g,x=>ap r (g x.1) x.2
 | .err::r,_,g,x=>ap r (g x.1) x.2
 | .ifo _ _::r,_,g,x=>ap r (g x.1) x.2
 | .fn::r,_,g,x=>ap r (g x.1) x.2
 | .pp _::r,_,g,x=>ap r (g x.1) x.2
def af(a r:Shape)(g:Cur a.all (Option r.T)):Spec:=⟨a,r,ap a.all g⟩
def tj(k:Nat)(sh:Shape)(j:List Nat->Cur sh.all (Option R))(rest:Nat->Option (JH R)):Nat->Option (JH R):=fun r=>if r=k then some ⟨sh,fun ms x=>ap sh.all (j ms) x⟩ else rest r
def tl(k:Nat)(sh:Shape)(l:List Nat->Nat->Cur sh.all (Option R))(rest:Nat->Option (LH R)):Nat->Option (LH R):=fun r=>if r=k then some ⟨sh,fun ms m x=>ap sh.all (l ms m) x⟩ else rest r
def tn{α:Type}:Nat->Option α:=fun _=>none
def t0{α:Type}:Nat->Nat->Option α:=fun _ _=>none
abbrev ki:CD:=.int .i64
abbrev ku:CD:=.int .u32
abbrev kb:CD:=.int .u8
abbrev kq:CD:=.int .u64
abbrev Si:SD:=.c ki
abbrev Su:SD:=.c ku
abbrev Sb:SD:=.c kb
abbrev Ss:SD:=.c .str
abbrev SB:SD:=.c .bool
abbrev Se:SD:=.c .err
abbrev Sp(i o:Nat):SD:=.c (.ptr i o)
abbrev tI(t:TypeId)(k:IntKind)(b:Nat):TypeId×TI:=(t,⟨1,false,b,[.int k 0],[],none,some (.int k),some k,false,false,true,none,none⟩)
abbrev tB(t:TypeId)(b:Nat):TypeId×TI:=(t,⟨1,false,b,[.bool false],[],none,some .bool,none,false,false,false,none,none⟩)
abbrev tS(t:TypeId)(b:Nat):TypeId×TI:=(t,⟨1,false,b,[.str []],[],none,some .str,none,true,false,false,none,none⟩)
abbrev tL(t e:TypeId)(T:Ty):TypeId×TI:=(t,⟨1,false,24,[.nilS],[],some e,some (.sl T),none,false,false,false,none,none⟩)
structure TF (P:Program) (L:World->Prop) where
 f:FuncId
 ids:List FuncId
 sp:Spec
 sat:Sat P L f sp
 ent:aB P f
def TF.kv{L:World->Prop}(t:TF P L):(FuncId×List FuncId)×Spec:=((t.f,t.ids),t.sp)
theorem iR{L:World->Prop}(t:TF P L){l:List ((FuncId×List FuncId)×Spec)}(h:∀p,p∈l->Sat P L p.1.1 p.2/\aB P p.1.1):∀p,p∈t.kv::l->Sat P L p.1.1 p.2/\aB P p.1.1:=eX t.sat t.ent h
def kvs{L:World->Prop}(l:List (TF P L)):List ((FuncId×List FuncId)×Spec):=l.map TF.kv
theorem K3{L:World->Prop}:∀(l:List (TF P L)),∀p,p∈kvs l->Sat P L p.1.1 p.2/\aB P p.1.1
 |[]=>il
 |t::l=>iR t (K3 l)
def fnB(P:Program)(f:FuncId)(N k:Nat):Bool:=match P.funcs[f]? with
 |some fn=>(fn.body.isSome&&!(fn.name == "runtime.NumGoroutine"))&&decide (fn.ntmps=N)&&decide (k<=N)&&(dx (fn.body.getD .skip)).isEmpty
 |none=>false
theorem BG{P:Program}{f:FuncId}{N k:Nat}(h:fnB P f N k=true):aB P f/\(funcOf P f).ntmps=N/\k<=N/\(dx (jc P f)).isEmpty=true:=by
 unfold fnB at h;split at h
 ·rename_i fn hf;simp only[UB,UE,Bool.not_eq_true'] at h;have e1:funcOf P f=fn:=by simp[funcOf,hf]
  exact⟨⟨fn,hf,h.1.1.1.1,h.1.1.1.2⟩,by rw[e1];exact h.1.1.2,h.1.2,by unfold jc;rw[e1];exact h.2⟩
 ·cases h
abbrev mF(te:List (TypeId×TI))(mp:Nat->TypeId->Option (Cell->Option (Cell×Bool)))(S:List ((FuncId×List FuncId)×Spec))(J:Nat->Nat->Option (JH R))(Lp G:Nat->Nat->Option (LH R))(N nl:Nat)(fns:List Fn)(n:Nat):Env R:=⟨Ps te,Fj S,J n,Lp n,G n,n,N,nl,mp,fns⟩
def sL(P:Program)(f:FuncId)(sp:Spec)(E:Env sp.r.T):=(sites E (jc P f) (fun _=>ut E.te (sF P f) sp)).map (Site.lhs E)
def sR(P:Program)(f:FuncId)(sp:Spec)(E:Env sp.r.T):=(sites E (jc P f) (fun _=>ut E.te (sF P f) sp)).map (Site.rhs E)
def EZ(P:Program)(f:FuncId)(sp:Spec)(N:Nat)(E:Env sp.r.T):sp.a.T->Option sp.r.T:=fun x=>aP E [] (jc P f) (init sp N x) (ut E.te (sF P f) sp)
theorem o5{P:Program}{L:World->Prop}{te:List (TypeId×TI)}(hm:P.follows .mixedOrders=true)(hte:(te.all fun p=>kY P p.1 p.2)=true){mp:Nat->TypeId->Option (Cell->Option (Cell×Bool))}(hmp:pY P L mp)(f:FuncId)(sp:Spec)
  (S:List ((FuncId×List FuncId)×Spec)) (hS:∀p,p∈S->Sat P L p.1.1 p.2/\aB P p.1.1) (J:Nat->Nat->Option (JH sp.r.T)) (Lp G:Nat->Nat->Option (LH sp.r.T)) (N:Nat) (fns:List Fn) (g:Nat->Cur sp.a.all (Option sp.r.T)) (B:Cur sp.a.all Nat)
  (h1:(fnB P f N sp.a.slots.length,sp.f)=(true,fun x=>ap sp.a.all (g (ap sp.a.all B x)) x))
  (h2:(fun(n:Nat)=>sL P f sp (mF te mp S J Lp G N sp.a.boxes.length fns n),fun n=>EZ P f sp N (mF te mp S J Lp G N sp.a.boxes.length fns n))=(fun n=>sR P f sp (mF te mp S J Lp G N sp.a.boxes.length fns n),fun n=>ap sp.a.all (g n))):Sat P L f sp:=by
 obtain⟨a1,a2,a3,a4⟩:=BG (congrArg Prod.fst h1);exact SY (E:=mF te mp S J Lp G N sp.a.boxes.length fns) hm a1 (fun _=>RH hte) (fun _=>Mr hS) (fun _=>rfl) (fun _=>hmp) (fun _=>a2.symm) (by rw[a2];exact a3) a4 (g:=fun n=>ap sp.a.all (g n)) (ap sp.a.all B) (fun n=>congrFun (congrArg Prod.fst h2) n) (by rw[a2];exact fun n=>congrFun (congrArg Prod.snd h2) n) (fun x=>congrFun (congrArg Prod.snd h1) x)
def SA{P:Program}{L:World->Prop}(te:List (TypeId×TI))(hm:P.follows .mixedOrders=true)(hte:(te.all fun p=>kY P p.1 p.2)=true)(mp:Nat->TypeId->Option (Cell->Option (Cell×Bool)))(hmp:pY P L mp)(f:FuncId)(ids:List FuncId)(sp:Spec)
  (S:List (TF P L)) (J:Nat->Nat->Option (JH sp.r.T)) (Lp G:Nat->Nat->Option (LH sp.r.T)) (N:Nat) (fns:List Fn) (g:Nat->Cur sp.a.all (Option sp.r.T)) (B:Cur sp.a.all Nat)
  (h1:(fnB P f N sp.a.slots.length,sp.f)=(true,fun x=>ap sp.a.all (g (ap sp.a.all B x)) x))
  (h2:(fun(n:Nat)=>sL P f sp (mF te mp (kvs S) J Lp G N sp.a.boxes.length fns n),fun n=>EZ P f sp N (mF te mp (kvs S) J Lp G N sp.a.boxes.length fns n))=(fun n=>sR P f sp (mF te mp (kvs S) J Lp G N sp.a.boxes.length fns n),fun n=>ap sp.a.all (g n))):TF P L:=
 ⟨f,ids,sp,o5 hm hte hmp f sp (kvs S) (K3 S) J Lp G N fns g B h1 h2,(BG (congrArg Prod.fst h1)).1⟩
def mkT{P:Program}{L:World->Prop}(te:List (TypeId×TI))(hm:P.follows .mixedOrders=true)(hte:(te.all fun p=>kY P p.1 p.2)=true)(mp:Nat->TypeId->Option (Cell->Option (Cell×Bool)))(hmp:pY P L mp)(f:FuncId)(ids:List FuncId)(sp:Spec)
  (S:List (TF P L)) (J:Nat->Nat->Option (JH sp.r.T)) (Lp G:Nat->Nat->Option (LH sp.r.T)) (N:Nat) (fns:List Fn) (g:Nat->Cur sp.a.all (Option sp.r.T)) (B:Cur sp.a.all Nat)
  (h:((fnB P f N sp.a.slots.length,sp.f),(fun(n:Nat)=>sL P f sp (mF te mp (kvs S) J Lp G N sp.a.boxes.length fns n),fun n=>EZ P f sp N (mF te mp (kvs S) J Lp G N sp.a.boxes.length fns n)))=((true,fun x=>ap sp.a.all (g (ap sp.a.all B x)) x),(fun n=>sR P f sp (mF te mp (kvs S) J Lp G N sp.a.boxes.length fns n),fun n=>ap sp.a.all (g n)))):TF P L:=
 SA te hm hte mp hmp f ids sp S J Lp G N fns g B (congrArg Prod.fst h) (congrArg Prod.snd h)
theorem ol{P:Program}{L:World->Prop}{f:FuncId}{sp:Spec}{F:Nat->Cur sp.a.all (Option sp.r.T)}(B:Cur sp.a.all Nat)(h:∀q,Sat P L f (af sp.a sp.r (F q)))(hsp:∀x,sp.f x=ap sp.a.all (F (ap sp.a.all B x)) x):Sat P L f sp:=
 fun x y hy=>h (ap sp.a.all B x) x y (by rw[hsp] at hy;exact hy)
end
end Rv
