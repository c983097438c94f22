/- Texts put together. -/
import Derived.Test.YtfphlcngbllgoaaGreatDoorA3
import Derived.Lib.ConvBytes
import Derived.Deep.LoopGhost
set_option linter.all false
open Option renaming some→O,none→zaf
open _root_ renaming Option→W,List→Z,if_pos→zab,Bool→zai,if_neg→zak,congrArg→zan
open Bool renaming true→zac,false→zad
open Go renaming TypeId→zae,World→zah,Value→zal
open Decidable renaming decide→zaj
namespace Rv
open Go
def nk(P:Program)(L:zah->Prop)(M:Nat->zae->W (Cell->W (Cell×zai))):Prop:=
 ∀g t F,M g t=O F->∃v:zal,v.oneCell'=zac/\∀w,L w->w.cell? ⟨g,0,zaf⟩=O v/\(Instr.loadAt t (.pointer (O ⟨g,0,zaf⟩))).run P w=.ok v w /\
  ∀kc kv p,(∀s,kc=.str s->kv=.string (mkS s))->(∀k n,kc=.int k n->kv=.int k n)->F kc=O p->∃rv,p.1.plain=O rv/\∀ok,(Instr.lookup t v kv ok).run P w=.ok (if ok=zac then .tuple #[rv,.bool p.2] else rv) w
structure jR (P:Program) (L:zah->Prop) (nl:Nat) {R:Type} (E:Env R):Prop where
 te:∀t i,E.te t=O i->aN P t i
 spec:∀f ids sp,E.spec f ids=O sp->Sat P L f sp/\aC P f
 nl:E.nl=nl
 maps:nk P L E.maps
section
variable{P:Program}{C C':Ctx}{γ γ':Gam}{h h':Heap}{w w':zah}{R:Type}{r:R}
theorem fq{f:FuncId}(he:aC P f)(args:Array zal)(w:zah):(callFunc f args).run P w=.ok (.enter f args) w:=by
 obtain⟨fn,hf,hb,hn⟩:=he;have hb':fn.body.isNone=zad:=by cases h:fn.body<;>simp_all
 have h1:¬fn.name = "runtime.NumGoroutine" := λe=>by simp[e] at hn
 have h2:¬fn.body=zaf:=λe=>by simp[e] at hb
 simp[callFunc,go_sem,hf];rw[zak h1,zak h2]
theorem Hy{te:zae->W TI}(hte:∀t i,te t=O i->aN P t i){st:St}{a:Act}(R':Rel C γ w st a.tmps){o:Oper}{rd:Z Nat}{K:Dl->W R}(he:(vop te st o.op λv=>K ⟨v,rd,[]⟩)=O r) :
  ∃x,K x=O r/\eY P C w st a o x:=by
 obtain⟨y,val,hk,hr,hrun⟩:=HV hte R' he;refine⟨⟨y,rd,[]⟩,hk,λnext Q hn=>dM (hrun w (Ext.refl w)) (hn γ w val ?_)⟩;exact R'.put o.dst hr
theorem qX(a:Act)(args:Array Operand):(args.toList.map a.eval).toArray=args.map a.eval:=by
 apply Array.ext';simp
theorem oI{h:Heap}:∀{cs:Z Cell}{caps:Z zal},aj (av C γ h w) cs caps->aj (aZ C γ h w) (cs.map λc=>V.v (.c c)) caps
 |[],[],_=>trivial
 |[],_::_,h=>h.elim
 |_::_,[],h=>h.elim
 |_::_,_::_,h=>⟨h.1,oI h.2⟩
theorem DW{st:St}{a:Act}(R':Rel C γ w st a.tmps){o:Oper}{c:Operand}{args:Array Operand}{argTypes:Array zae}(ho:o.op=.call { callee:=.value c,args,argTypes }){f:FuncId}{cs:Z Cell}
  (hc:jb st c=O (f,cs)) (he:aC P f):∃caps:Z zal,aj (av C γ st.h w) cs caps/\(execOp a.eval o).run P w=.ok (.enter f ((args.toList.map a.eval).toArray++caps.toArray)) w:=by
 rw[qX];obtain⟨dst,op,ty,pos,after,guard⟩:=o;simp only at ho;subst ho;unfold jb at hc;split at hc;·simp only[ND,NI] at hc;obtain⟨rfl,rfl⟩:=hc;refine⟨[],trivial,?_⟩;rw[execOp_call_go,fq he];simp
 ·rename_i t;split at hc
  ·rename_i f' cs' hs;obtain⟨hlt,hc⟩:=aa hc;simp only[ND,NI] at hc;obtain⟨rfl,rfl⟩:=hc;obtain⟨caps,hv,ha⟩:=R'.slot t _ hs;refine⟨caps,ha,?_⟩;have hx:execOp a.eval { dst,op:=.call { callee:=.value (.tmp t),args,argTypes },type:=ty,pos,after,guard }=(do let d <- Deferred.ofValue (a.tmps.getD t undef) (args.map a.eval);invoke d.target d.args):=rfl;rw[lC hlt] at hv;rw[hx,hv];have hx2:(do let d <- Deferred.ofValue (.func (.func f') #[] caps.toArray) (args.map a.eval);invoke d.target d.args)=callFunc f' (#[]++args.map a.eval++caps.toArray):=rfl;rw[hx2,fq he];simp
  ·rename_i f' x y hs;split at hc
   ·rename_i hxy;simp only[ND,NI] at hc;obtain⟨rfl,rfl⟩:=hc;simp only[NJ,Array.isEmpty_iff] at hxy;obtain⟨rfl,rfl⟩:=hxy;have hv:a.tmps.getD t undef=.func (.func f') #[] #[]:=(R'.slot t _ hs).1;refine⟨[],trivial,?_⟩;have hx:execOp a.eval { dst,op:=.call { callee:=.value (.tmp t),args,argTypes },type:=ty,pos,after,guard }=(do let d <- Deferred.ofValue (a.tmps.getD t undef) (args.map a.eval);invoke d.target d.args):=rfl;rw[hx,hv];have hx2:(do let d <- Deferred.ofValue (.func (.func f') #[] #[]) (args.map a.eval);invoke d.target d.args)=callFunc f' (#[]++args.map a.eval++#[]):=rfl;rw[hx2,fq he];simp
   ·cases hc
  ·cases hc
 ·cases hc
theorem Fs{st:St}{a:Act}(R':Rel C γ w st a.tmps){o:Oper}{c:Operand}{args:Array Operand}{argTypes:Array zae}(ho:o.op=.call { callee:=.value c,args,argTypes }){f:FuncId}{cs:Z Cell}
  (hc:jD st c=O (f,cs)) {vs:Z V} (hv:gU st args.toList=O vs) :
  ∃vals:Z zal,aj (aZ C γ st.h w) (cs.map (λc=>V.v (.c c))++vs) vals/\(aC P f->∃caps:Z zal,aj (av C γ st.h w) [] caps/\(execOp a.eval o).run P w=.ok (.enter f (vals.toArray++caps.toArray)) w):=by
 obtain⟨dst,op,ty,pos,after,guard⟩:=o;simp only at ho;subst ho;unfold jD at hc;split at hc
 ·rename_i t;split at hc
  ·rename_i f' cs' hs;split at hc
   ·cases hc
   ·rename_i hge;simp only[ND,NI] at hc;obtain⟨hfg,rfl⟩:=hc;obtain⟨caps,hvv,ha⟩:=R'.slot t _ hs;refine⟨caps++args.toList.map a.eval,(oI ha).append (jY R' hv),λhe=>⟨[],trivial,?_⟩⟩;have hx:execOp a.eval { dst,op:=.call { callee:=.value (.tmp t),args,argTypes },type:=ty,pos,after,guard }=(do let d <- Deferred.ofValue (a.tmps.getD t undef) (args.map a.eval);invoke d.target d.args):=rfl;rw[IP hge,hfg] at hvv;rw[hx,hvv];have hx2:(do let d <- Deferred.ofValue (.func (.func f) caps.toArray #[]) (args.map a.eval);invoke d.target d.args)=callFunc f (caps.toArray++args.map a.eval++#[]):=rfl;rw[hx2,fq he,<- qX];simp
  ·cases hc
 ·cases hc
theorem Ky{E:Env R}(hE:jR P C.L C.nl E){st:St}{a:Act}(R':Rel C γ w st a.tmps){o:Oper}{vals:Z zal}
  {f:FuncId} {cs:Z Cell} (hrun:aC P f->∃caps:Z zal,aj (av C γ st.h w) cs caps/\(execOp a.eval o).run P w=.ok (.enter f (vals.toArray++caps.toArray)) w)
  {ids:Z FuncId} {sp:Spec} (hsp:E.spec f ids=O sp) {vs:Z V} (hv:aj (aZ C γ st.h w) vs vals) {ab:Abs sp.a.T} (hab:sp.a.abs ⟨vs++cs.map (λc=>V.v (.c c)),st.h⟩=O ab)
  (hok:nD st.h (o.dst.getD 0) sp ab (vs.length+cs.length)=zac) {y:sp.r.T} (hy:sp.f ab.x=O y) :
  eY P C w st a o (gJ st (o.dst.getD 0) sp ab y):=by
 intro next Q hn
 obtain⟨hsat,hent⟩:=hE.spec f ids sp hsp;unfold nD at hok;simp only[NJ,NH] at hok;obtain⟨⟨⟨⟨hlen,hpl⟩,hb0⟩,hnk⟩,hnb0⟩:=hok;obtain⟨caps,hcaps,hex⟩:=hrun hent;have hcs:=oI hcaps;have Ra0:=EJ R' (hv.append hcs);have hargs:(vals++caps).toArray=vals.toArray++caps.toArray:=by
  apply Array.ext';simp
 rw[hargs] at Ra0;obtain⟨hkn,hdk⟩:=Fg hab;obtain⟨γa,Rb,hbl,hbb,_⟩:=qm hab Ra0 (C':=callee C γ st.h w ab.bm ab.keys ab.m.deps) (nm:=nmJ) (λi j e=>by simp only[nmJ] at e;omega) (Iw R'.inv ab.bm ab.keys ab.m.deps)
  (λd g ho hg hd=>.inr (.inr (.inl ⟨d,ho,hd⟩))) (λk e g c l hk he hb hg=>.inr (.inr (.inr ⟨k,e,c,l,hk,he,hb,hg⟩))) (λk e g c hk he hl hg=>.inr ⟨k,e,c,hk,he,hl,hg⟩)
  (λi hi=>by
   have hi:i<ab.bm.length:=hi;have h1:ab.bm[i]?=O ab.bm[i]:=NQ hi;refine⟨rfl,ab.bm[i],h1,?_⟩;show γ _=(ab.bm[i]?).bind γ;rw[h1];rfl)
 have hl:(vs++cs.map (λc=>V.v (.c c))).length=sp.a.slots.length:=by rw[NP,Ow];exact hlen
 rw[hl] at Rb;unfold Oper.wp;rw[hex,Oper.upon_enter];refine Calls.mono (hsat ab.x y hy (callee C γ st.h w ab.bm ab.keys ab.m.deps) γa _ rfl hbl Rb) λe w' hh=>?_
 obtain⟨γr,rs,rfl,Rr⟩:=hh;obtain⟨γ',hfin⟩:=BI (d:=o.dst.getD 0) (dst:=o.dst) R' (by rw[hbl];exact hpl) hb0 hnk hkn hdk (by simpa using hnb0) (λk hk=>by
  obtain⟨i,hi⟩:=List.mem_iff_getElem?.1 hk;exact(hbb i k hi).2) Rr
 exact hn γ' w' _ hfin
theorem KQ{I:zah}{x:Z Cap}{gs:Z Nat}(ha:aj (lY I (okb C γ h zaf)) gs x):aj (av C γ h I) (x.map Cap.cell) (gs.map λg=>Value.pointer (O ⟨g,0,zaf⟩)):=by
 induction gs generalizing x with
 |nil=>cases x with
  |nil=>trivial
  |cons _ _=>exact ha.elim
 |cons g gs ih=>cases x with
  |nil=>exact ha.elim
  |cons c x=>
   refine⟨?_,ih ha.2⟩;have h1:=ha.1;cases c with
   |c0 c=>
    obtain⟨ho,hg,hc⟩:=h1;cases c with
    |ci k n=>exact⟨rfl,g,0,n,[.int k n],rfl,rfl,ho,hg,rfl,λj u hj=>by
      cases j with
      |zero=>simp only[Oh,ND] at hj;subst hj;exact hc
      |succ j=>simp at hj⟩
    |cs s=>exact⟨rfl,g,0,s,[.string (mkS s)],rfl,rfl,ho,hg,rfl,λj u hj=>by
      cases j with
      |zero=>simp only[Oh,ND] at hj;subst hj;exact hc
      |succ j=>simp at hj⟩
   |cf f=>
    obtain⟨ho,hg,hs,hc,hh⟩:=h1;refine⟨rfl,g,0,(f.1,f.2.map Cap.c0),[fnV f.1 hs],rfl,rfl,ho,hg,⟨hs,rfl,?_⟩,λj u hj=>by
      cases j with
      |zero=>simp only[Oh,ND] at hj;subst hj;exact hc
      |succ j=>simp at hj⟩
    have:∀{hs:Z Nat}{l:Z tK},aj (lg I (okb C γ h zaf)) hs l->aj (lY I (okb C γ h zaf)) hs (l.map Cap.c0):=by
     intro hs
     induction hs with
     |nil=>intro l hl;cases l with
      |nil=>trivial
      |cons _ _=>exact hl.elim
     |cons a hs ih=>intro l hl;cases l with
      |nil=>exact hl.elim
      |cons c l=>exact⟨hl.1,ih hl.2⟩
    exact this hh
theorem Mo{st:St}{a:Act}(R':Rel C γ w st a.tmps){o:Oper}{c:Operand}{args:Array Operand}{argTypes:Array zae}(ho:o.op=.call { callee:=.value c,args,argTypes }){x:Fn}
  (hc:wD st c=O x) (he:aC P x.1):∃caps:Z zal,aj (av C γ st.h w) (x.2.map Cap.cell) caps/\(execOp a.eval o).run P w=.ok (.enter x.1 ((args.toList.map a.eval).toArray++caps.toArray)) w:=by
 rw[qX];obtain⟨dst,op,ty,pos,after,guard⟩:=o;simp only at ho;subst ho;unfold wD at hc;split at hc
 ·rename_i t;split at hc
  ·rename_i x' hs;simp only[ND] at hc;subst hc;obtain⟨_,gs,hv,ha⟩:=R'.slot t _ hs;simp only[List.cons.injEq,and_true] at hv;refine⟨_,KQ ha,?_⟩;have hx:execOp a.eval { dst,op:=.call { callee:=.value (.tmp t),args,argTypes },type:=ty,pos,after,guard }=(do let d <- Deferred.ofValue (a.tmps.getD t undef) (args.map a.eval);invoke d.target d.args):=rfl;rw[hx,hv];have hx2:(do let d <- Deferred.ofValue (fnV x'.1 gs) (args.map a.eval);invoke d.target d.args)=callFunc x'.1 (#[]++args.map a.eval++(gs.map λg=>Value.pointer (O ⟨g,0,zaf⟩)).toArray):=rfl;rw[hx2,fq he];simp
  ·cases hc
 ·cases hc
theorem uX{x:Fn}{F:Fn->W R}:∀{l:Z Fn},l.foldr (λkey next=>if x=key then F key else next) zaf=O r->F x=O r
 |[],he=>by cases he
 |key::l,he=>by
  simp only[List.foldr_cons] at he;split at he;·rename_i e;rw[e];exact he
  ·exact uX he
theorem tQ{E:Env R}(hE:jR P C.L C.nl E){st:St}{a:Act}(R':Rel C γ w st a.tmps){o:Oper}{vals:Z zal}
  {f:FuncId} {cs:Z Cell} (hrun:aC P f->∃caps:Z zal,aj (av C γ st.h w) cs caps/\(execOp a.eval o).run P w=.ok (.enter f (vals.toArray++caps.toArray)) w)
  {vs:Z V} (hv:aj (aZ C γ st.h w) vs vals) {K:Dl->W R} (he:jk E st o.dst f cs vs K=O r):∃x,K x=O r/\eY P C w st a o x:=by
 unfold jk at he;split at he
 ·rename_i sp hsp;split at he
  ·rename_i ab hab;obtain⟨hok,he⟩:=aa he;cases hy:sp.f ab.x with
   |none=>rw[hy] at he;cases he
   |some y=>
    rw[hy] at he;exact⟨_,he,Ky hE R' hrun hsp hv hab hok hy⟩
  ·cases he
 ·cases he
theorem yL{te:zae->W TI}(hte:∀t i,te t=O i->aN P t i){src dst:zae}(hh:wZ te src dst=zac):∃e,P.underlying src=O (.slice e)/\P.underlying e=O (.int .u8)/\P.underlying dst=O .string:=by
 unfold wZ at hh;simp only[NJ] at hh;obtain⟨h1,h2⟩:=hh;have hd:P.underlying dst=O .string:=by
  unfold isStr at h1;split at h1;·rename_i ti hti;exact(hte _ _ hti).str h1
  ·cases h1
 split at h2
 ·rename_i e he;split at h2
  ·rename_i ti hti;split at h2
   ·rename_i hk;refine⟨e,?_,(hte _ _ hti).int _ hk,hd⟩;cases h0:te src with
    |none=>rw[h0] at he;simp at he
    |some i0=>rw[h0] at he;exact(hte _ _ h0).elem e he
   ·cases h2
  ·cases h2
 ·cases h2
theorem uM{te:zae->W TI}(hte:∀t i,te t=O i->aN P t i){src dst:zae}(hh:qx te src dst=zac):∃e,P.underlying src=O .string/\P.underlying dst=O (.slice e)/\P.underlying e=O (.int .u8):=by
 unfold qx at hh;simp only[NJ] at hh;obtain⟨h1,h2⟩:=hh;have hd:P.underlying src=O .string:=by
  unfold isStr at h1;split at h1;·rename_i ti hti;exact(hte _ _ hti).str h1
  ·cases h1
 split at h2
 ·rename_i e he;split at h2
  ·rename_i ti hti;split at h2
   ·rename_i hk;refine⟨e,hd,?_,(hte _ _ hti).int _ hk⟩;cases h0:te dst with
    |none=>rw[h0] at he;simp at he
    |some i0=>rw[h0] at he;exact(hte _ _ h0).elem e he
   ·cases h2
  ·cases h2
 ·cases h2
theorem Ip{st:St}{a:Act}(R':Rel C γ w st a.tmps){o:Oper}{src dst e:zae}{x:Operand}{s:Str}(ho:o.op=.convert src dst x)(h1:P.underlying src=O .string)(h2:P.underlying dst=O (.slice e))(h3:P.underlying e=O (.int .u8))
  (hx:opd st x=O (.c (.str s))):eY P C w st a o ⟨.v (.c (.sl zaf (.int .u8) (s.map λb=>(b.toNat:Int)))),[],[]⟩:=by
 intro next Q hn
 have hv:a.eval x=.string (mkS s):=(R'.opd hx).1;have hsz:(mkS s).size=s.length:=rfl;have hrun:(execOp a.eval o).run P w=.ok (.value (.slice (O ⟨w.heap.size,0,zaf⟩) (mkS s).size (grownCap w (mkS s).size 0 e))) (Lib.bytesWorld w e (mkS s)):=by
  have hx:execOp a.eval o=(do pure (.value (<- convert src dst (a.eval x)))):=by simp[execOp,ho]
  rw[hx,NR,hv,Lib.run_convert_string_bytes w src dst e (mkS s) h1 h2 h3,NG,NZ]
 have hE:Ext w (Lib.bytesWorld w e (mkS s)):=⟨by rw[Lib.bytesWorld_size];omega,λg hg=>Lib.bytesWorld_at_old w e (mkS s) g hg⟩
 have S:Step C w (Lib.bytesWorld w e (mkS s)):=Step.of_ext hE rfl rfl rfl;have R1:=R'.ext hE S;have I:=R'.inv;have hrep:aZ C γ st.h (Lib.bytesWorld w e (mkS s)) (.v (.c (.sl zaf (.int .u8) (s.map λb=>(b.toNat:Int))))) (.slice (O ⟨w.heap.size,0,zaf⟩) (mkS s).size (grownCap w (mkS s).size 0 e)):=?hrep;·exact dM hrun (hn γ _ _ (R1.put o.dst hrep))
 refine⟨rfl,?_⟩;refine⟨O ⟨w.heap.size,0,zaf⟩,grownCap w (mkS s).size 0 e,by simp[hsz],?_,λi n hi=>?_⟩;·have:=grownCap_ge w (mkS s).size 0 e;simpa[hsz] using this
 ·simp only[OI,Option.map_eq_some_iff] at hi;obtain⟨b,hb,rfl⟩:=hi;have hlt:i<s.length:=(NS.1 hb).1;refine⟨w.heap.size,0,[.int .u8 b.toNat],rfl,⟨I.rd _ (I.new _ I.size),λk e' c hk hl hγ=>?_⟩,by rw[Lib.bytesWorld_size];omega,rfl,λj u hj=>?_⟩
  ·have:=ig I hk hl hγ;omega
  ·cases j with
   |zero=>
    simp only[Oh,ND] at hj;subst hj;have:=Lib.bytesWorld_cell w e (mkS s) i (by rw[hsz];exact hlt);have hg:(mkS s).data.toList.getD i 0=b:=by
     show s.getD i 0=b;rw[NN,hb];rfl
    rw[hg] at this;simpa[Ty.size] using this
   |succ j=>simp at hj
theorem Ec(ns:Z Int):∀(s:ByteArray),ns.foldl (λr n=>r.push (UInt8.ofNat n.toNat)) s=⟨s.data++(bytesOf ns).toArray⟩:=by
 induction ns with
 |nil=>intro s;simp[bytesOf]
 |cons n ns ih=>
  intro s;simp only[Oq,ih];congr 1;simp[bytesOf,ByteArray.push,Array.push_append]
theorem xZ{ok:Nat->Prop}{k:IntKind}:∀{xs:Z Int}{news:Z zal},bi w ok (.int k) xs news->news.length=xs.length->news=xs.map (Value.int k)
 |[],news,_,hl=>by simpa using hl
 |x::xs,[],_,hl=>by simp at hl
 |x::xs,v::news,hr,hl=>by
  have h0:=hr 0 x rfl;simp only[Ty.size,Nat.zero_mul,Om,List.take_succ_cons,List.take_zero] at h0;have h0:[v]=[.int k x]:=h0;simp only[List.cons.injEq,and_true] at h0;rw[h0,NY];congr 1;refine xZ (ok:=ok) (λi y hy=>?_) (by simpa using hl);have:=hr (i+1) y (by simpa using hy);simpa[Ty.size] using this
theorem Fx(I:Inv C γ h w){x:V1}{xs:Z Int}(hm:jr h (.int .u8) x=O xs){v:zal}(hv:aI C γ h w x v):∃A c,v=.slice A xs.length c/\(Conv.bytesToString v).run P w=.ok (.string (mkS (bytesOf xs))) w:=by
 obtain⟨d,hr⟩:=lI I hm hv;obtain⟨A,c,news,hA,hl,hrow,_,hc⟩:=flat hr;have hl':news.length=xs.length:=by simpa[Ty.size] using hl
 have hn:=xZ hrow hl';refine⟨A,c,hA,?_⟩;rw[hA];cases A with
 |none=>
  rcases hc with h0|⟨a,ha,_⟩;·have:xs=[]:=List.length_eq_zero_iff.1 h0;subst this;simp[Conv.bytesToString,NZ];rfl
  ·cases ha
 |some a=>
  have hload:(loadCells a xs.length).run P w=.ok (xs.map (Value.int .u8)).toArray w:=by
   have:=run_loadCells_list (P:=P) w a (xs.map (Value.int .u8)) λj u e=>by
    rcases hc with h0|⟨b,hb,hcell⟩;·have:xs=[]:=List.length_eq_zero_iff.1 h0;subst this;simp at e
    ·simp only[ND] at hb;subst hb;exact hcell j u (by rw[hn];exact e)
   simpa using this
  rw[run_bytesToString w a xs.length c xs hload,Ec];congr 2;simp[mkS]
theorem sS{E:Env R}(hE:jR P C.L C.nl E){st:St}{a:Act}(R':Rel C γ w st a.tmps){o:Oper}{K:Dl->W R}(he:bf E st o K=O r):∃x,K x=O r/\eY P C w st a o x:=by
 unfold bf at he;split at he
 ·rename_i t ho;split at he
  ·rename_i ti hti;exact⟨_,he,H8 R' (hE.te _ _ hti) ho⟩
  ·cases he
 ·rename_i t x ho;obtain⟨v,hv,he⟩:=ae he;exact⟨_,he,Ih R' hv ho⟩
 ·rename_i t n parts ho;split at he
  ·cases he
  ·rename_i e hel;split at he
   ·rename_i ti hti hp;split at he
    ·rename_i k v fs hc;split at he
     ·rename_i cs hat
      obtain⟨hq,he⟩:=aa he;exact⟨_,he,BD hE.te R' ho hel hti hc hat hq⟩
     ·cases he
    ·cases he
   ·rename_i ti ps hti hp;split at he
    ·rename_i t' ht;split at he
     ·rename_i z hz;obtain⟨hn,he⟩:=aa he;obtain⟨xs,hx,he⟩:=ae he;refine⟨_,he,eY.pub (rd:=[dk o.dst]) ?_⟩;rw[<- Jv];exact yC hE.te (sw R' _) ho hel hti (ry R' (λk hk=>hk) (ja R' hp)) ht hz hn hx
     ·cases he
    ·cases he
   ·cases he
 ·rename_i t x v ho;split at he
  ·rename_i hd;obtain⟨xv,hx,he⟩:=ae he;obtain⟨vv,hv,he⟩:=ae he;obtain⟨up,hk,hok⟩:=JZ hE.te (sw R' _) ho hd (x:=xv) (by rw[<- hx];rfl) (EE R' (R'.opd hv).1) he (rd:=[]);exact⟨_,hk,hok.pub⟩
  ·cases he
 ·rename_i args argTypes ho;split at he
  ·rename_i s x sT xT ha hat
   obtain⟨hst,he1⟩:=aa he;subst hst;obtain⟨sv,hs,he⟩:=ae he1;obtain⟨xv,hx,he⟩:=ae he;exact DI hE.te R' ho ha hat hs hx he
  ·cases he
 ·rename_i c args argTypes ho;split at he
  ·rename_i vs hv;split at he
   ·rename_i p hc;obtain⟨vals,hvals,hrun⟩:=Fs (P:=P) R' ho hc hv;exact tQ hE R' hrun hvals he
   ·split at he
    ·rename_i p hc;exact tQ hE R' (λhent=>DW R' ho hc hent) (jY R' hv) he
    ·split at he
     ·rename_i x hc;exact tQ hE R' (λhent=>Mo R' ho hc hent) (jY R' hv) (uX he)
     ·cases he
  ·cases he
 ·rename_i t g ho;split at he
  ·rename_i F hF;obtain⟨v,h1,h2⟩:=hE.maps g t F hF;refine⟨_,he,λnext Q hn=>dM (val:=v) (w':=w) ?_ (hn γ w v (R'.put o.dst (y:=.v (.c (.glob g))) ⟨h1,λw' hw'=>(h2 w' hw').1⟩))⟩;have hx:execOp a.eval o=(do pure (.value (<- Instr.loadAt t (.pointer (O ⟨g,0,zaf⟩))))):=by simp[execOp,ho,Act.eval]
   rw[hx,NR,(h2 w R'.inv.laid).2.1,NG,NZ]
  ·cases he
 ·rename_i t x k ok ho;split at he
  ·rename_i g kc hx hk;split at he
   ·rename_i F hF;obtain⟨p,hp,he⟩:=ae he;obtain⟨v,h1,h2⟩:=hE.maps g t F hF;have hv:a.eval x=v:=by
     have:=(R'.opd hx).1.2 w R'.inv.laid;rw[(h2 w R'.inv.laid).1] at this;simpa using this.symm
    have hkv:=(R'.opd hk).1;obtain⟨rv,h3,h4⟩:=(h2 w R'.inv.laid).2.2 kc (a.eval k) p (λs e=>by subst e;exact hkv) (λk n e=>by subst e;exact hkv) hp;have hrp:av C γ st.h w p.1 rv:=ru h3;refine⟨_,he,λnext Q hn=>dM (val:=if ok=zac then .tuple #[rv,.bool p.2] else rv) (w':=w) ?_ (hn γ w _ (R'.put o.dst ?_))⟩
    ·have hx:execOp a.eval o=(do pure (.value (<- Instr.lookup t (a.eval x) (a.eval k) ok))):=by simp[execOp,ho]
     rw[hx,NR,hv,h4 ok,NG,NZ]
    ·cases ok with
     |true=>exact⟨[rv,.bool p.2],rfl,hrp,rfl,trivial⟩
     |false=>exact hrp
   ·cases he
  ·cases he
 ·rename_i t l c ho;split at he
  ·cases he
  ·rename_i e hel;split at he
   ·rename_i ti kl n kc m hti hl hc;split at he
    ·rename_i t' ht;split at he
     ·rename_i z hz;obtain⟨hn,he⟩:=aa he;exact⟨_,he,z8 hE.te R' ho hel hti hl hc ht hz hn⟩
     ·cases he
    ·cases he
   ·cases he
 ·rename_i src dst x ho;split at he
  ·rename_i hsc;obtain⟨v,hv,he⟩:=ae he;obtain⟨xs,hxs,he⟩:=ae he;refine⟨_,he,λnext Q hn=>?_⟩;obtain⟨e,h1,h2,h3⟩:=yL hE.te hsc;obtain⟨A,c,hA,hrun⟩:=Fx (P:=P) R'.inv hxs (R'.opd hv).1;refine dM (val:=.string (mkS (bytesOf xs))) (w':=w) ?_ (hn γ w _ (R'.put o.dst (y:=.v (.c (.str (bytesOf xs)))) rfl));have hx:execOp a.eval o=(do pure (.value (<- convert src dst (a.eval x)))):=by simp[execOp,ho]
   rw[hx,NR,hA,run_convert_bytes_string w src dst e A xs.length c h1 h2 h3,<- hA,hrun,NG,NZ]
  ·split at he
   ·rename_i hbc;split at he
    ·rename_i s hx;obtain⟨e,h1,h2,h3⟩:=uM hE.te hbc;exact⟨_,he,Ip R' ho h1 h2 h3 hx⟩
    ·cases he
   ·rw[<- ho] at he;exact Hy hE.te R' he
 ·exact Hy hE.te R' he
end
end Rv
namespace Rv
open Go
section
variable{P:Program}{C:Ctx}{γ:Gam}{w:zah}{R:Type}{r:R}
structure Good (E:Env R) (a:Act):Prop where
 size:a.tmps.size=E.N
 defers:a.defers=[]
theorem Good.put{E:Env R}{a:Act}(g:Good E a)(d:W Nat)(v:zal):Good E (a.put d v):=by
 cases d with
 |none=>exact g
 |some d=>exact⟨by simpa[Act.put] using g.size,g.defers⟩
def iP(C:Ctx)(E:Env R)(r:R)(K:St->W R)(Q:Act->zah->Prop):Prop:=
 ∀γ st a w,Rel C γ w st a.tmps->Good E a->K st=O r->Q a w
theorem pX{st:St}{a:Act}(R':Rel C γ w st a.tmps){ops:Array Oper}{j d:Nat}(hd:(ops[j]?).bind (·.dst)=O d){v:V}(hs:st.s[d]?=O v):∃u,a.tmps[d]?=O u/\aZ C γ st.h w v u/\yielded ops a.tmps j=(match u with | .bool b=>O b|_=>zaf):=by
 have hlt:d<a.tmps.size:=by rw[R'.size];exact(NS.1 hs).1
 refine⟨a.tmps[d],by simp[hlt],?_,?_⟩;·have:=R'.slot d v hs;simpa[Array.getD,hlt] using this
 ·unfold yielded;rw[hd];simp only[NE,Array.getElem?_eq_getElem hlt];cases a.tmps[d]<;>rfl
theorem vW{st:St}{a:Act}(R':Rel C γ w st a.tmps){ops:Array Oper}{o:Oper}{j d:Nat}{want:zai}(hg:o.guard=O (j,want))(hd:(ops[j]?).bind (·.dst)=O d)(hs:st.s[d]?=O (.v (.c (.bool want)))) :
  Region.wanted o (yielded ops a.tmps)=zac:=by
 obtain⟨u,hu,hr,hy⟩:=pX R' hd hs;have:u=.bool want:=hr;subst this;simp[Region.wanted,hg,hy]
theorem rV{st:St}{a:Act}(R':Rel C γ w st a.tmps){ops:Array Oper}{o:Oper}{j d:Nat}{want:zai}(hg:o.guard=O (j,want))(hd:(ops[j]?).bind (·.dst)=O d)(hs:st.s[d]?=O (.v (.c (.bool !want)))\/st.s[d]?=O (.tup [])) :
  Region.wanted o (yielded ops a.tmps)=zad:=by
 rcases hs with hs|hs;·obtain⟨u,hu,hr,hy⟩:=pX R' hd hs;have:u=.bool !want:=hr;subst this;simp[Region.wanted,hg,hy]
 ·obtain⟨u,hu,hr,hy⟩:=pX R' hd hs;obtain⟨vs,rfl,hv⟩:=hr;simp[Region.wanted,hg,hy]
theorem St.put_same{st:St}{d:Nat}{v:V}(h:st.s[d]?=O v):st.put (O d) v=st:=by
 obtain⟨hl,he⟩:=NS.1 h;show(⟨st.s.set d v,st.h⟩:St)=st;have:st.s.set d v=st.s:=by rw[<- he];exact List.set_getElem_self hl
 rw[this]
theorem rC{h:Heap}:aZ C γ h w (.tup []) undef:=⟨[],rfl,trivial⟩
theorem iY{E:Env R}(hE:jR P C.L C.nl E){ops:Array Oper}{Q:Exit->Act->zah->Prop}:∀{l:Z Oper}{st:St}{a:Act}{w:zah}{γ:Gam}{K:St->W R},Rel C γ w st a.tmps->Good E a->gH E ops l st K=O r ->
  iP C E r K (Q .normal)->wpList P ops Q l a w
 |[],st,a,w,γ,K,R',G,he,hK=>hK γ st a w R' G he
 |o::l,st,a,w,γ,K,R',G,he,hK=>by
  have go:∀{K':Dl->W R},bf E st o K'=O r->(∀x,K' x=gH E ops l (st.app o.dst x) K)->Region.wanted o (yielded ops a.tmps)=zac->wpList P ops Q (o::l) a w:=by
   intro K' h1 h2 h3;obtain⟨x,hx,hok⟩:=sS hE R' h1;unfold wpList;rw[zab h3];refine .inl (hok _ _ λγ' w' val R1=>?_);rw[h2] at hx;exact iY hE R1 (G.put _ _) hx hK
  simp only[gH] at he;split at he;·rename_i hg;exact go (K':=λx=>gH E ops l (st.app o.dst x) K) he (λ_=>rfl) (by simp[Region.wanted,hg])
  ·rename_i j want hg;split at he
   ·cases he
   ·rename_i d hd;split at he
    ·rename_i b hs;split at he
     ·rename_i hb;subst hb;rw[St.put_same hs] at he;exact go (K':=λx=>gH E ops l (st.app o.dst x) K) he (λ_=>rfl) (vW R' hg hd hs)
     ·rename_i hb;have hb':b=!want:=by cases b<;>cases want<;>simp_all
      subst hb';rw[St.put_same hs] at he;unfold wpList;rw[zak (by rw[rV R' hg hd (.inl hs)];simp)];exact iY hE (R'.put o.dst rC) (G.put _ _) he hK
    ·rename_i hs;unfold wpList;rw[zak (by rw[rV R' hg hd (.inr hs)];simp)];exact iY hE (R'.put o.dst rC) (G.put _ _) he hK
    ·cases he
end
end Rv
namespace Rv
open Go
def Agree(h h':Heap)(ks:Z Nat):Prop:=∀k,k∈ks->h' k=h k
theorem Agree.sub{h h':Heap}{ks ls:Z Nat}(H:Agree h h' ks)(hs:∀k,k∈ls->k∈ks):Agree h h' ls:=λk hk=>H k (hs k hk)
section
variable{R:Type}{r:R}{h h':Heap}{st st':St}{te:zae->W TI}
theorem at_eq{k:Nat}(e:h' k=h k)(v:Nat):h'.at k v=h.at k v:=by simp[Heap.at,e]
theorem iF{k:Nat}(e:h' k=h k):h'.next k=h.next k:=by simp[Heap.next,e]
theorem fO{k:Nat}(e:h' k=h k)(v:Nat):rowLen h' k v=rowLen h k v:=by simp[rowLen,at_eq e]
theorem jI{d:Dep}(e:∀x,d=O x->h' x.1=h x.1):h'.depOk d=h.depOk d:=by
 cases d with
 |none=>rfl
 |some x=>obtain⟨k,v,dv⟩:=x;simp[Heap.depOk,e _ rfl]
theorem oK{d:Dep}{t:Ty}{xs:Z t.D}(H:Agree h h' (Cell.sl d t xs).keys):h'.depOk d=h.depOk d:=jI λx e=>H _ (by subst e;simp[Cell.keys])
theorem qA{d:Dep}{t:Ty}{xs:Z t.D}{i off:Nat}(H:Agree h h' (Cell.slp d t xs i off).keys):h'.depOk d=h.depOk d:=jI λx e=>H _ (by subst e;simp[Cell.keys])
theorem xn{d:Dep}{t:Ty}{xs:Z t.D}(H:Agree h h' (Cell.slc d t xs).keys):h'.depOk d=h.depOk d:=jI λx e=>H _ (by subst e;simp[Cell.keys])
theorem uE{c:Cell}(H:Agree h h' c.keys):rowOf h' c=rowOf h c:=by
 cases c with
 |sl d t xs=>simp only[rowOf,oK H]
 |own k v=>simp only[rowOf];rw[at_eq (H k (by simp[Cell.keys]))]
 |ownP k v n=>simp only[rowOf];rw[at_eq (H k (by simp[Cell.keys]))]
 |_=>rfl
theorem zw{c:Cell}(H:Agree h h' c.keys):eB h' c=eB h c:=by
 cases c with
 |own k v=>simp only[eB];rw[H k (by simp[Cell.keys])]
 |ownP k v n=>simp only[eB];rw[H k (by simp[Cell.keys])]
 |_=>rfl
theorem fB{c:Cell}:(V1.c c).keys=c.keys:=by simp[V1.keys,V1.cells]
theorem Jc{t:zae}{x:V1}{K:V1->W R}(H:Agree st.h st'.h x.keys):dG te st' t x K=dG te st t x K:=by
 cases x with
 |agg cs=>rfl
 |c c=>
  rw[fB] at H;cases hte:te t with
  |none=>cases c<;>simp only[dG,hte]
  |some ti=>
   cases c with
   |ptr k v off=>simp only[dG,hte,at_eq (H k (by simp[Cell.keys]))]
   |elt k v i off=>simp only[dG,hte,at_eq (H k (by simp[Cell.keys]))]
   |slp d t xs i off=>simp only[dG,hte,qA H]
   |pel k v base n i=>simp only[dG,hte,at_eq (H k (by simp[Cell.keys]))]
   |_=>rfl
theorem Jd{t:zae}{x:V1}{K:V->W R}(H:Agree st.h st'.h x.keys):jq te st' t x K=jq te st t x K:=by
 cases x with
 |agg cs=>rfl
 |c c=>
  cases c with
  |cle k v f=>
   rw[fB] at H;simp only[jq,at_eq (H k (by simp[Cell.keys]))]
  |_=>exact Jc (te:=te) (t:=t) (K:=one K) H
theorem yH{es ar:W Nat}{el:W (Nat×Nat)}{x i:V1}{K:V1->W R}(H:Agree st.h st'.h x.keys):aQ st' es ar el x i K=aQ st es ar el x i K:=by
 cases x with
 |agg cs=>rfl
 |c c=>
  rw[fB] at H;cases i with
  |agg cs=>cases c<;>rfl
  |c j=>
   cases j with
   |int ik n=>
    cases c with
    |own k v=>simp only[aQ,fO (H k (by simp[Cell.keys]))]
    |ownP k v n=>simp only[aQ,fO (H k (by simp[Cell.keys]))]
    |sl d t xs=>simp only[aQ,oK H]
    |ptr k v off=>simp only[aQ,at_eq (H k (by simp[Cell.keys]))]
    |clr k v fs=>simp only[aQ,at_eq (H k (by simp[Cell.keys]))]
    |_=>rfl
   |_=>cases c<;>rfl
theorem G9{str:zai}{es:W Nat}{x:V1}{lo hi mx:W V1}{K:V1->W R}(H:Agree st.h st'.h x.keys):aU st' str es x lo hi mx K=aU st str es x lo hi mx K:=by
 cases x with
 |agg cs=>rfl
 |c c=>
  rw[fB] at H;have h1:=uE H;have h2:=zw H;cases c with
  |own k v=>simp only[aU,fO (H k (by simp[Cell.keys])),h1,h2]
  |ownP k v n=>simp only[aU,fO (H k (by simp[Cell.keys])),h1,h2]
  |sl d t xs=>simp only[aU,oK H]
  |_=>rfl
theorem Ha{str:zai}{es:W Nat}{x:V1}{lo hi mx:W V1}{K:V1->W R}(H:Agree st.h st'.h x.keys):gD st' str es x lo hi mx K=gD st str es x lo hi mx K:=by
 have hs:=G9 (str:=str) (es:=es) (lo:=lo) (hi:=hi) (mx:=mx) (K:=K) H;unfold gD;split;·rw[fB] at H;rw[uE H,zw H,hs]
 ·exact hs
theorem K7{str:zai}{es:W Nat}{x:V1}{K:Nat->W R}(H:Agree st.h st'.h x.keys):fD st' str es x K=fD st str es x K:=by
 cases x with
 |agg cs=>rfl
 |c c=>
  rw[fB] at H;cases c with
  |own k v=>simp only[fD,fO (H k (by simp[Cell.keys]))]
  |ownP k v n=>simp only[fD,fO (H k (by simp[Cell.keys]))]
  |sl d t xs=>simp only[fD,oK H]
  |slc d t xs=>simp only[fD,xn H]
  |clr k v fs=>simp only[fD,at_eq (H k (by simp[Cell.keys]))]
  |_=>rfl
theorem Hg{t:zae}{x v:V1}{K:Z (Nat×En)->W R}(H:Agree st.h st'.h x.keys):d9 te st' t x v K=d9 te st t x v K:=by
 cases x with
 |agg cs=>rfl
 |c c=>
  rw[fB] at H;cases hte:te t with
  |none=>cases c<;>simp only[d9,hte]
  |some ti=>
   cases c with
   |ptr k v off=>simp only[d9,hte,H k (by simp[Cell.keys])]
   |pel k v base n i=>simp only[d9,hte,H k (by simp[Cell.keys])]
   |elt k v i off=>simp only[d9,hte,H k (by simp[Cell.keys])]
   |_=>rfl
theorem Fp{e:zae}{t:Ty}{x:V1}(H:Agree h h' x.keys):ji h' e t x=ji h e t x:=by
 cases x with
 |agg cs=>rfl
 |c c=>
  rw[fB] at H;cases c with
  |own k v=>simp only[ji];rw[at_eq (H k (by simp[Cell.keys]))]
  |ownP k v n=>simp only[ji];rw[at_eq (H k (by simp[Cell.keys]))]
  |_=>rfl
theorem qY{t:Ty}{x:V1}(H:Agree h h' x.keys):jr h' t x=jr h t x:=by
 cases x with
 |agg cs=>rfl
 |c c=>
  rw[fB] at H;have h1:=uE H;cases c<;>first|rfl|(simp only[jr];rw[h1])
theorem DK{e:zae}{t:Ty}{x:V1}{xs:Z t.D}{k:Nat}(hb:ji h e t x=O (xs,O k)):k∈x.keys:=by
 unfold ji at hb;split at hb;·simp at hb
 ·rename_i k' v;split at hb
  ·obtain⟨_,hb'⟩:=aa hb;simp only[Option.map_eq_some_iff] at hb';obtain⟨a,_,ha⟩:=hb';simp only[NI,ND] at ha;rw[fB];simp[Cell.keys,ha.2]
  ·cases hb
 ·rename_i k' v n;split at hb
  ·obtain⟨_,hb'⟩:=aa hb;simp only[Option.map_eq_some_iff] at hb';obtain⟨a,_,ha⟩:=hb';simp only[NI,ND] at ha;rw[fB];simp[Cell.keys,ha.2]
  ·cases hb
 ·cases hb
theorem DD{d:W Nat}{sT:zae}{s x:V1}{K:Dl->W R}(Hs:Agree st.h st'.h s.keys)(Hx:Agree st.h st'.h x.keys)(hd:st'.h (dk d)=st.h (dk d)):gG te st' d sT s x K=gG te st d sT s x K:=by
 unfold gG;split;·rfl
 ·split
  ·rfl
  ·split
   ·rfl
   ·rename_i e _ ti _ t _;rw[Fp Hs,qY Hx,iF hd];split
    ·rename_i xs k ys hb _;cases k with
     |none=>rfl
     |some k=>simp only[iF (Hs k (DK hb))]
    ·rfl
theorem DF{d:W Nat}{sT:zae}{s x:V1}{K:Dl->W R}(Hs:Agree st.h st'.h s.keys)(Hx:Agree st.h st'.h x.keys)(hd:st'.h (dk d)=st.h (dk d)):eZ te st' d sT s x K=eZ te st d sT s x K:=by
 have hs:=DD (te:=te) (sT:=sT) (K:=K) Hs Hx hd;unfold eZ;split;·rw[fB] at Hs;simp only[qY Hx,xn Hs,iF hd]
 ·exact hs
theorem Fh{bm:Z Nat}{cd:CD}{c:Cell}{y:cd.T}{m:Met}(ha:cd.abs h bm c=O (y,m))(H:Agree h h' (bm++(m.rows.filterMap id++m.deps))):cd.abs h' bm c=O (y,m):=by
 cases cd with
 |sl t=>
  cases c with
  |sl d t' xs=>
   simp only[CD.abs] at ha⊢;obtain⟨hd,ha1⟩:=aa ha;have hk:∀x,d=O x->h' x.1=h x.1:=λx e=>H _ (by
    split at ha1;·simp only[ND,NI] at ha1;rw[<- ha1.2,e];simp
    ·cases ha1)
   rw[jI hk];exact ha
  |slc d t' xs=>
   simp only[CD.abs] at ha⊢;obtain⟨hd,ha1⟩:=aa ha;have hk:∀x,d=O x->h' x.1=h x.1:=λx e=>H _ (by
    split at ha1;·simp only[ND,NI] at ha1;rw[<- ha1.2,e];simp
    ·cases ha1)
   rw[jI hk];exact ha
  |own k v=>
   simp only[CD.abs] at ha⊢;have hk:h' k=h k:=H _ (by
    split at ha
    ·split at ha
     ·simp only[ND,NI] at ha;rw[<- ha.2];simp
     ·cases ha
    ·cases ha)
   rw[at_eq hk];exact ha
  |ownP k v n=>
   simp only[CD.abs] at ha⊢;have hk:h' k=h k:=H _ (by
    split at ha
    ·split at ha
     ·simp only[ND,NI] at ha;rw[<- ha.2];simp
     ·cases ha
    ·cases ha)
   rw[at_eq hk];exact ha
  |_=>exact ha
 |row e t=>
  cases c with
  |own k v=>
   simp only[CD.abs] at ha⊢;have hk:h' k=h k:=H _ (by
    split at ha
    ·obtain⟨_,ha⟩:=aa ha;split at ha
     ·simp only[ND,NI] at ha;rw[<- ha.2];simp
     ·cases ha
    ·cases ha)
   rw[at_eq hk];exact ha
  |ownP k v n=>
   simp only[CD.abs] at ha⊢;have hk:h' k=h k:=H _ (by
    split at ha
    ·obtain⟨_,ha⟩:=aa ha;split at ha
     ·simp only[ND,NI] at ha;rw[<- ha.2];simp
     ·cases ha
    ·cases ha)
   rw[at_eq hk];exact ha
  |_=>exact ha
 |ptr i off=>
  cases c with
  |ptr k v o=>
   simp only[CD.abs] at ha⊢;obtain⟨hb,_⟩:=aa ha;have hk:h' k=h k:=H _ (List.mem_append_left _ (List.mem_of_getElem? hb));rw[at_eq hk];exact ha
  |_=>exact ha
 |slc t=>
  cases c with
  |slc d t' xs=>
   simp only[CD.abs] at ha⊢;obtain⟨hd,ha1⟩:=aa ha;have hk:∀x,d=O x->h' x.1=h x.1:=λx e=>H _ (by
    split at ha1;·simp only[ND,NI] at ha1;rw[<- ha1.2,e];simp
    ·cases ha1)
   rw[jI hk];exact ha
  |_=>exact ha
 |clr i fs=>
  cases c with
  |clr k v gs=>
   simp only[CD.abs] at ha⊢;obtain⟨hb,_⟩:=aa ha;have hk:h' k=h k:=H _ (List.mem_append_left _ (List.mem_of_getElem? hb));rw[at_eq hk];exact ha
  |_=>exact ha
 |pp t=>
  cases c with
  |slp d t' xs i off=>cases d with
   |none=>exact ha
   |some x=>cases ha
  |ptr k v off=>
   simp only[CD.abs] at ha⊢;have hk:h' k=h k:=H _ (by
    split at ha
    ·obtain⟨_,ha⟩:=aa ha;split at ha
     ·simp only[ND,NI] at ha;rw[<- ha.2];simp
     ·cases ha
    ·cases ha)
   rw[at_eq hk];exact ha
  |_=>exact ha
 |_=>cases c<;>exact ha
theorem Ck{bm:Z Nat}:∀{l:Z CD}{cs:Z Cell}{y:TL l}{m:Met},eF h bm l cs=O (y,m)->Agree h h' (bm++(m.rows.filterMap id++m.deps))->eF h' bm l cs=O (y,m)
 |[],[],_,_,ha,_=>ha
 |[],_::_,_,_,ha,_=>by cases ha
 |_::_,[],_,_,ha,_=>by cases ha
 |cd::l,c::cs,y,m,ha,H=>by
  simp only[eF] at ha⊢;split at ha
  ·rename_i y1 m1 h1;split at ha
   ·rename_i y2 m2 h2;simp only[ND,NI] at ha;obtain⟨e1,e2⟩:=ha;subst e2;rw[Fh h1 (H.sub λk hk=>?_),Ck h2 (H.sub λk hk=>?_)]
    ·simp only[e1]
    ·simp only[List.filterMap_append,NV] at hk⊢;rcases hk with hk|hk|hk
     ·exact .inl hk
     ·exact .inr (.inl (.inr hk))
     ·exact .inr (.inr (.inr hk))
    ·simp only[List.filterMap_append,NV] at hk⊢;rcases hk with hk|hk|hk
     ·exact .inl hk
     ·exact .inr (.inl (.inl hk))
     ·exact .inr (.inr (.inl hk))
   ·cases ha
  ·cases ha
theorem gI:∀{bl:Z (W Nat×Z CD)}{cs all:Z Cell}{bm0 bm:Z Nat},bq h bl cs bm0=O (all,bm)->(∀k,k∈bm0->k∈bm)/\bm.length=bm0.length+bl.length
 |[],cs,all,bm0,bm,he=>by
  simp only[bq,ND,NI] at he;obtain⟨_,rfl⟩:=he;exact⟨λk hk=>hk,by simp⟩
 |(zaf,ds)::bl,cs,all,bm0,bm,he=>by
  simp only[bq] at he;split at he;·obtain⟨_,he⟩:=aa he;obtain⟨g1,g2⟩:=gI he;exact⟨λk hk=>g1 k (List.mem_append_left _ hk),by simp at g2⊢;omega⟩
  ·cases he
 |(O p,ds)::bl,cs,all,bm0,bm,he=>by
  simp only[bq] at he;split at he
  ·split at he
   ·obtain⟨_,he⟩:=aa he;obtain⟨g1,g2⟩:=gI he;exact⟨λk hk=>g1 k (List.mem_append_left _ hk),by simp at g2⊢;omega⟩
   ·cases he
  ·cases he
theorem oQ:∀{bl:Z (W Nat×Z CD)}{cs all:Z Cell}{bm0 bm:Z Nat},bq h bl cs bm0=O (all,bm)->Agree h h' bm->bq h' bl cs bm0=O (all,bm)
 |[],cs,all,bm0,bm,he,_=>he
 |(zaf,ds)::bl,cs,all,bm0,bm,he,H=>by
  simp only[bq] at he⊢;have hk:h' (nmJ bm0.length).1=h (nmJ bm0.length).1:=H _ (by
   split at he;·obtain⟨_,he⟩:=aa he;exact(gI he).1 _ (by simp)
   ·cases he)
  rw[at_eq hk];split at he;·obtain⟨hl,he⟩:=aa he;rw[zab hl];exact oQ he H
  ·cases he
 |(O p,ds)::bl,cs,all,bm0,bm,he,H=>by
  simp only[bq] at he⊢;split at he
  ·rename_i k v o hp;have hk:h' k=h k:=H _ (by
    split at he;·obtain⟨_,he⟩:=aa he;exact(gI he).1 _ (by simp)
    ·cases he)
   rw[at_eq hk];split at he;·obtain⟨hl,he⟩:=aa he;rw[zab hl];exact oQ he H
   ·cases he
  ·cases he
theorem Ba{sh:Shape}{l:Z V}{a:Abs sh.T}(ha:sh.abs ⟨l,h⟩=O a)(H:Agree h h' (a.keys++a.m.deps)):sh.abs ⟨l,h'⟩=O a:=by
 unfold Shape.abs at ha⊢;split at ha
 ·rename_i cs hg;rw[show dx (St.mk l h').s sh.slots=O cs from hg];split at ha
  ·rename_i all bm hgb;split at ha
   ·rename_i x m hm;obtain⟨hc,ha⟩:=aa ha;simp only[ND] at ha;subst ha;have Hb:Agree h h' bm:=H.sub λk hk=>by simp[Abs.keys,hk]
    have Hm:Agree h h' (bm++(m.rows.filterMap id++m.deps)):=H.sub λk hk=>by
     simp only[Abs.keys,NV] at hk⊢;rcases hk with hk|hk|hk;·exact .inl (.inl hk)
     ·exact .inl (.inr hk)
     ·exact .inr hk
    simp only[oQ hgb Hb,Ck hm Hm,zab hc]
   ·cases ha
  ·cases ha
 ·cases ha
theorem jT{l:Z V}:∀{sl:Z (Nat×SD)}{cs:Z Cell},dx l sl=O cs->∀c,c∈cs->∃v,v∈l/\∀k,k∈c.keys->k∈v.keys
 |[],cs,he,c,hc=>by
  simp only[dx,ND] at he;subst he;simp at hc
 |(i,.c d)::sl,cs,he,c,hc=>by
  simp only[dx] at he;split at he
  ·rename_i x hx;split at he
   ·rename_i cs' h1;simp only[ND] at he;subst he;rcases NT.1 hc with rfl|hc
    ·exact⟨_,List.mem_of_getElem? hx,λk hk=>by simp[V.keys,V1.keys,V1.cells,hk]⟩
    ·exact jT h1 c hc
   ·cases he
  ·cases he
 |(i,.agg d)::sl,cs,he,c,hc=>by
  simp only[dx] at he;split at he
  ·rename_i xs hx;obtain⟨_,he'⟩:=aa he;split at he'
   ·rename_i cs' h1;simp only[ND] at he';subst he';rcases NV.1 hc with hc|hc
    ·exact⟨_,List.mem_of_getElem? hx,λk hk=>List.mem_flatMap.2 ⟨c,hc,hk⟩⟩
    ·exact jT h1 c hc
   ·cases he'
  ·cases he
 |(i,.clo f d)::sl,cs,he,c,hc=>by
  simp only[dx] at he;split at he
  ·rename_i f' xs hx;obtain⟨_,he'⟩:=aa he;split at he'
   ·rename_i cs' h1;simp only[ND] at he';subst he';rcases NV.1 hc with hc|hc
    ·exact⟨_,List.mem_of_getElem? hx,λk hk=>List.mem_flatMap.2 ⟨c,hc,hk⟩⟩
    ·exact jT h1 c hc
   ·cases he'
  ·cases he
theorem CV{x:Operand}{v:V1}(h:opd st x=O v):opdV st x=O (.v v):=by
 cases x with
 |tmp t=>
  simp only[opd] at h;simp only[opdV];split at h;·cases h
  ·rename_i y hy hs;simp only[ND] at h;subst h;rw[hs];split<;>first|rfl|(rename_i e;cases e;done)|(rename_i e;simp at e;done)|skip
   all_goals simp_all
  ·cases h
 |_=>simp only[opdV,h]
structure bM (st st':St) (l:Z Operand):Prop where
 slot:∀t,Operand.tmp t∈l->st'.s[t]?=st.s[t]?
 heap:Agree st.h st'.h (bW st l)
theorem bM.opd{l:Z Operand}(A:bM st st' l){x:Operand}(hx:x∈l):Rv.opd st' x=Rv.opd st x:=by
 cases x with
 |tmp t=>simp only[Rv.opd,A.slot t hx]
 |_=>rfl
theorem bM.keysV{l:Z Operand}(A:bM st st' l){x:Operand}(hx:x∈l){v:V}(hv:Rv.opdV st x=O v):Agree st.h st'.h v.keys:=
 A.heap.sub λk hk=>List.mem_flatMap.2 ⟨x,hx,by rw[hv];exact hk⟩
theorem bM.keys{l:Z Operand}(A:bM st st' l){x:Operand}(hx:x∈l){v:V1}(hv:Rv.opd st x=O v):Agree st.h st'.h v.keys:=A.keysV hx (CV hv)
theorem bM.sub{l m:Z Operand}(A:bM st st' l)(hs:∀x,x∈m->x∈l):bM st st' m:=
 ⟨λt ht=>A.slot t (hs _ ht),A.heap.sub λk hk=>by
  obtain⟨x,hx,hk⟩:=List.mem_flatMap.1 hk;exact List.mem_flatMap.2 ⟨x,hs x hx,hk⟩⟩
theorem nQ:∀{l:Z Operand},bM st st' l->gM st' l=gM st l
 |[],_=>rfl
 |x::l,A=>by
  simp only[gM];rw[A.opd (by simp),nQ (A.sub λx hx=>by simp[hx])]
theorem kR:∀{l:Z (Nat×Operand)},bM st st' (l.map (·.2))->partsOf st' l=partsOf st l
 |[],_=>rfl
 |(i,x)::l,A=>by
  simp only[partsOf];rw[A.opd (by simp),kR (A.sub λx hx=>by simp only[NY,NT];exact .inr hx)]
theorem q8{x:W Operand}(A:bM st st' x.toList):jw st' x=jw st x:=by
 cases x with
 |none=>rfl
 |some x=>simp only[jw];rw[A.opd (by simp)]
theorem bM.opdV{l:Z Operand}(A:bM st st' l){x:Operand}(hx:x∈l):Rv.opdV st' x=Rv.opdV st x:=by
 cases x with
 |tmp t=>simp only[Rv.opdV,A.slot t hx]
 |_=>rfl
theorem pz:∀{l:Z Operand},bM st st' l->gU st' l=gU st l
 |[],_=>rfl
 |x::l,A=>by
  simp only[gU];rw[A.opdV (by simp),pz (A.sub λx hx=>by simp[hx])]
theorem oG{c:Operand}(h:∀t,c=.tmp t->st'.s[t]?=st.s[t]?):jD st' c=jD st c:=by
 cases c with
 |tmp t=>simp only[jD,h t rfl]
 |_=>rfl
theorem sN{c:Operand}(h:∀t,c=.tmp t->st'.s[t]?=st.s[t]?):jb st' c=jb st c:=by
 cases c with
 |tmp t=>simp only[jb,h t rfl]
 |_=>rfl
theorem xm:∀{l:Z (Nat×Operand)},bM st st' (l.map (·.2))->fu st' l=fu st l
 |[],_=>rfl
 |[(i,x)],A=>by simp only[fu,A.opdV (x:=x) (by simp)]
 |(i,x)::p::r,A=>by
  have ih:=xm (l:=p::r) (A.sub λx hx=>by simp only[NY,NT] at hx⊢;exact .inr hx);simp only[fu,A.opdV (x:=x) (by simp)] at ih⊢;rw[ih]
theorem DZ{k v:Nat}:∀{l:Z (Nat×Operand)}{fs:Z FuncId},fu st l=O (k,v,fs)->∃p,p∈l/\∃f,opdV st p.2=O (.clo f [.ptr k v 0])
 |[],fs,h=>by cases h
 |[(i,x)],fs,h=>by
  rw[fu] at h;split at h;·rename_i f k' v' hx;cases h;exact⟨(i,x),by simp,f,hx⟩
  ·cases h
 |(i,x)::p::r,fs,h=>by
  rw[fu] at h;split at h
  ·rename_i f k' v' hx;split at h
   ·rename_i k2 v2 fs2 hr;obtain⟨⟨rfl,rfl⟩,h⟩:=aa h;cases h;exact⟨(i,x),by simp,f,hx⟩
   ·cases h
  ·cases h
  ·rintro⟨⟩
theorem KO{c:Operand}(h:∀t,c=.tmp t->st'.s[t]?=st.s[t]?):wD st' c=wD st c:=by
 cases c with
 |tmp t=>simp only[wD,h t rfl]
 |_=>rfl
theorem Gm{v:V}(H:Agree h h' v.keys):kz h' v=kz h v:=by
 cases v with
 |v x=>
  cases x with
  |agg cs=>rfl
  |c c=>
   have H:Agree h h' c.keys:=H.sub λk hk=>by simp[V.keys,V1.keys,V1.cells,hk]
   cases c with
   |ptr k v off=>simp only[kz,at_eq (H k (by simp[Cell.keys]))]
   |elt k v i off=>simp only[kz,fO (H k (by simp[Cell.keys]))]
   |slp d t xs i off=>simp only[kz,qA H]
   |_=>rfl
 |_=>rfl
theorem Hw{op:Op}(A:bM st st' op.operands.toList){K:V->W R}:vop te st' op K=vop te st op K:=by
 unfold vop;split;·rename_i x;rw[A.opdV (by simp[Op.operands])]
 ·rename_i x;rw[A.opdV (by simp[Op.operands])]
 ·rename_i c a b;rw[A.opd (x:=c) (by simp[Op.operands]),A.opd (x:=a) (by simp[Op.operands]),A.opd (x:=b) (by simp[Op.operands])]
 ·rename_i t parts;rw[kR (A.sub λx hx=>by simpa[Op.operands] using hx)]
 ·rename_i t x;rw[A.opd (by simp[Op.operands])];cases hx:opd st x with
  |none=>rfl
  |some v=>exact Jd (A.keys (by simp[Op.operands]) hx)
 ·rename_i t x f;rw[A.opd (by simp[Op.operands])];cases hx:opd st x with
  |none=>rfl
  |some v=>
   have H:=A.keys (by simp[Op.operands]) hx;cases v with
   |agg cs=>rfl
   |c c=>
    rw[fB] at H;cases hf:(te t).bind (·.fields[f]?) with
    |none=>cases c<;>rfl
    |some fd=>
     cases c with
     |ptr k v off=>simp only[at_eq (H k (by simp[Cell.keys]))]
     |elt k v i off=>simp only[fO (H k (by simp[Cell.keys]))]
     |slp d t xs i off=>simp only[qA H]
     |_=>rfl
 ·rename_i t x f;rw[A.opd (by simp[Op.operands])]
 ·rename_i t x i;rw[A.opd (x:=x) (by simp[Op.operands]),A.opd (x:=i) (by simp[Op.operands])];cases hx:opd st x with
  |none=>rfl
  |some v=>
   cases hi:opd st i with
   |none=>rfl
   |some j=>exact yH (A.keys (by simp[Op.operands]) hx)
 ·rename_i t x i;rw[A.opd (x:=x) (by simp[Op.operands]),A.opd (x:=i) (by simp[Op.operands])]
 ·rename_i t x lo hi mx;rw[A.opd (x:=x) (by simp[Op.operands]),q8 (x:=lo) (A.sub λx hx=>by simp only[Option.mem_toList,Option.mem_def] at hx;simp[Op.operands,hx]),q8 (x:=hi) (A.sub λx hx=>by simp only[Option.mem_toList,Option.mem_def] at hx;simp[Op.operands,hx]),
   q8 (x:=mx) (A.sub λx hx=>by simp only[Option.mem_toList,Option.mem_def] at hx;simp[Op.operands,hx])]
  cases hx:opd st x with
  |none=>rfl
  |some v=>
   simp only[au];split
   ·split
    ·split
     ·exact Ha (A.keys (by simp[Op.operands]) hx)
     ·rfl
    ·rfl
   ·rfl
 ·rename_i op t x y _;rw[A.opd (x:=x) (by simp[Op.operands]),A.opd (x:=y) (by simp[Op.operands])]
 ·rename_i op _ x;rw[A.opd (by simp[Op.operands])]
 ·rename_i src dst x;rw[A.opd (by simp[Op.operands])]
 ·rename_i t x;cases x with
  |tmp s=>simp only[A.slot s (by simp[Op.operands])]
  |_=>rfl
 ·rename_i f first captured
  have h1:gM st' captured.toList=gM st captured.toList:=nQ (A.sub λx hx=>by simp only[Op.operands,Array.toList_append,NV];exact .inr hx);have h2:gM st' first.toList=gM st first.toList:=nQ (A.sub λx hx=>by simp only[Op.operands,Array.toList_append,NV];exact .inl hx)
  rw[h1,h2]
 ·rename_i x;rw[A.opdV (by simp[Op.operands])];cases hx:opdV st x with
  |none=>rfl
  |some v=>
   simp only[au];rw[Gm (A.keysV (by simp[Op.operands]) hx)]
 ·rename_i x i;split
  ·rename_i t;rw[A.slot t (by simp[Op.operands])]
  ·rfl
 ·rename_i args argTypes _;split
  ·rename_i x t ha ht;rw[A.opd (x:=x) (by simp[Op.operands,Call.operands,<- Array.mem_toList_iff,ha])];cases hx:opd st x with
   |none=>rfl
   |some v=>
    simp only[au];exact K7 (A.keys (by simp[Op.operands,Call.operands,<- Array.mem_toList_iff,ha]) hx)
  ·rfl
 ·rename_i args _ _;rw[nQ (A.sub λx hx=>by simp[Op.operands,Call.operands];simpa using hx)]
 ·rename_i args _ _;rw[nQ (A.sub λx hx=>by simp[Op.operands,Call.operands];simpa using hx)]
 ·rfl
end
end Rv
namespace Rv
open Go
section
variable{R:Type}{r:R}{st:St}{te:zae->W TI}
def dO{α:Type}(F:(α->W R)->W R)(K:α->W R)(r:R):Prop:=∃y,K y=O r/\∀K',F K'=K' y
theorem dO.one{F:(V1->W R)->W R}{K:V->W R}(h:dO F (one K) r):dO (λK=>F (one K)) K r:=by
 obtain⟨y,h1,h2⟩:=h;exact⟨.v y,h1,λK'=>h2 _⟩
theorem fF{α:Type}{x:W α}{K:α->W R}(he:au x K=O r):dO (au x) K r:=by
 obtain⟨a,rfl,h⟩:=ae he;exact⟨a,h,λ_=>rfl⟩
theorem DN{op:BinOp}{k:IntKind}{x y:Int}{K:Cell->W R}(he:oD op k x y K=O r):dO (oD op k x y) K r:=by
 unfold oD at he;split at he<;>first
  |exact⟨_,he,λK'=>rfl⟩
  |(obtain⟨hy,he'⟩:=kX he;exact⟨_,he',λK'=>by simp only[oD,zak hy]⟩)
  |cases he
theorem DV{op:BinOp}{x y:Str}{K:Cell->W R}(he:oF op x y K=O r):dO (oF op x y) K r:=by
 unfold oF at he;split at he<;>first
  |exact⟨_,he,λK'=>rfl⟩
  |(obtain⟨hy,he'⟩:=aa he;exact⟨_,he',λK'=>by simp only[oF,zab hy]⟩)
  |cases he
theorem yh{op:BinOp}{k:IntKind}{x y:Int}{K:Cell->W R}(he:shI op k x y K=O r):dO (shI op k x y) K r:=by
 unfold shI at he;obtain⟨hy,he⟩:=kX he;split at he;·exact⟨_,he,λK'=>by simp only[shI,zak hy]⟩
 ·rename_i hne;refine⟨_,he,λK'=>?_⟩;unfold shI;rw[zak hy];split
  ·exact absurd rfl hne
  ·rfl
theorem Ic{isB isI isX:zai}{ik:zae->W IntKind}{et:W Ty}{op:BinOp}{k k':IntKind}{x y:Int}{K:V1->W R}(h1:op≠.shl)(h2:op≠.shr):iM isB isI isX ik et op (.c (.int k x)) (.c (.int k' y)) K=if k=k' then oD op k x y λc=>K (.c c) else zaf:=by
 cases op<;>first|rfl|exact absurd rfl h1|exact absurd rfl h2
theorem Ie{isB isI isX:zai}{ik:zae->W IntKind}{et:W Ty}{op:BinOp}{x y:Str}{K:V1->W R}:iM isB isI isX ik et op (.c (.str x)) (.c (.str y)) K=oF op x y λc=>K (.c c):=by
 cases op<;>rfl
theorem sP{T:Ty}{xs ys:Z Cell}{K:zai->W R}(he:mh T xs ys K=O r):dO (mh T xs ys) K r:=by
 unfold mh at he;split at he;·rename_i hx hy;exact⟨_,he,λK'=>by simp only[mh,hx,hy]⟩
 ·cases he
theorem DT{isB isI isX:zai}{ik:zae->W IntKind}{et:W Ty}{op:BinOp}{a b:V1}{K:V1->W R}(he:iM isB isI isX ik et op a b K=O r):dO (iM isB isI isX ik et op a b) K r:=by
 unfold iM at he;split at he;·obtain⟨y,h1,h2⟩:=yh he;exact⟨_,h1,λK'=>h2 λc=>K' (.c c)⟩
 ·obtain⟨y,h1,h2⟩:=yh he;exact⟨_,h1,λK'=>h2 λc=>K' (.c c)⟩
 ·rename_i k x k' y hn hn';obtain⟨hk,he⟩:=aa he;obtain⟨z,h1,h2⟩:=DN he;have g1:op≠.shl:=λe=>by simp[e] at hn
  have g2:op≠.shr:=λe=>by simp[e] at hn'
  refine⟨_,h1,λK'=>?_⟩;rw[Ic g1 g2,zab hk];exact h2 λc=>K' (.c c)
 ·obtain⟨z,h1,h2⟩:=DV he;refine⟨_,h1,λK'=>?_⟩;rw[Ie];exact h2 λc=>K' (.c c)
 ·obtain⟨hb,he⟩:=aa he;exact⟨_,he,λK'=>by simp only[iM,zab hb]⟩
 ·obtain⟨hb,he⟩:=aa he;exact⟨_,he,λK'=>by simp only[iM,zab hb]⟩
 ·obtain⟨hb,he⟩:=aa he;exact⟨_,he,λK'=>by simp only[iM,zab hb]⟩
 ·obtain⟨hb,he⟩:=aa he;exact⟨_,he,λK'=>by simp only[iM,zab hb]⟩
 ·obtain⟨hb,he⟩:=aa he;exact⟨_,he,λK'=>by simp only[iM,zab hb]⟩
 ·obtain⟨hb,he⟩:=aa he;exact⟨_,he,λK'=>by simp only[iM,zab hb]⟩
 ·obtain⟨hb,he⟩:=aa he;exact⟨_,he,λK'=>by simp only[iM,zab hb]⟩
 ·obtain⟨hb,he⟩:=aa he;exact⟨_,he,λK'=>by simp only[iM,zab hb]⟩
 ·split at he
  ·obtain⟨y,h1,h2⟩:=sP he;exact⟨_,h1,λK'=>h2 λb=>K' (.c (.bool b))⟩
  ·cases he
 ·split at he
  ·obtain⟨y,h1,h2⟩:=sP he;exact⟨_,h1,λK'=>h2 λb=>K' (.c (.bool !b))⟩
  ·cases he
 ·cases he
theorem Hu{op:UnOp}{a:V1}{K:V1->W R}(he:unK op a K=O r):dO (unK op a) K r:=by
 unfold unK at he;split at he;·exact⟨_,he,λK'=>rfl⟩
 ·exact⟨_,he,λK'=>rfl⟩
 ·exact⟨_,he,λK'=>rfl⟩
 ·cases he
theorem BM{t:zae}{x:V1}{K:V1->W R}(he:dG te st t x K=O r):dO (dG te st t x) K r:=by
 unfold dG at he;split at he
 ·rename_i hti;split at he
  ·rename_i hat
   obtain⟨hle,he⟩:=aa he;obtain⟨y,hm,he⟩:=ae he;exact⟨y,he,λK'=>by simp only[dG,hti,hat,zab hle,hm,au]⟩
  ·cases he
 ·rename_i hti;split at he
  ·rename_i hat
   obtain⟨hle,he⟩:=aa he;obtain⟨y,hm,he⟩:=ae he;exact⟨y,he,λK'=>by simp only[dG,hti,hat,zab hle,hm,au]⟩
  ·rename_i hat
   obtain⟨hle,he⟩:=aa he;obtain⟨y,hm,he⟩:=ae he;exact⟨y,he,λK'=>by simp only[dG,hti,hat,zab hle,hm,au]⟩
  ·cases he
 ·rename_i hti;split at he
  ·rename_i hat
   obtain⟨hle,he⟩:=aa he;obtain⟨y,hm,he⟩:=ae he;exact⟨_,he,λK'=>by simp only[dG,hti,hat,zab hle,hm,au]⟩
  ·cases he
 ·rename_i hti;obtain⟨hd,he⟩:=aa he;obtain⟨hle,he⟩:=aa he;obtain⟨y,hm,he⟩:=ae he;exact⟨y,he,λK'=>by simp only[dG,hti,zab hd,zab hle,hm,au]⟩
 ·cases he
theorem BO{t:zae}{x:V1}{K:V->W R}(he:jq te st t x K=O r):dO (jq te st t x) K r:=by
 unfold jq at he;split at he
 ·split at he
  ·rename_i hti hat
   obtain⟨h1,he⟩:=aa he;exact⟨_,he,λK'=>by simp only[jq,hti,hat,zab h1]⟩
  ·cases he
 ·rename_i hne;obtain⟨y,h1,h2⟩:=(BM he).one;refine⟨y,h1,λK'=>?_⟩;unfold jq;split
  ·exact absurd rfl (hne _ _ _)
  ·exact h2 K'
theorem ui{es ar:W Nat}{el:W (Nat×Nat)}{x i:V1}{K:V1->W R}(he:aQ st es ar el x i K=O r):dO (aQ st es ar el x i) K r:=by
 unfold aQ at he;split at he;·obtain⟨h1,he⟩:=aa he;obtain⟨h2,he⟩:=aa he;obtain⟨h3,he⟩:=aa he;exact⟨_,he,λK'=>by simp only[aQ,zab h1,zab h2,zab h3]⟩
 ·split at he
  ·rename_i hl;obtain⟨h2,he⟩:=aa he;obtain⟨h3,he⟩:=aa he;exact⟨_,he,λK'=>by simp only[aQ,hl,zab h2,zab h3]⟩
  ·cases he
 ·split at he
  ·rename_i hl;obtain⟨h2,he⟩:=aa he;obtain⟨h3,he⟩:=aa he;exact⟨_,he,λK'=>by simp only[aQ,hl,zab h2,zab h3]⟩
  ·cases he
 ·rename_i k v fs ik i;obtain⟨h1,he⟩:=aa he;split at he
  ·rename_i hat
   obtain⟨m,f,_,_,h3,h4⟩:=rq he;exact⟨_,h3,λK'=>by simp only[aQ,zab h1,hat];exact h4 _⟩
  ·cases he
 ·split at he
  ·rename_i har hat
   obtain⟨h3,he⟩:=aa he;exact⟨_,he,λK'=>by simp only[aQ,hat,zab h3]⟩
  ·rename_i hat
   split at he;·obtain⟨m,_,_,_,h3,h4⟩:=pJ he;exact⟨_,h3,λK'=>by simp only[aQ,hat];exact h4 _⟩
   ·cases he
  ·cases he
 ·cases he
theorem zO{str:zai}{ar:W Nat}{x i:V1}{K:V1->W R}(he:ky str ar x i K=O r):dO (ky str ar x i) K r:=by
 unfold ky at he;split at he;·obtain⟨h2,he⟩:=aa he;obtain⟨h3,he⟩:=aa he;exact⟨_,he,λK'=>by simp only[ky,zab h2,zab h3]⟩
 ·split at he
  ·obtain⟨h2,he⟩:=aa he;obtain⟨h3,he⟩:=aa he;obtain⟨c,hm,he⟩:=ae he;exact⟨_,he,λK'=>by simp only[ky,zab h2,zab h3,hm,au]⟩
  ·cases he
 ·cases he
theorem Eo{str:zai}{es:W Nat}{x:V1}{K:Nat->W R}(he:fD st str es x K=O r):dO (fD st str es x) K r:=by
 unfold fD at he;split at he;·obtain⟨h1,he⟩:=aa he;exact⟨_,he,λK'=>by simp only[fD,zab h1]⟩
 ·obtain⟨h1,he⟩:=aa he;obtain⟨h2,he⟩:=aa he;exact⟨_,he,λK'=>by simp only[fD,zab h1,zab h2]⟩
 ·obtain⟨h1,he⟩:=aa he;exact⟨_,he,λK'=>by simp only[fD,zab h1]⟩
 ·obtain⟨h1,he⟩:=aa he;obtain⟨h2,he⟩:=aa he;exact⟨_,he,λK'=>by simp only[fD,zab h1,zab h2]⟩
 ·split at he
  ·rename_i hat
   obtain⟨h1,he⟩:=aa he;exact⟨_,he,λK'=>by simp only[fD,hat,zab h1]⟩
  ·cases he
 ·split at he
  ·rename_i hl;obtain⟨h1,he⟩:=aa he;exact⟨_,he,λK'=>by simp only[fD,hl,zab h1]⟩
  ·cases he
 ·split at he
  ·rename_i hl;obtain⟨h1,he⟩:=aa he;exact⟨_,he,λK'=>by simp only[fD,hl,zab h1]⟩
  ·cases he
 ·cases he
def qW(lo:W V1)(h:Int)(K:Nat->Nat->W R):W R:=
 match lo with
 |none=>K 0 h.toNat
 |some (.c (.int _ l))=>if 0<=l/\l<=h then K l.toNat h.toNat else zaf
 |some _=>zaf
theorem pq{lo:W V1}{h:Int}{K:Nat->Nat->W R}(he:qW lo h K=O r):∃l,K l h.toNat=O r/\∀K':Nat->Nat->W R,qW lo h K'=K' l h.toNat:=by
 unfold qW at he;split at he;·exact⟨0,he,λK'=>rfl⟩
 ·rename_i l;obtain⟨h1,he⟩:=aa he;exact⟨_,he,λK'=>by simp only[qW,zab h1]⟩
 ·cases he
theorem bR{n:Nat}{lo hi mx:W V1}{K:Nat->Nat->W R}(he:fo n lo hi mx K=O r):∃l h,K l h=O r/\∀K':Nat->Nat->W R,fo n lo hi mx K'=K' l h:=by
 cases mx with
 |none=>
  cases hi with
  |none=>
   obtain⟨l,h1,h2⟩:=pq (lo:=lo) (h:=(n:Int)) he;exact⟨l,_,h1,λK'=>h2 K'⟩
  |some v=>
   cases v with
   |agg cs=>cases he
   |c c=>
    cases c with
    |int k h=>
     have he1:(if 0<=h/\h<=(n:Int) then qW lo h K else zaf)=O r:=he;obtain⟨h0,he2⟩:=aa he1;obtain⟨l,h1,h2⟩:=pq he2;refine⟨l,_,h1,λK'=>?_⟩;show(if 0<=h/\h<=(n:Int) then qW lo h K' else zaf)=_;rw[zab h0];exact h2 K'
    |_=>cases he
 |some m=>
  cases m with
  |agg cs=>cases he
  |c c=>
   cases c with
   |int mk m=>
    cases hi with
    |none=>
     have he1:(if 0<=m/\m<=(n:Int) then zaf else zaf)=O r:=he;split at he1<;>cases he1
    |some v=>
     cases v with
     |agg cs=>
      have he1:(if 0<=m/\m<=(n:Int) then zaf else zaf)=O r:=he;split at he1<;>cases he1
     |c c=>
      cases c with
      |int k h=>
       have he1:(if 0<=m/\m<=(n:Int) then(if 0<=h/\h<=m then qW lo h K else zaf) else zaf)=O r:=he;obtain⟨hm,he2⟩:=aa he1;obtain⟨h0,he3⟩:=aa he2;obtain⟨l,h1,h2⟩:=pq he3;refine⟨l,_,h1,λK'=>?_⟩;show(if 0<=m/\m<=(n:Int) then(if 0<=h/\h<=m then qW lo h K' else zaf) else zaf)=_;rw[zab hm,zab h0];exact h2 K'
      |_=>
       have he1:(if 0<=m/\m<=(n:Int) then zaf else zaf)=O r:=he;split at he1<;>cases he1
   |_=>cases he
theorem rO{str:zai}{es:W Nat}{x:V1}{lo hi mx:W V1}{K:V1->W R}(he:aU st str es x lo hi mx K=O r):dO (aU st str es x lo hi mx) K r:=by
 cases x with
 |agg cs=>cases he
 |c c=>
  cases c with
  |str s=>
   cases mx with
   |some m=>cases he
   |none=>
    simp only[aU] at he;obtain⟨h1,he⟩:=aa he;obtain⟨l,h,h2,h3⟩:=bR he;exact⟨_,h2,λK'=>by simp only[aU,zab h1];exact h3 _⟩
  |nilS=>
   simp only[aU] at he;obtain⟨h1,he⟩:=aa he;obtain⟨l,h,h2,h3⟩:=bR he;exact⟨_,h2,λK'=>by simp only[aU,zab h1];exact h3 _⟩
  |sl d t xs=>
   simp only[aU] at he;obtain⟨h0,he⟩:=aa he;obtain⟨h1,he⟩:=aa he;obtain⟨l,h,h2,h3⟩:=bR he;exact⟨_,h2,λK'=>by simp only[aU,zab h0,zab h1];exact h3 _⟩
  |own k v=>
   cases hl:rowLen st.h k v with
   |none=>simp only[aU,hl] at he;cases he
   |some tn=>
    obtain⟨t,n⟩:=tn;cases lo with
    |none=>
     cases mx with
     |none=>
      simp only[aU,hl] at he;obtain⟨h1,he⟩:=aa he;obtain⟨l,h,h2,h3⟩:=bR he;exact⟨_,h2,λK'=>by simp only[aU,hl,zab h1];exact h3 _⟩
     |some m=>
      simp only[aU,hl] at he;obtain⟨h1,he⟩:=aa he;obtain⟨rw,h0,he⟩:=ae he;obtain⟨l,h,h2,h3⟩:=bR he;exact⟨_,h2,λK'=>by simp only[aU,hl,zab h1,h0,au];exact h3 _⟩
    |some lv=>
     simp only[aU,hl] at he;obtain⟨h1,he⟩:=aa he;obtain⟨rw,h0,he⟩:=ae he;obtain⟨l,h,h2,h3⟩:=bR he;exact⟨_,h2,λK'=>by simp only[aU,hl,zab h1,h0,au];exact h3 _⟩
  |ownP k v m0=>
   cases hl:rowLen st.h k v with
   |none=>simp only[aU,hl] at he;cases he
   |some tn=>
    obtain⟨t,n⟩:=tn;cases lo with
    |none=>
     cases mx with
     |none=>
      simp only[aU,hl] at he;obtain⟨h1,he⟩:=aa he;obtain⟨l,h,h2,h3⟩:=bR he;exact⟨_,h2,λK'=>by simp only[aU,hl,zab h1];exact h3 _⟩
     |some m=>
      simp only[aU,hl] at he;obtain⟨h1,he⟩:=aa he;obtain⟨rw,h0,he⟩:=ae he;obtain⟨l,h,h2,h3⟩:=bR he;exact⟨_,h2,λK'=>by simp only[aU,hl,zab h1,h0,au];exact h3 _⟩
    |some lv=>
     simp only[aU,hl] at he;obtain⟨h1,he⟩:=aa he;obtain⟨rw,h0,he⟩:=ae he;obtain⟨l,h,h2,h3⟩:=bR he;exact⟨_,h2,λK'=>by simp only[aU,hl,zab h1,h0,au];exact h3 _⟩
  |_=>cases he
theorem Bh{t:zae}{x v:V1}{K:Z (Nat×En)->W R}(he:d9 te st t x v K=O r):dO (d9 te st t x v) K r:=by
 unfold d9 at he;split at he
 ·rename_i hti;split at he
  ·rename_i hat
   obtain⟨h1,he⟩:=aa he;obtain⟨h2,he⟩:=aa he;exact⟨_,he,λK'=>by simp only[d9,hti,hat,zab h1,zab h2]⟩
  ·cases he
 ·rename_i hti;split at he
  ·rename_i hat
   obtain⟨h1,he⟩:=aa he;obtain⟨h2,he⟩:=aa he;split at he;·rename_i hns;exact⟨_,he,λK'=>by simp only[d9,hti,hat,zab h1,zab h2,hns]⟩
   ·cases he
  ·cases he
 ·rename_i hti;split at he
  ·rename_i hat
   obtain⟨h1,he⟩:=aa he;obtain⟨h2,he⟩:=aa he;obtain⟨y,h3,he⟩:=ae he;exact⟨_,he,λK'=>by simp only[d9,hti,hat,zab h1,zab h2,h3,au]⟩
  ·cases he
 ·cases he
theorem yA{d:W Nat}{sT:zae}{s x:V1}{K:Dl->W R}(he:gG te st d sT s x K=O r):∃y,K y=O r/\(∀K':Dl->W R,gG te st d sT s x K'=K' y)/\dk d∈y.up.map (·.1):=by
 unfold gG at he;split at he;·cases he
 ·rename_i e he0;split at he
  ·cases he
  ·rename_i ti hti;split at he
   ·cases he
   ·rename_i t ht;split at he
    ·rename_i xs k ys hb hm;obtain⟨h1,he⟩:=aa he;exact⟨_,he,λK'=>by simp only[gG,he0,hti,ht,hb,hm,zab h1],by simp⟩
    ·cases he
theorem Be{str:zai}{es:W Nat}{x:V1}{lo hi mx:W V1}{K:V1->W R}(he:gD st str es x lo hi mx K=O r):dO (gD st str es x lo hi mx) K r:=by
 unfold gD at he;split at he
 ·split at he
  ·rename_i hrr;obtain⟨h1,he⟩:=aa he;exact⟨_,he,λK'=>by simp only[gD,hrr,zab h1]⟩
  ·rename_i hrr;obtain⟨y,h1,h2⟩:=rO he;exact⟨y,h1,λK'=>by simp only[gD,hrr];exact h2 K'⟩
 ·rename_i hne;obtain⟨y,h1,h2⟩:=rO he;refine⟨y,h1,λK'=>?_⟩;unfold gD;split
  ·exact absurd rfl (hne _ _ _ _ _ rfl rfl rfl)
  ·exact h2 K'
theorem yB{d:W Nat}{sT:zae}{s x:V1}{K:Dl->W R}(he:eZ te st d sT s x K=O r):∃y,K y=O r/\(∀K':Dl->W R,eZ te st d sT s x K'=K' y)/\dk d∈y.up.map (·.1):=by
 unfold eZ at he;split at he
 ·split at he
  ·cases he
  ·rename_i e he0;split at he
   ·cases he
   ·rename_i ti hti;split at he
    ·cases he
    ·rename_i t ht;split at he
     ·rename_i xs ys hb hm;obtain⟨h1,he⟩:=aa he;obtain⟨h2,he⟩:=aa he;exact⟨_,he,λK'=>by simp only[eZ,he0,hti,ht,hb,hm,zab h1,zab h2],by simp⟩
     ·cases he
 ·rename_i hne;obtain⟨y,h1,h2,h3⟩:=yA he;refine⟨y,h1,λK'=>?_,h3⟩;unfold eZ;split
  ·exact absurd rfl (hne _ _ _)
  ·exact h2 K'
theorem yx{op:Op}{K:V->W R}(he:vop te st op K=O r):dO (vop te st op) K r:=by
 unfold vop at he;split at he;·exact fF he
 ·exact fF he
 ·rename_i c a b;split at he
  ·rename_i t hc;split at he
   ·rename_i ht;obtain⟨y,h1,h2⟩:=fF he |>.one;exact⟨y,h1,λK'=>by simp only[vop,hc,zab ht];exact h2 K'⟩
   ·rename_i ht;obtain⟨y,h1,h2⟩:=fF he |>.one;exact⟨y,h1,λK'=>by simp only[vop,hc,zak ht];exact h2 K'⟩
  ·cases he
 ·split at he
  ·rename_i hti hp;split at he
   ·rename_i har;obtain⟨cs,h1,he⟩:=ae he;exact⟨_,he,λK'=>by simp only[vop,hti,hp,har,h1,au]⟩
   rename_i har;obtain⟨h0,he⟩:=kX he;obtain⟨cs,h1,he⟩:=ae he;exact⟨_,he,λK'=>by simp only[vop,hti,hp,har,zak h0,h1,au]⟩
  ·cases he
 ·obtain⟨v,hv,he⟩:=ae he;obtain⟨y,h1,h2⟩:=BO he;exact⟨y,h1,λK'=>by simp only[vop,hv,au];exact h2 K'⟩
 ·split at he
  ·rename_i hx hf;split at he
   ·rename_i hat
    exact⟨_,he,λK'=>by simp only[vop,hx,hf,hat]⟩
   ·cases he
  ·rename_i hx hf;split at he
   ·rename_i hat
    exact⟨_,he,λK'=>by simp only[vop,hx,hf,hat]⟩
   ·cases he
  ·rename_i hx hf;obtain⟨h1,he⟩:=aa he;exact⟨_,he,λK'=>by simp only[vop,hx,hf,zab h1]⟩
  ·cases he
 ·split at he
  ·rename_i hx hf;obtain⟨h1,he⟩:=aa he;obtain⟨y,h2,h3⟩:=(fF he).one;exact⟨y,h2,λK'=>by simp only[vop,hx,hf,zab h1];exact h3 K'⟩
  ·cases he
 ·obtain⟨x,hx,he⟩:=ae he;obtain⟨i,hi,he⟩:=ae he;obtain⟨y,h1,h2⟩:=(ui he).one;exact⟨y,h1,λK'=>by simp only[vop,hx,hi,au];exact h2 K'⟩
 ·obtain⟨x,hx,he⟩:=ae he;obtain⟨i,hi,he⟩:=ae he;obtain⟨y,h1,h2⟩:=(zO he).one;exact⟨y,h1,λK'=>by simp only[vop,hx,hi,au];exact h2 K'⟩
 ·obtain⟨x,hx,he⟩:=ae he;obtain⟨lo,hlo,he⟩:=ae he;obtain⟨hi,hhi,he⟩:=ae he;obtain⟨mx,hmx,he⟩:=ae he;obtain⟨y,h1,h2⟩:=(Be he).one;exact⟨y,h1,λK'=>by simp only[vop,hx,hlo,hhi,hmx,au];exact h2 K'⟩
 ·obtain⟨x,hx,he⟩:=ae he;obtain⟨i,hi,he⟩:=ae he;obtain⟨y,h1,h2⟩:=(DT he).one;exact⟨y,h1,λK'=>by simp only[vop,hx,hi,au];exact h2 K'⟩
 ·obtain⟨x,hx,he⟩:=ae he;obtain⟨y,h1,h2⟩:=(Hu he).one;exact⟨y,h1,λK'=>by simp only[vop,hx,au];exact h2 K'⟩
 ·split at he
  ·rename_i hx hti;split at he
   ·rename_i hk;obtain⟨h1,he⟩:=aa he;exact⟨_,he,λK'=>by simp only[vop,hx,hti,hk,zab h1]⟩
   ·cases he
  ·cases he
 ·rename_i t x;split at he
  ·rename_i ti hti;split at he
   ·cases he
   ·rename_i hni;split at he
    ·rename_i hs;exact⟨_,he,λK'=>by simp only[vop,hti,zak hni,hs]⟩
    ·rename_i u hn hs;refine⟨_,he,λK'=>?_⟩;simp only[vop,hti,zak hni,hs]
    ·cases he
  ·cases he
 ·obtain⟨h0,he⟩:=aa he;split at he
  ·rename_i h1;obtain⟨vs,h2,he⟩:=ae he;obtain⟨cs,h3,he⟩:=ae he;exact⟨_,he,λK'=>by simp only[vop,zab h0,zab h1,h2,h3,au]⟩
  ·rename_i hn;obtain⟨h1,he⟩:=aa he;obtain⟨vs,h2,he⟩:=ae he;obtain⟨cs,h3,he⟩:=ae he;exact⟨_,he,λK'=>by simp only[vop,zab h0,zak hn,zab h1,h2,h3,au]⟩
 ·obtain⟨v,hv,he⟩:=ae he;obtain⟨hn,he⟩:=aa he;exact⟨_,he,λK'=>by simp only[vop,hv,au,zab hn]⟩
 ·split at he
  ·split at he
   ·rename_i hs;obtain⟨y,h1,h2⟩:=(fF he).one;exact⟨y,h1,λK'=>by simp only[vop,hs];exact h2 K'⟩
   ·cases he
  ·cases he
 ·split at he
  ·rename_i ha ht;obtain⟨x,hx,he⟩:=ae he;obtain⟨n,h1,h2⟩:=Eo he;exact⟨_,h1,λK'=>by simp only[vop,ha,ht,hx,au];exact h2 _⟩
  ·cases he
 ·split at he
  ·rename_i ha;obtain⟨n,hn,he⟩:=ae he;exact⟨_,he,λK'=>by simp only[vop,ha,hn,au]⟩
  ·cases he
 ·split at he
  ·rename_i ha;obtain⟨n,hn,he⟩:=ae he;exact⟨_,he,λK'=>by simp only[vop,ha,hn,au]⟩
  ·cases he
 ·cases he
end
end Rv
namespace Rv
open Go
section
variable{R:Type}{r:R}{st st':St}{te:zae->W TI}{h h':Heap}
theorem oL{k v dv:Nat}(hd:h.depOk (O (k,v,dv))=zac):∃e,h k=O e:=by
 simp only[Heap.depOk] at hd;split at hd;·exact⟨_,by assumption⟩
 ·cases hd
theorem tO{k v:Nat}{b:Box}(ha:h.at k v=O b):∃e,h k=O e:=by
 obtain⟨e,he,_⟩:=aH ha;exact⟨e,he⟩
theorem Kz{bm:Z Nat}{cd:CD}{c:Cell}{y:cd.T}{m:Met}(ha:cd.abs h bm c=O (y,m)):∀k,k∈m.deps->k∈c.keys/\∃e,h k=O e:=by
 intro k hk;cases cd with
 |sl t=>
  cases c with
  |nilS=>simp only[CD.abs,ND,NI] at ha;rw[<- ha.2] at hk;simp at hk
  |sl d t' xs=>
   simp only[CD.abs] at ha;obtain⟨hd,ha⟩:=aa ha;split at ha
   ·simp only[ND,NI] at ha;rw[<- ha.2] at hk;cases d with
    |none=>simp at hk
    |some x=>
     obtain⟨a,b,c⟩:=x;have hk:k=a:=by simpa using hk
     subst hk;exact⟨by simp[Cell.keys],oL hd⟩
   ·cases ha
  |slc d t' xs=>
   simp only[CD.abs] at ha;obtain⟨hd,ha⟩:=aa ha;split at ha
   ·simp only[ND,NI] at ha;rw[<- ha.2] at hk;cases d with
    |none=>simp at hk
    |some x=>
     obtain⟨a,b,c⟩:=x;have hk:k=a:=by simpa using hk
     subst hk;exact⟨by simp[Cell.keys],oL hd⟩
   ·cases ha
  |own k' v=>
   simp only[CD.abs] at ha;split at ha
   ·rename_i hat
    split at ha
    ·simp only[ND,NI] at ha;rw[<- ha.2] at hk;have hk:k=k':=by simpa using hk
     subst hk;exact⟨by simp[Cell.keys],tO hat⟩
    ·cases ha
   ·cases ha
  |ownP k' v n=>
   simp only[CD.abs] at ha;split at ha
   ·rename_i hat
    split at ha
    ·simp only[ND,NI] at ha;rw[<- ha.2] at hk;have hk:k=k':=by simpa using hk
     subst hk;exact⟨by simp[Cell.keys],tO hat⟩
    ·cases ha
   ·cases ha
  |_=>cases ha
 |row e t=>
  cases c with
  |nilS=>simp only[CD.abs,ND,NI] at ha;rw[<- ha.2] at hk;simp at hk
  |own k' v=>
   simp only[CD.abs] at ha;split at ha
   ·obtain⟨_,ha⟩:=aa ha;split at ha
    ·simp only[ND,NI] at ha;rw[<- ha.2] at hk;simp at hk
    ·cases ha
   ·cases ha
  |ownP k' v n=>
   simp only[CD.abs] at ha;split at ha
   ·obtain⟨_,ha⟩:=aa ha;split at ha
    ·simp only[ND,NI] at ha;rw[<- ha.2] at hk;simp at hk
    ·cases ha
   ·cases ha
  |_=>cases ha
 |ptr i off=>
  cases c with
  |ptr k' v o=>
   simp only[CD.abs] at ha;obtain⟨_,ha⟩:=aa ha;obtain⟨_,ha⟩:=aa ha;split at ha;·have:=(Prod.mk.inj (NF ha)).2;rw[<- this] at hk;simp at hk
   ·cases ha
  |_=>cases ha
 |slc t=>
  cases c with
  |slc d t' xs=>
   simp only[CD.abs] at ha;obtain⟨hd,ha⟩:=aa ha;split at ha
   ·simp only[ND,NI] at ha;rw[<- ha.2] at hk;cases d with
    |none=>simp at hk
    |some x=>
     obtain⟨a,b,c⟩:=x;have hk:k=a:=by simpa using hk
     subst hk;exact⟨by simp[Cell.keys],oL hd⟩
   ·cases ha
  |_=>cases ha
 |clr i fs=>
  cases c with
  |clr k' v gs=>
   simp only[CD.abs] at ha;obtain⟨_,ha⟩:=aa ha;obtain⟨_,ha⟩:=aa ha;split at ha;·have:=(Prod.mk.inj (NF ha)).2;rw[<- this] at hk;simp at hk
   ·cases ha
  |_=>cases ha
 |pp t=>
  cases c with
  |slp d t' xs i off=>cases d with
   |none=>
    simp only[CD.abs] at ha;obtain⟨_,ha⟩:=aa ha;split at ha
    ·split at ha
     ·have:=(Prod.mk.inj (NF ha)).2;rw[<- this] at hk;simp at hk
     ·cases ha
    ·cases ha
   |some x=>cases ha
  |ptr k' v off=>
   simp only[CD.abs] at ha;split at ha
   ·rename_i hat
    obtain⟨_,ha⟩:=aa ha;split at ha
    ·simp only[ND,NI] at ha;rw[<- ha.2] at hk;have hk:k=k':=by simpa using hk
     subst hk;exact⟨by simp[Cell.keys],tO hat⟩
    ·cases ha
   ·cases ha
  |_=>cases ha
 |any=>
  have:O ((),(⟨[],[]⟩:Met))=O (y,m):=by cases c<;>exact ha
  have:=(Prod.mk.inj (NF this)).2;rw[<- this] at hk;simp at hk
 |_=>
  exfalso;cases c<;>first
   |(cases ha;done)
   |(
    simp only[CD.abs] at ha;obtain⟨_,ha⟩:=aa ha;have:=(Prod.mk.inj (NF ha)).2;rw[<- this] at hk;simp at hk;done)
   |(
    have:=(Prod.mk.inj (NF ha)).2;rw[<- this] at hk;simp at hk;done)
theorem xe{bm:Z Nat}:∀{l:Z CD}{cs:Z Cell}{x:TL l}{m:Met},eF h bm l cs=O (x,m)->∀k,k∈m.deps->(∃c,c∈cs/\k∈c.keys)/\∃e,h k=O e
 |[],[],x,m,ha,k,hk=>by
  have:=(Prod.mk.inj (NF ha)).2;rw[<- this] at hk;simp at hk
 |[],_::_,_,_,ha,_,_=>by cases ha
 |_::_,[],_,_,ha,_,_=>by cases ha
 |cd::l,c::cs,x,m,ha,k,hk=>by
  simp only[eF] at ha;split at ha
  ·rename_i y m1 h1;split at ha
   ·rename_i ys m2 h2;simp only[ND,NI] at ha;rw[<- ha.2] at hk;simp only[NV] at hk;rcases hk with hk|hk
    ·obtain⟨g1,g2⟩:=Kz h1 k hk;exact⟨⟨c,by simp,g1⟩,g2⟩
    ·obtain⟨⟨c',hc,hk'⟩,g2⟩:=xe h2 k hk;exact⟨⟨c',by simp[hc],hk'⟩,g2⟩
   ·cases ha
  ·cases ha
theorem EY{sh:Shape}{l:Z V}{a:Abs sh.T}(ha:sh.abs ⟨l,h⟩=O a):∀k,k∈a.m.deps->(∃e,h k=O e)/\(a.bm=[]->∃v,v∈l/\k∈v.keys):=by
 intro k hk;unfold Shape.abs at ha;split at ha
 ·rename_i cs hg;split at ha
  ·rename_i all bm hgb;split at ha
   ·rename_i x m hm;obtain⟨_,ha⟩:=aa ha;simp only[ND] at ha;subst ha;obtain⟨⟨c,hc,hkc⟩,he⟩:=xe hm k hk;refine⟨he,λhb=>?_⟩;have hl:=(gI hgb).2;simp only at hb;rw[hb] at hl;have hbx:sh.boxes=[]:=by
     simp only[Ol,Nat.zero_add] at hl;exact List.length_eq_zero_iff.1 hl.symm
    rw[hbx] at hgb;simp only[bq,ND,NI] at hgb;rw[<- hgb.1] at hc;obtain⟨v,hv,hkv⟩:=jT hg c hc;exact⟨v,hv,hkv k hkc⟩
   ·cases ha
  ·cases ha
 ·cases ha
theorem xU:∀{l:Z Operand}{vs:Z V},gU st l=O vs->∀v,v∈vs->∃x,x∈l/\opdV st x=O v
 |[],vs,he,v,hv=>by
  simp only[gU,ND] at he;subst he;simp at hv
 |x::l,vs,he,v,hv=>by
  simp only[gU] at he;split at he
  ·rename_i u hu;split at he
   ·rename_i l' hl;simp only[ND] at he;subst he;rcases NT.1 hv with rfl|hv
    ·exact⟨x,by simp,hu⟩
    ·obtain⟨y,hy,hv'⟩:=xU hl v hv;exact⟨y,by simp[hy],hv'⟩
   ·cases he
  ·cases he
theorem Gg{nm nm':Nm}:∀{l:Z CD}{y:TL l}{m:Nat},(∀i c,c∈l->c.boxN=O i->nm' i=nm i)->(∀i,m<=i->i<(mkL nm l y m).2.2->nm' i=nm i)->mkL nm' l y m=mkL nm l y m
 |[],_,_,_,_=>rfl
 |c::l,y,m,hp,hi=>by
  have hm:∀(nm:Nm),m<=(c.mk nm y.1 m).2.2:=λnm=>by cases c<;>simp[CD.mk]
  have hmm:∀(l:Z CD) (y:TL l) (m:Nat),m<=(mkL nm l y m).2.2:=λl y m=>by rw[(dB nm l y m).1];omega
  have hc:c.mk nm' y.1 m=c.mk nm y.1 m:=by
   cases c with
   |row e t=>
    have:=hi m (NL _) (by have:=hmm l y.2 (m+1);simp only[mkL,CD.mk];omega);simp only[CD.mk,this]
   |ptr i off=>simp only[CD.mk,hp i (.ptr i off) (by simp) rfl]
   |clr i fs=>simp only[CD.mk,hp i (.clr i fs) (by simp) rfl]
   |_=>rfl
  simp only[mkL,hc];rw[Gg (l:=l) (y:=y.2) (λi c hm e=>hp i c (by simp[hm]) e) λi h1 h2=>hi i (by have:=hm nm;omega) h2]
theorem tC{nm nm':Nm}:∀{bl:Z (W Nat×Z CD)}{i:Nat}{cs:Z Cell},(∀j,i<=j->j<i+bl.length->nm' j=nm j)->aR nm' i bl cs=aR nm i bl cs
 |[],_,_,_=>rfl
 |(p,ds)::bl,i,cs,H=>by
  simp only[aR];rw[H i (NL _) (by simp),tC λj h1 h2=>H j (by omega) (by simp;omega)]
theorem mI:∀{ks:Z Nat},Agree h h' ks->bN h' ks=bN h ks
 |[],_=>rfl
 |k::ks,H=>by
  unfold bN;simp only[List.filterMap_cons,H k (by simp)];have:=mI (ks:=ks) (H.sub λk hk=>by simp[hk]);unfold bN at this;rw[this]
theorem xJ:∀{ks:Z Nat},Agree h h' ks->lF h' ks=lF h ks
 |[],_=>rfl
 |k::ks,H=>by
  unfold lF;simp only[List.filterMap_cons,H k (by simp)];have:=xJ (ks:=ks) (H.sub λk hk=>by simp[hk]);unfold lF at this;rw[this]
theorem xD:∀{ks:Z Nat},Agree h h' ks->gy h' ks=gy h ks
 |[],_=>rfl
 |k::ks,H=>by
  unfold gy;simp only[NY,iF (H k (by simp))];have:=xD (ks:=ks) (H.sub λk hk=>by simp[hk]);unfold gy at this;rw[this]
theorem BJ{d:Nat}{sp:Spec}{a:Abs sp.a.T}{y:sp.r.T}(hnb:sp.r.boxes.length=a.bm.length):(∀k,k∈a.keys->k∈(gJ st d sp a y).up.map (·.1))/\(∀k,k∈aS d sp.r->k∈(gJ st d sp a y).up.map (·.1)) /\
  (a.keys≠[]->∀k,k∈a.m.deps->(∃e,st.h k=O e)->k∈(gJ st d sp a y).up.map (·.1)):=by
 unfold gJ;simp only[OA,NV];refine⟨λk hk=>?_,λk hk=>?_,λhne k hk he=>?_⟩
 ·rcases NV.1 hk with hk|hk
  ·right;right;right;left;show k∈(aR (nmI st.h d a.bm) 0 sp.r.boxes _).map (·.1);rw[gz];obtain⟨i,hi⟩:=List.mem_iff_getElem?.1 hk;have hlt:=(NS.1 hi).1;refine N8.2 ⟨i,by simp;omega,?_⟩;simp only[Nat.zero_add,nmI,hi]
  ·right;right;left;exact N8.2 ⟨_,N8.2 ⟨k,hk,rfl⟩,rfl⟩
 ·right;right;right;right;show k∈(mkL (nmI st.h d a.bm) sp.r.all y sp.r.boxes.length).2.1.map (·.1);rw[(dB _ _ _ _).2.1];obtain⟨j,hj,rfl⟩:=N8.1 hk;refine N8.2 ⟨j,hj,?_⟩;simp only[nmI,List.getElem?_eq_none (show a.bm.length<=sp.r.boxes.length+j by omega),nmP]
 ·left;rw[zak (by simpa using hne)];obtain⟨e,he⟩:=he;exact N8.2 ⟨(k,e),List.mem_filterMap.2 ⟨k,hk,by rw[he];rfl⟩,rfl⟩
theorem Ed{d:Nat}{sp:Spec}{a:Abs sp.a.T}{y:sp.r.T}(hpl:sp.r.okRes a.bm.length=zac)(hd:Agree st.h st'.h a.m.deps)(hk:Agree st.h st'.h a.keys)(hn:Agree st.h st'.h (aS d sp.r)):gJ st' d sp a y=gJ st d sp a y:=by
 unfold Shape.okRes at hpl;simp only[NJ,NH] at hpl;obtain⟨⟨⟨⟨hnb,hpin⟩,hidx⟩,hptr⟩,hisv⟩:=hpl;have nB:∀i,i<a.bm.length->nmI st'.h d a.bm i=nmI st.h d a.bm i:=λi hi=>by
  simp only[nmI,NQ hi];rw[hk a.bm[i] (List.mem_append_left _ (Oo hi))]
 have nR:∀i,a.bm.length<=i->i<a.bm.length+(sp.r.all.filter CD.isRow).length->nmI st'.h d a.bm i=nmI st.h d a.bm i:=λi h1 h2=>by
  simp only[nmI,List.getElem?_eq_none h1,nmP];rw[iF (hn (16*d+i) (N8.2 ⟨i-sp.r.boxes.length,by simp;omega,by omega⟩))]
 have hml:mkL (nmI st'.h d a.bm) sp.r.all y sp.r.boxes.length=mkL (nmI st.h d a.bm) sp.r.all y sp.r.boxes.length:=by
  refine Gg (λi c hm hcb=>nB i ?_) λi h1 h2=>nR i (by omega) ?_
  ·have:=CD.ptrB_lt hcb (Oa.1 hptr _ hm);simpa using this
  ·rw[(dB _ _ _ _).1] at h2;omega
 have hma:sp.r.mkAll (nmI st'.h d a.bm) sp.r.slots.length y=sp.r.mkAll (nmI st.h d a.bm) sp.r.slots.length y:=by
  have hpb:∀cs,aR (nmI st'.h d a.bm) 0 sp.r.boxes cs=aR (nmI st.h d a.bm) 0 sp.r.boxes cs:=λcs=>tC λj _ hj=>nB j (by omega)
  unfold Shape.mkAll;rw[hml];simp only[hpb]
 unfold gJ;rw[hma,mI hd,xJ hd,xD (hk.sub λk hk=>List.mem_append_right _ hk)]
theorem vJ{c:Cell}(H:Agree h h' c.keys):fH h' c=fH h c:=by
 cases c with
 |own k v=>simp only[fH,at_eq (H k (by simp[Cell.keys]))]
 |ownP k v n=>simp only[fH,at_eq (H k (by simp[Cell.keys]))]
 |_=>rfl
theorem Gs{c:Cell}:∀k,k∈c.ownK->k∈c.keys:=by
 intro k hk;cases c<;>first|(simp[Cell.ownK] at hk;done)|(simpa[Cell.ownK,Cell.keys] using hk)
theorem vD{x:V1}:∀k,k∈x.ownKs->k∈x.keys:=by
 intro k hk;obtain⟨c,hc,hk⟩:=List.mem_flatMap.1 hk;exact List.mem_flatMap.2 ⟨c,hc,Gs k hk⟩
theorem Ao{x:V1}(H:Agree h h' x.keys):x.pub h'=x.pub h:=by
 cases x with
 |c c=>simp only[V1.pub,vJ (H.sub λk hk=>by simpa[V1.keys,V1.cells] using hk)]
 |agg cs=>
  simp only[V1.pub];congr 1;exact List.map_congr_left λc hc=>vJ (H.sub λk hk=>List.mem_flatMap.2 ⟨c,hc,hk⟩)
theorem Gu{x v:V1}(H:Agree h h' v.keys):nS h' x v=nS h x v/\bN h' (jZ x v)=bN h (jZ x v):=by
 unfold nS jZ;split;·exact⟨Ao H,mI (H.sub vD)⟩
 ·exact⟨rfl,rfl⟩
theorem Ca{ps:Z (Nat×V1)}(H:Agree h h' (ps.flatMap λp=>p.2.keys)):(ps.map λp=>(p.1,p.2.pub h'))=(ps.map λp=>(p.1,p.2.pub h))/\bN h' (ps.flatMap λp=>p.2.ownKs)=bN h (ps.flatMap λp=>p.2.ownKs):=by
 refine⟨List.map_congr_left λp hp=>?_,mI (H.sub λk hk=>?_)⟩;·rw[Ao (H.sub λk hk=>List.mem_flatMap.2 ⟨p,hp,hk⟩)]
 ·obtain⟨p,hp,hk⟩:=List.mem_flatMap.1 hk;exact List.mem_flatMap.2 ⟨p,hp,vD k hk⟩
theorem vH:∀{l:Z (Nat×Operand)}{ps:Z (Nat×V1)}{ops:Z Operand},partsOf st l=O ps->(∀x,x∈l.map (·.2)->x∈ops)->∀k,k∈ps.flatMap (λp=>p.2.keys)->k∈bW st ops
 |[],ps,ops,he,_,k,hk=>by
  simp only[partsOf,ND] at he;subst he;simp at hk
 |(i,x)::l,ps,ops,he,ho,k,hk=>by
  simp only[partsOf] at he;split at he
  ·rename_i v hv;split at he
   ·rename_i l' hl;simp only[ND] at he;subst he;rw[Oz] at hk;rcases NV.1 hk with hk|hk
    ·exact List.mem_flatMap.2 ⟨x,ho x (by simp),by rw[CV hv];exact hk⟩
    ·exact vH hl (λy hy=>ho y (by simp only[NY,NT];exact .inr hy)) k hk
   ·cases he
  ·cases he
theorem rH{k:Nat}:∀{l:Z (Nat×En)}{h h':Heap},h' k=h k->gB h' l k=gB h l k
 |[],_,_,e=>e
 |p::l,h,h',e=>by
  show gB (h'.set p.1 p.2) l k=gB (h.set p.1 p.2) l k;refine rH ?_;by_cases hp:k=p.1;·subst hp;rw[bH,bH]
  ·rw[aW _ _ hp,aW _ _ hp];exact e
theorem qy{E:Env R}{d:W Nat}{f:FuncId}{cs:Z Cell}{vs:Z V}{ops:Z Operand}(hv:∀v,v∈vs->∀k,k∈v.keys->∃x,x∈ops/\∃v',opdV st x=O v'/\k∈v'.keys)
  (hcs:∀c,c∈cs->∀k,k∈c.keys->∃x,x∈ops/\∃v,opdV st x=O v/\k∈v.keys) {K:Dl->W R} (he:jk E st d f cs vs K=O r) :
  ∃x,K x=O r/\∀(st':St) (K':Dl->W R),bM st st' ops->Agree st.h st'.h (x.up.map (·.1))->jk E st' d f cs vs K'=K' x:=by
 unfold jk at he;split at he
 ·rename_i sp hsp;split at he
  ·rename_i ab hab;obtain⟨hok,he⟩:=aa he;cases hy:sp.f ab.x with
   |none=>rw[hy] at he;cases he
   |some y=>
    rw[hy] at he;refine⟨_,he,λst' K' A U=>?_⟩;have hok':=hok;unfold nD at hok;simp only[NJ,NH] at hok;obtain⟨⟨⟨⟨hlen,hpl⟩,hb0⟩,hnk⟩,hnb0⟩:=hok;have hbl:ab.bm.length=sp.a.boxes.length:=by
     unfold Shape.abs at hab;split at hab
     ·split at hab
      ·rename_i hgb;split at hab
       ·obtain⟨_,hab⟩:=aa hab;simp only[ND] at hab;subst hab;simpa using(gI hgb).2
       ·cases hab
      ·cases hab
     ·cases hab
    rw[<- hbl] at hpl;have hnb:sp.r.boxes.length=ab.bm.length:=by
     unfold Shape.okRes at hpl;simp only[NJ,NH] at hpl;exact hpl.1.1.1.1
    obtain⟨u1,u2,u3⟩:=BJ (st:=st) (d:=d.getD 0) (y:=y) hnb;have Hkeys:Agree st.h st'.h ab.keys:=U.sub u1;have Hdeps:Agree st.h st'.h ab.m.deps:=λk hk=>by
     obtain⟨he',hv'⟩:=EY hab k hk;by_cases hne:ab.keys=[]
     ·have hbm:ab.bm=[]:=by
       unfold Abs.keys at hne;exact(List.append_eq_nil_iff.1 hne).1
      obtain⟨v,hvm,hkv⟩:=hv' hbm;rcases NV.1 hvm with hvm|hvm;·obtain⟨x',hx',v',hv',hk'⟩:=hv v hvm k hkv;exact A.keysV hx' hv' k hk'
      ·obtain⟨x,hx,rfl⟩:=N8.1 hvm;obtain⟨x',hx',v',hv',hk'⟩:=hcs x hx k (by simpa[V.keys,V1.keys,V1.cells] using hkv);exact A.keysV hx' hv' k hk'
     ·exact U k (u3 hne k hk he')
    have Hall:Agree st.h st'.h (ab.keys++ab.m.deps):=λk hk=>(NV.1 hk).elim (Hkeys k) (Hdeps k)
    have hok2:nD st'.h (d.getD 0) sp ab (vs.length+cs.length)=zac:=by
     rw[<- hok'];unfold nD;have hnb:ab.m.deps.all (mE st'.h)=ab.m.deps.all (mE st.h):=by
      have:∀(l:Z Nat),(∀k,k∈l->k∈ab.m.deps)->l.all (mE st'.h)=l.all (mE st.h):=by
       intro l
       induction l with
       |nil=>intro _;rfl
       |cons k l ih=>
        intro hl;simp only[Oy];rw[ih λk hk=>hl k (by simp[hk])];unfold mE;rw[Hdeps k (hl k (by simp))]
      exact this _ λk hk=>hk
     rw[hnb];congr 3;have:∀(l:Z Nat),(∀k,k∈l->k∈ab.bm)->l.all (nJ st'.h)=l.all (nJ st.h):=by
      intro l
      induction l with
      |nil=>intro _;rfl
      |cons k l ih=>
       intro hl;simp only[Oy];rw[ih λk hk=>hl k (by simp[hk])];unfold nJ;rw[Hkeys k (List.mem_append_left _ (hl k (by simp)))]
     rw[this ab.bm λk hk=>hk]
    unfold jk;simp only[hsp];rw[Ba hab Hall];simp only[zab hok2,hy,NE];rw[Ed hpl Hdeps Hkeys (U.sub u2)]
  ·cases he
 ·cases he
theorem qp{vs:Z V}{args ops:Z Operand}(hv:gU st args=O vs)(ms:∀x,x∈args->x∈ops):∀v,v∈vs->∀k,k∈v.keys->∃x,x∈ops/\∃v',opdV st x=O v'/\k∈v'.keys:=λv hvm k hk=>by
 obtain⟨x,hx,hxv⟩:=xU hv v hvm;exact⟨x,ms x hx,v,hxv,hk⟩
theorem Iz(c:Cap):c.cell.keys=[]:=by
 cases c with
 |cf g=>rfl
 |c0 c=>cases c<;>rfl
theorem xB{E:Env R}{d:W Nat}{vs:Z V}{args ops:Z Operand}(hv:gU st args=O vs)(ms:∀x,x∈args->x∈ops){x:Fn}{K:Dl->W R}:∀{l:Z Fn},
  l.foldr (λkey next=>if x=key then jk E st d key.1 (key.2.map Cap.cell) vs K else next) zaf=O r ->
  ∃y,K y=O r/\∀(st':St) (K':Dl->W R),bM st st' ops->Agree st.h st'.h (y.up.map (·.1))->l.foldr (λkey next=>if x=key then jk E st' d key.1 (key.2.map Cap.cell) vs K' else next) zaf=K' y
 |[],he=>by cases he
 |key::l,he=>by
  simp only[List.foldr_cons] at he⊢;by_cases e:x=key
  ·rw[zab e] at he;obtain⟨y,hk,hok⟩:=qy (ops:=ops) (qp hv ms) (λc hc k hk=>by
    obtain⟨c',_,rfl⟩:=N8.1 hc;rw[Iz] at hk;simp at hk) he
   exact⟨y,hk,λst' K' A U=>by rw[zab e];exact hok st' K' A U⟩
  ·rw[zak e] at he;obtain⟨y,hk,hok⟩:=xB hv ms he;exact⟨y,hk,λst' K' A U=>by rw[zak e];exact hok st' K' A U⟩
theorem xw{E:Env R}{o:Oper}{K:Dl->W R}(he:bf E st o K=O r) :
  ∃x,K x=O r/\∀(st':St) (K':Dl->W R),bM st st' o.op.operands.toList->Agree st.h st'.h (x.up.map (·.1))->bf E st' o K'=K' x:=by
 unfold bf at he;split at he
 ·rename_i t ho;split at he
  ·rename_i ti hti;refine⟨_,he,λst' K' A U=>?_⟩;unfold bf;simp only[ho,hti,nO];rw[iF (U (dk o.dst) (by simp[nO]))]
  ·cases he
 ·rename_i t x ho;obtain⟨v,hv,he⟩:=ae he;refine⟨_,he,λst' K' A U=>?_⟩;unfold bf;simp only[ho];rw[A.opd (by simp[ho,Op.operands]),hv];simp only[au];rw[iF (U (dk o.dst) (by simp))]
 ·rename_i t n parts ho;split at he
  ·cases he
  ·rename_i e hel;split at he
   ·rename_i ti hti hp;split at he
    ·rename_i k v fs hc;split at he
     ·rename_i cs hat
      obtain⟨hq,he⟩:=aa he;refine⟨_,he,λst' K' A U=>?_⟩;unfold bf;simp only[ho,hel,hti];have hsub:bM st st' (parts.toList.map (·.2)):=A.sub λx hx=>by simpa[ho,Op.operands] using hx
      obtain⟨p,hp1,f,hp2⟩:=DZ hc;have hag:=hsub.keysV (x:=p.2) (N8.2 ⟨p,hp1,rfl⟩) hp2;rw[kR hsub,hp];simp only[];rw[xm hsub,hc];simp only[at_eq (hag k (by simp[V.keys,Cell.keys])),hat];rw[zab hq]
     ·cases he
    ·cases he
   ·rename_i ti ps hti hp;split at he
    ·rename_i t' ht;split at he
     ·rename_i z hz;obtain⟨hn,he⟩:=aa he;obtain⟨xs,hx,he⟩:=ae he;refine⟨_,he,λst' K' A U=>?_⟩;unfold bf;simp only[ho,hel,hti];have hpp:=kR (st:=st) (st':=st') (l:=parts.toList) (A.sub λx hx=>by simpa[ho,Op.operands] using hx);rw[hpp,hp];have hag:Agree st.h st'.h (ps.flatMap λp=>p.2.keys):=A.heap.sub λk hk=>vH hp (λx hx=>by simpa[ho,Op.operands] using hx) k hk
      obtain⟨e1,e2⟩:=Ca hag;simp only[ht,hz,zab hn,e1,e2,hx,au];rw[iF (U (dk o.dst) (by simp))]
     ·cases he
    ·cases he
   ·cases he
 ·rename_i t x v ho;split at he
  ·rename_i hd;obtain⟨xv,hx,he⟩:=ae he;obtain⟨vv,hv,he⟩:=ae he;obtain⟨up,hk,hok⟩:=Bh he;refine⟨_,hk,λst' K' A U=>?_⟩;unfold bf;simp only[ho,hd];rw[A.opd (x:=x) (by simp[ho,Op.operands]),A.opd (x:=v) (by simp[ho,Op.operands]),hx,hv];simp only[au];have hax:=A.keys (x:=x) (by simp[ho,Op.operands]) hx;have hav:=A.keys (x:=v) (by simp[ho,Op.operands]) hv;obtain⟨e1,e2⟩:=Gu (x:=xv) hav;rw[e1,e2,Hg (st:=bU st (jZ xv vv)) (st':=bU st' (jZ xv vv)) λk hk=>by
    show gB st'.h (bN st'.h (jZ xv vv)) k=gB st.h (bN st.h (jZ xv vv)) k;rw[e2];exact rH (hax k hk)]
   exact hok _
  ·cases he
 ·rename_i args argTypes ho;split at he
  ·rename_i s x sT xT ha hat
   obtain⟨hst,he1⟩:=aa he;subst hst;obtain⟨sv,hs,he⟩:=ae he1;obtain⟨xv,hx,he⟩:=ae he;obtain⟨y,hk,hok,hdk⟩:=yB he;have ms:s∈o.op.operands.toList:=by simp[ho,Op.operands,Call.operands,<- Array.mem_toList_iff,ha]
   have mx:x∈o.op.operands.toList:=by simp[ho,Op.operands,Call.operands,<- Array.mem_toList_iff,ha]
   refine⟨_,hk,λst' K' A U=>?_⟩;unfold bf;simp only[ho,ha,hat,if_true];rw[A.opd ms,A.opd mx,hs,hx];simp only[au];rw[DF (A.keys ms hs) (A.keys mx hx) (U _ hdk)];exact hok _
  ·cases he
 ·rename_i c args argTypes ho;have mc:∀t,c=.tmp t->Operand.tmp t∈o.op.operands.toList:=λt e=>by simp[ho,Op.operands,Call.operands,e]
  have ms:∀x,x∈args.toList->x∈o.op.operands.toList:=λx hx=>by simp only[ho,Op.operands,Call.operands];simp at hx⊢;exact .inr hx
  split at he
  ·rename_i vs hv;split at he
   ·rename_i p hc;obtain⟨y,hk,hok⟩:=qy (ops:=o.op.operands.toList) (λv hvm k hk=>by
     rcases NV.1 hvm with hvm|hvm
     ·obtain⟨c',hc',rfl⟩:=N8.1 hvm;unfold jD at hc;split at hc
      ·rename_i t;split at hc
       ·rename_i f' cs' hs;split at hc
        ·cases hc
        ·simp only[ND] at hc;rw[<- hc] at hc';refine⟨.tmp t,mc t rfl,.clo f' cs',by simp only[opdV,hs],?_⟩;exact List.mem_flatMap.2 ⟨c',hc',by simpa[V.keys,V1.keys,V1.cells] using hk⟩
       ·cases hc
      ·cases hc
     ·exact qp hv ms v hvm k hk) (λc hc k hk=>by cases hc) he
    refine⟨_,hk,λst' K' A U=>?_⟩;unfold bf;simp only[ho];rw[pz (A.sub ms),hv];simp only[];rw[oG λt e=>A.slot t (mc t e),hc];exact hok st' K' A U
   ·rename_i hbn;split at he
    ·rename_i p hc;obtain⟨y,hk,hok⟩:=qy (ops:=o.op.operands.toList) (qp hv ms) (λc' hc' k hk=>by
      unfold jb at hc;split at hc;·simp only[ND] at hc;rw[<- hc] at hc';simp at hc'
      ·rename_i t;split at hc
       ·rename_i f' cs' hs;obtain⟨_,hc⟩:=aa hc;simp only[ND] at hc;refine⟨.tmp t,mc t rfl,.clo f' cs',by simp only[opdV,hs],?_⟩;rw[<- hc] at hc';exact List.mem_flatMap.2 ⟨c',hc',hk⟩
       ·split at hc
        ·simp only[ND] at hc;rw[<- hc] at hc';simp at hc'
        ·cases hc
       ·cases hc
      ·cases hc) he
     refine⟨_,hk,λst' K' A U=>?_⟩;unfold bf;simp only[ho];rw[pz (A.sub ms),hv];simp only[];rw[oG λt e=>A.slot t (mc t e),hbn];simp only[];rw[sN λt e=>A.slot t (mc t e),hc];exact hok st' K' A U
    ·rename_i hcn;split at he
     ·rename_i x hc;obtain⟨y,hk,hok⟩:=xB (ops:=o.op.operands.toList) hv ms he;refine⟨_,hk,λst' K' A U=>?_⟩;unfold bf;simp only[ho];rw[pz (A.sub ms),hv];simp only[];rw[oG λt e=>A.slot t (mc t e),hbn];simp only[];rw[sN λt e=>A.slot t (mc t e),hcn];simp only[];rw[KO λt e=>A.slot t (mc t e),hc];exact hok st' K' A U
     ·cases he
  ·cases he
 ·rename_i t g ho;split at he
  ·rename_i F hF;refine⟨_,he,λst' K' A U=>?_⟩;unfold bf;simp only[ho,hF]
  ·cases he
 ·rename_i t x k ok ho;split at he
  ·rename_i g kc hx hk;split at he
   ·rename_i F hF;obtain⟨p,hp,he⟩:=ae he;refine⟨_,he,λst' K' A U=>?_⟩;unfold bf;simp only[ho];rw[A.opd (x:=x) (by simp[ho,Op.operands]),A.opd (x:=k) (by simp[ho,Op.operands]),hx,hk];simp only[hF,hp,au]
   ·cases he
  ·cases he
 ·rename_i t l c ho;split at he
  ·cases he
  ·rename_i e hel;split at he
   ·rename_i ti kl n kc m hti hl hc;split at he
    ·rename_i t' ht;split at he
     ·rename_i z hz;obtain⟨hn,he⟩:=aa he;refine⟨_,he,λst' K' A U=>?_⟩;unfold bf;simp only[ho,hel,hti];rw[A.opd (x:=l) (by simp[ho,Op.operands]),A.opd (x:=c) (by simp[ho,Op.operands]),hl,hc];simp only[ht,hz,zab hn,nO];rw[iF (U (dk o.dst) (by simp[nO]))]
     ·cases he
    ·cases he
   ·cases he
 ·rename_i src dst x ho;split at he
  ·rename_i hsc;obtain⟨v,hv,he⟩:=ae he;obtain⟨xs,hxs,he⟩:=ae he;refine⟨_,he,λst' K' A U=>?_⟩;have mx:x∈o.op.operands.toList:=by simp[ho,Op.operands]
   unfold bf;simp only[ho,zab hsc];rw[A.opd mx,hv];simp only[au];rw[qY (A.keys mx hv),hxs]
  ·rename_i hsc;split at he
   ·rename_i hbc;split at he
    ·rename_i s hx;refine⟨_,he,λst' K' A U=>?_⟩;have mx:x∈o.op.operands.toList:=by simp[ho,Op.operands]
     unfold bf;simp only[ho,zak hsc,zab hbc];rw[A.opd mx,hx]
    ·cases he
   rename_i hbc;obtain⟨y,hk,hok⟩:=yx he;refine⟨_,hk,λst' K' A U=>?_⟩;have mx:x∈o.op.operands.toList:=by simp[ho,Op.operands]
   unfold bf;simp only[ho,zak hsc,zak hbc];rw[Hw (by rw[<- ho];exact A)];have:bW st' [x]=bW st [x]:=by simp only[bW,Oz,List.flatMap_nil,A.opdV mx]
   rw[this];exact hok _
 ·rename_i op h1 h2 h3 h4 h5 h6 h8 h9 h10 h7;obtain⟨y,hk,hok⟩:=yx he;refine⟨_,hk,λst' K' A U=>?_⟩;unfold bf;split
  ·rename_i e;exact absurd e (h1 _)
  ·rename_i e;exact absurd e (h2 _ _)
  ·rename_i e;exact absurd e (h3 _ _ _)
  ·rename_i e;exact absurd e (h4 _ _ _)
  ·rename_i e;exact absurd e (h5 _ _)
  ·rename_i e;exact absurd e (h6 _ _ _)
  ·rename_i e;exact absurd e (h8 _ _)
  ·rename_i e;exact absurd e (h9 _ _ _ _)
  ·rename_i e;exact absurd e (h10 _ _ _)
  ·rename_i e;exact absurd e (h7 _ _ _)
  ·rw[Hw A];have hko:bW st' o.op.operands.toList=bW st o.op.operands.toList:=by
    have:∀(l:Z Operand),(∀x,x∈l->opdV st' x=opdV st x)->bW st' l=bW st l:=by
     intro l
     induction l with
     |nil=>intro _;rfl
     |cons x l ih=>
      intro hh;unfold bW at ih⊢;simp only[Oz];rw[hh x (by simp),ih λy hy=>hh y (by simp[hy])]
    exact this _ λx hx=>A.opdV hx
   rw[hko];exact hok _
theorem sQ{E:Env R}{o:Oper}{K:Dl->W R}(hq:quiet o.op=zac):bf E st o K=vop E.te st o.op λv=>K ⟨v,bW st o.op.operands.toList,[]⟩:=by
 unfold bf;cases hop:o.op<;>first|rfl|(rw[hop] at hq;cases hq)
theorem Hz{op:Op}{K:V->W R}(hq:quiet op=zac)(s:Z V)(h h':Heap):vop te ⟨s,h⟩ op K=vop te ⟨s,h'⟩ op K:=by
 have ho:∀x,opd ⟨s,h⟩ x=opd ⟨s,h'⟩ x:=λx=>by cases x<;>rfl
 have hV:∀x,opdV ⟨s,h⟩ x=opdV ⟨s,h'⟩ x:=λx=>by cases x<;>rfl
 have hs:∀l,gM ⟨s,h⟩ l=gM ⟨s,h'⟩ l:=λl=>by
  induction l with
  |nil=>rfl
  |cons x l ih=>simp only[gM,ho,ih]
 have hp:∀l,partsOf ⟨s,h⟩ l=partsOf ⟨s,h'⟩ l:=λl=>by
  induction l with
  |nil=>rfl
  |cons x l ih=>obtain⟨i,x⟩:=x;simp only[partsOf,ho,ih]
 cases op<;>first
  |(cases hq;done)
  |(simp only[vop,ho,hV,hs,hp];done)
  |rfl
  |(unfold vop;simp only[ho,hV,hs,hp];done)
  |skip
 rename_i f first captured
 cases f<;>simp only[vop,hs]
structure Looks (st st':St) (o:Oper):Prop where
 slot:∀t,Operand.tmp t∈o.op.operands.toList->st'.s[t]?=st.s[t]?
 heap:Agree st.h st'.h (o9 st o)
theorem Ea{E:Env R}{o:Oper}{K:Dl->W R}(he:bf E st o K=O r) :
  ∃x,K x=O r/\∀(st':St) (K':Dl->W R),Looks st st' o->Agree st.h st'.h (x.up.map (·.1))->bf E st' o K'=K' x:=by
 by_cases hq:quiet o.op=zac
 ·obtain⟨x,hx,hok⟩:=xw he;refine⟨x,hx,λst' K' L U=>?_⟩;have h1:bf E st' o K'=bf E ⟨st'.s,st.h⟩ o K':=by
   rw[sQ hq,sQ hq];have e:bW (⟨st'.s,st.h⟩:St) o.op.operands.toList=bW st' o.op.operands.toList:=rfl;rw[e];exact Hz (K:=λv=>K' ⟨v,bW st' o.op.operands.toList,[]⟩) hq st'.s st'.h st.h
  rw[h1];exact hok ⟨st'.s,st.h⟩ K' ⟨L.slot,λk _=>rfl⟩ λk _=>rfl
 ·obtain⟨x,hx,hok⟩:=xw he;refine⟨x,hx,λst' K' L U=>hok st' K' ⟨L.slot,?_⟩ U⟩;have:=L.heap;unfold o9 at this
  rwa [zak hq] at this
end
end Rv
namespace Rv
open Go
section
variable{P:Program}{C:Ctx}{γ:Gam}{w:zah}{R:Type}{r:R}
theorem Rel.world{st:St}{tmps:Array zal}(R':Rel C γ w st tmps){w':zah}(h1:w'.heap=w.heap)(h2:w'.os=w.os)(h3:w'.tape=w.tape)(h4:w'.output=w.output):Rel C γ w' st tmps:=by
 have T:bP C γ st.h w C γ st.h w':=⟨by rw[h1];exact NL _,λk e hk=>⟨e,hk,.inr ⟨rfl,rfl,Alike.refl e⟩⟩,λg _ _=>by rw[h1],λk e c g hk hl hg _=>⟨k,e,c,hk,hl,hg,.inl rfl⟩,λ_ _ h=>h,λ_ h=>h⟩
 refine R'.step T (R'.inv.step ⟨by rw[h1];exact NL _,λg _ _=>by rw[h1],h2,h3,h4⟩ T (λk e hk=>dI.step T (R'.inv.box k e hk) rfl λ_ g c _=>by rw[h1]) R'.inv.inj R'.inv.own)
def Md(ops:Array Oper)(o:Oper)(st:St):Prop:=
 o.guard=zaf\/∃j want s,o.guard=O (j,want)/\(ops[j]?).bind (·.dst)=O s/\st.s[s]?=O (.v (.c (.bool want)))
def Rest(ops:Array Oper)(o:Oper)(st:St):Prop:=
 ∃j want s,o.guard=O (j,want)/\(ops[j]?).bind (·.dst)=O s/\(st.s[s]?=O (.v (.c (.bool !want)))\/st.s[s]?=O (.tup []))
def Did.app(d:Did)(st:St):St:=st.app d.dst d.x
def vY(E:Env R)(ops:Array Oper)(o:Oper)(st:St)(d:Did):Prop:=
 d.dst=o.dst/\d.looks=Oper.looks ops o/\(∀k,k∈d.ups->k∈d.rd) /\
 ((Md ops o st/\(∀k,k∈o9 st o->k∈d.rd)/\∀(st':St) (K':Dl->W R),Looks st st' o->Agree st.h st'.h d.ups->bf E st' o K'=K' d.x)\/(Rest ops o st/\d.x=⟨.tup [],[],[]⟩))
theorem guard_looks{ops:Array Oper}{o:Oper}{j s:Nat}{want:zai}(hg:o.guard=O (j,want))(hd:(ops[j]?).bind (·.dst)=O s):s∈Oper.looks ops o:=by
 unfold Oper.looks Oper.guardSlot;simp[hg,hd]
theorem Hl{ops:Array Oper}{o:Oper}{t:Nat}(ht:Operand.tmp t∈o.op.operands.toList):t∈Oper.looks ops o:=by
 unfold Oper.looks;exact NV.2 (.inl (List.mem_filterMap.2 ⟨_,ht,rfl⟩))
structure Same (X Y:Z Nat) (st st':St):Prop where
 len:st'.s.length=st.s.length
 slot:∀t,t∈X->st'.s[t]?=st.s[t]?
 heap:∀k,k∈Y->st'.h k=st.h k
open Classical in
theorem Kn{E:Env R}(hE:jR P C.L C.nl E)(r:R){ops:Array Oper}{Q:Exit->Act->zah->Prop}{i:Nat}{o:Oper}(ho:ops[i]?=O o){st0 st:St}{d:Did}(hA:vY E ops o st0 d)(hS:Same d.looks d.rd st0 st){a:Act}(R':Rel C γ w st a.tmps)(G:Good E a)
  {next:Act->zah->Prop} (hn:∀γ' w' a',Rel C γ' w' (d.app st) a'.tmps->Good E a'->next a' w'):wpOp P ops Q i next a w:=by
 obtain⟨hd,hl,hu,hc⟩:=hA;unfold wpOp;rw[ho];simp only;rcases hc with⟨hf,hk,hev⟩|⟨hr,hx⟩
 ·have hw:Region.wanted o (yielded ops a.tmps)=zac:=by
   rcases hf with hg|⟨j,want,s,hg,hds,hs⟩;·simp[Region.wanted,hg]
   ·exact vW R' hg hds (by rw[hS.slot s (by rw[hl];exact guard_looks hg hds)];exact hs)
  rw[zab hw];have he:bf E st o (λy=>if y=d.x then O r else zaf)=O r:=by
   rw[hev st _ ⟨λt ht=>hS.slot t (by rw[hl];exact Hl ht),λk hkk=>hS.heap k (hk k hkk)⟩ (λk hkk=>hS.heap k (hu k hkk))];simp
  obtain⟨x,hx,hok⟩:=sS hE R' he;have:x=d.x:=by
   by_cases h:x=d.x;·exact h
   ·simp[h] at hx
  subst this;refine .inl (hok next Q λγ' w' val R1=>hn γ' w' _ ?_ (G.put _ _));unfold Did.app;rw[hd];exact R1
 ·obtain⟨j,want,s,hg,hds,hs⟩:=hr;have hw:Region.wanted o (yielded ops a.tmps)=zad:=by
   have:=hS.slot s (by rw[hl];exact guard_looks hg hds);exact rV R' hg hds (by rw[this];exact hs)
  rw[zak (by rw[hw];simp)];refine hn γ w _ ?_ (G.put _ _);unfold Did.app;rw[hd,hx];exact R'.put o.dst rC
def dL(b:Nat->zai):Nat->Z Did->St->St
 |_,[],st=>st
 |i,d::l,st=>dL b (i+1) l (if b i=zac then d.app st else st)
theorem uG(st:St)(d:Did):(d.app st).s.length=st.s.length:=by
 unfold Did.app St.app St.put;cases d.dst<;>simp
theorem gQ:∀{l:Z (Nat×En)}{h h':Heap}{k:Nat},h' k=h k->l.foldl (λh p=>Heap.set h p.1 p.2) h' k=l.foldl (λh p=>Heap.set h p.1 p.2) h k
 |[],_,_,_,e=>e
 |p::l,h,h',k,e=>by
  simp only[Oq];apply gQ;unfold Heap.set;split;·rfl
  ·exact e
theorem ou(d:Did)(st:St):(d.app st).h=d.x.up.foldl (λh p=>h.set p.1 p.2) st.h:=by
 unfold Did.app St.app St.put;cases d.dst<;>rfl
theorem ow(d:Did)(st:St):(d.app st).s=match d.dst with|some t=>st.s.set t d.x.v|none=>st.s:=by
 unfold Did.app St.app St.put;cases d.dst<;>rfl
theorem Same.app{X Y:Z Nat}{st st':St}(S:Same X Y st st')(d:Did):Same X Y (d.app st) (d.app st') where
 len:=by rw[uG,uG,S.len]
 slot:=λt ht=>by
  rw[ow,ow];cases hd:d.dst with
  |none=>exact S.slot t ht
  |some u=>
   simp only[List.getElem?_set,S.len];split;·rfl
   ·exact S.slot t ht
 heap:=λk hk=>by
  rw[ou,ou];exact gQ (S.heap k hk)
theorem Same.skip{X Y:Z Nat}{st:St}{d:Did}(hd:∀t,d.dst=O t->t ∉ X)(hu:∀k,k∈d.ups->k ∉ Y):Same X Y st (d.app st) where
 len:=uG _ _
 slot:=λt ht=>by
  rw[ow];cases h:d.dst with
  |none=>rfl
  |some u=>
   simp only[List.getElem?_set];rw[zak λe=>hd u h (by rw[e];exact ht)]
 heap:=λk hk=>by
  rw[ou,aO λh=>hu k h hk]
theorem Same.refl(X Y:Z Nat)(st:St):Same X Y st st:=⟨rfl,λ_ _=>rfl,λ_ _=>rfl⟩
theorem Same.symm{X Y:Z Nat}{st st':St}(S:Same X Y st st'):Same X Y st' st:=⟨S.len.symm,λt h=>(S.slot t h).symm,λk h=>(S.heap k h).symm⟩
theorem Same.trans{X Y:Z Nat}{a b c:St}(S:Same X Y a b)(T:Same X Y b c):Same X Y a c:=⟨T.len.trans S.len,λt h=>(T.slot t h).trans (S.slot t h),λk h=>(T.heap k h).trans (S.heap k h)⟩
theorem yc{X Y:Z Nat}{b b':Nat->zai}:∀{l:Z Did}{i:Nat}{st st':St},Same X Y st st'->(∀j d,l[j]?=O d->b (i+j)≠b' (i+j)->(∀t,d.dst=O t->t ∉ X)/\∀k,k∈d.ups->k ∉ Y) ->
  Same X Y (dL b i l st) (dL b' i l st')
 |[],_,_,_,S,_=>S
 |d::l,i,st,st',S,H=>by
  simp only[dL];refine yc ?_ λj e hj hne=>H (j+1) e (by simpa using hj) (by rw[show i+(j+1)=i+1+j by omega];exact hne)
  cases h1:b i<;>cases h2:b' i
  ·exact S
  ·obtain⟨g1,g2⟩:=H 0 d rfl (by simp[h1,h2]);exact S.trans (Same.skip g1 g2)
  ·obtain⟨g1,g2⟩:=H 0 d rfl (by simp[h1,h2]);exact(Same.skip g1 g2).symm.trans S
  ·exact S.app d
theorem iJ{b b':Nat->zai}:∀{l:Z Did}{i:Nat}{st:St},(∀j,j<l.length->b (i+j)=b' (i+j))->dL b i l st=dL b' i l st
 |[],_,_,_=>rfl
 |d::l,i,st,H=>by
  simp only[dL];rw[show b i=b' i from H 0 (by simp)];exact iJ λj hj=>by have:=H (j+1) (by simpa using hj);rwa [show i+(j+1)=i+1+j by omega] at this
theorem nY:∀{l:Z Did}{i n:Nat}{st:St},dL (λk=>zaj (k<i+n)) i l st=(l.take n).foldl (λs d=>d.app s) st
 |[],_,_,_=>by simp[dL]
 |d::l,i,0,st=>by
  simp only[dL,Nat.add_zero,Nat.lt_irrefl,decide_false,List.take_zero,List.foldl_nil];have:=nY (l:=l) (i:=i+1) (n:=0) (st:=st);simp only[Nat.add_zero,List.take_zero,List.foldl_nil] at this;rw[<- this];simp only[zak Bool.false_ne_true];rw[this];rw[iJ (b':=λk=>zaj (k<i+1)) λj _=>by simp;omega];exact this
 |d::l,i,n+1,st=>by
  simp only[dL,List.take_succ_cons,Oq];rw[zab (by simp)];have:=nY (l:=l) (i:=i+1) (n:=n) (st:=d.app st);rw[<- this];exact iJ λj _=>by simp;omega
theorem wE:∀{l m:Z (Nat×En)}{h:Heap},(∀k,k∈l.map (·.1)->k ∉ m.map (·.1))->l.foldl (λh p=>Heap.set h p.1 p.2) (m.foldl (λh p=>Heap.set h p.1 p.2) h)=m.foldl (λh p=>Heap.set h p.1 p.2) (l.foldl (λh p=>Heap.set h p.1 p.2) h):=by
 intro l m h H;funext k;by_cases h1:k∈l.map (·.1);·rw[aO (l:=m) (H k h1)];apply gQ;rw[aO (H k h1)]
 ·rw[aO h1];apply Eq.symm;apply gQ;rw[aO h1]
theorem Ia{a b:Did}(hd:∀t,a.dst=O t->b.dst≠O t)(hu:∀k,k∈a.ups->k ∉ b.ups)(st:St):a.app (b.app st)=b.app (a.app st):=by
 have h1:(a.app (b.app st)).h=(b.app (a.app st)).h:=by
  rw[ou,ou,ou,ou];exact wE hu
 have h2:(a.app (b.app st)).s=(b.app (a.app st)).s:=by
  rw[ow,ow,ow,ow];cases ha:a.dst with
  |none=>rfl
  |some t=>
   cases hb:b.dst with
   |none=>rfl
   |some u=>
    have:t≠u:=λe=>hd t ha (by rw[hb,e])
    exact(List.set_comm _ _ this).symm
 cases hx:a.app (b.app st);cases hy:b.app (a.app st);rw[hx,hy] at h1 h2;simp only at h1 h2;rw[h1,h2]
def Apart(a b:Did):Prop:=(∀t,a.dst=O t->t ∉ b.looks/\b.dst≠O t)/\(∀t,b.dst=O t->t ∉ a.looks)/\(∀k,k∈a.ups->k ∉ b.rd)/\(∀k,k∈b.ups->k ∉ a.rd)
theorem jl{a b:Z Nat}(h:wy a b=zac):∀x,x∈a->x ∉ b:=λx hx hb=>by
 have:=Oa.1 h x hx;simp[hb] at this
theorem BC{a b:Did}(h:Did.apart a b=zac):Apart a b:=by
 unfold Did.apart at h;simp only[NJ] at h;obtain⟨⟨⟨⟨h1,h2⟩,h3⟩,h4⟩,h5⟩:=h;refine⟨λt ht=>⟨jl h1 t (by simp[ht]),λhb=>jl h3 t (by simp[ht]) (by simp[hb])⟩,λt ht=>jl h2 t (by simp[ht]),jl h4,jl h5⟩
theorem AU{b:Nat->zai}{a:Did}:∀{l:Z Did}{i:Nat}{st:St},(∀j d,l[j]?=O d->b (i+j)=zac->∀st,a.app (d.app st)=d.app (a.app st))->dL b i l (a.app st)=a.app (dL b i l st)
 |[],_,_,_=>rfl
 |d::l,i,st,H=>by
  simp only[dL];have ih:∀st,dL b (i+1) l (a.app st)=a.app (dL b (i+1) l st):=λst=>AU λj e hj hb=>H (j+1) e (by simpa using hj) (by rw[show i+(j+1)=i+1+j by omega];exact hb)
  cases hb:b i;·exact ih st
  ·simp only[if_true];rw[<- H 0 d rfl hb,ih]
theorem AV{b:Nat->zai}{a:Did}:∀{l:Z Did}{i n:Nat}{st:St},l[n]?=O a->b (i+n)=zad->(∀j d,l[j]?=O d->n<j->b (i+j)=zac->∀st,a.app (d.app st)=d.app (a.app st)) ->
  dL (λk=>b k||zaj (k=i+n)) i l st=a.app (dL b i l st)
 |d::l,i,0,st,ha,hb,H=>by
  simp only[Oh,ND] at ha;subst ha;simp only[dL,Nat.add_zero] at hb⊢;simp only[hb,decide_true,Bool.or_true,if_true,Bool.false_eq_true,if_false];rw[iJ (b':=b) λj _=>by simp;omega];exact AU λj e hj hbj=>H (j+1) e (by simpa using hj) (by omega) (by rw[show i+(j+1)=i+1+j by omega];exact hbj)
 |d::l,i,n+1,st,ha,hb,H=>by
  simp only[dL];have e1:(b i||zaj (i=i+(n+1)))=b i:=by simp
  simp only[e1];have:=AV (b:=b) (a:=a) (l:=l) (i:=i+1) (n:=n) (st:=if b i=zac then d.app st else st) (by simpa using ha) (by rw[show i+1+n=i+(n+1) by omega];exact hb)
   (λj e hj hlt hbj=>H (j+1) e (by simpa using hj) (by omega) (by rw[show i+(j+1)=i+1+j by omega];exact hbj))
  rw[<- this];congr 1;funext k;rw[show i+1+n=i+(n+1) by omega]
 |[],_,_,_,ha,_,_=>by simp at ha
theorem Dx:∀{xs ys:Z Nat}{k:Nat},k∈uni xs ys->k∈xs\/k∈ys
 |[],_,_,h=>.inr h
 |x::xs,ys,k,h=>by
  unfold uni at h;simp only[Oq] at h;have:=Dx (xs:=xs) h;rcases this with h|h;·exact .inl (by simp[h])
  ·split at h
   ·exact .inr h
   ·rcases NT.1 h with rfl|h
    ·exact .inl (by simp)
    ·exact .inr h
theorem tN{b:Nat->zai}:∀{l:Z Oper}{tbl:Z (Z Nat)},(∀j as,tbl[j]?=O as->b j=zac->∀k,k∈as->b k=zac) ->
  (∀j o,l[j]?=O o->b (tbl.length+j)=zac->∀e,e∈o.after.toList->Region.binds .any e=zac->b e.on=zac)->∀j as,(qo l tbl)[j]?=O as->b j=zac->∀k,k∈as->b k=zac
 |[],tbl,H,_=>H
 |o::l,tbl,H,Ho=>by
  simp only[qo];refine tN (λj as hj hb k hk=>?_) λj o' hj hb=>Ho (j+1) o' (by simpa using hj) (by simpa[OE,Nat.add_comm 1 j] using hb)
  rw[List.getElem?_append] at hj;split at hj;·exact H j as hj hb k hk
  ·rename_i hlt;have hj0:j=tbl.length:=by
    by_cases h:j-tbl.length=0;·omega
    ·obtain⟨m,hm⟩:=Nat.exists_eq_succ_of_ne_zero h;rw[hm] at hj;simp at hj
   subst hj0;simp only[Nat.sub_self,Oh,ND] at hj;subst hj;have hon:=Ho 0 o rfl hb;have gen:∀(es:Z Edge) (acc:Z Nat),(∀e,e∈es->b e.on=zac)->(∀k,k∈acc->b k=zac)->∀k,k∈es.foldl (λacc e=>uni (e.on::tbl.getD e.on []) acc) acc->b k=zac:=by
    intro es
    induction es with
    |nil=>intro acc _ h k hk;exact h k hk
    |cons e es ih=>
     intro acc h1 h2 k hk;simp only[Oq] at hk;refine ih _ (λe he=>h1 e (by simp[he])) (λk hk=>?_) k hk;rcases Dx hk with hk|hk
     ·rcases NT.1 hk with rfl|hk
      ·exact h1 e (by simp)
      ·cases htb:tbl[e.on]? with
       |none=>simp[List.getD,htb] at hk
       |some as=>exact H e.on as htb (h1 e (by simp)) k (by simpa[List.getD,htb] using hk)
     ·exact h2 k hk
   refine gen _ [] (λe he=>?_) (λk hk=>by simp at hk) k hk;obtain⟨h1,h2⟩:=Ox.1 he;exact hon e h1 h2
theorem ng:∀{l:Z Oper}{i:Nat},vT i l=zac->∀j o,l[j]?=O o->∀e,e∈o.after.toList->Region.binds .any e=zac->e.on<i+j
 |o::l,i,h,j,o',hj,e,he,hb=>by
  simp only[vT,NJ] at h;cases j with
  |zero=>
   simp only[Oh,ND] at hj;subst hj;have:=Oa.1 h.1 e he;simpa[hb] using this
  |succ j=>have:=ng h.2 j o' (by simpa using hj) e he hb;omega
 |[],_,_,_,_,hj,_,_,_=>by simp at hj
theorem qa{E:Env R}{ops:Array Oper}:∀{l:Z Oper}{st:St}{acc:Z Did}{K:Z Did->St->W R},dS E ops l st acc K=O r ->
  ∃ds:Z Did,ds.length=l.length/\K (acc.reverse++ds) (ds.foldl (λs d=>d.app s) st)=O r/\∀i o d,l[i]?=O o->ds[i]?=O d->vY E ops o ((ds.take i).foldl (λs d=>d.app s) st) d
 |[],st,acc,K,he=>⟨[],rfl,by simpa[dS] using he,λi o d hi=>by simp at hi⟩
 |o::l,st,acc,K,he=>by
  have go:∀{d:Did}{st1:St},vY E ops o st d->d.app st=st1->dS E ops l st1 (d::acc) K=O r ->
    ∃ds:Z Did,ds.length=(o::l).length/\K (acc.reverse++ds) (ds.foldl (λs d=>d.app s) st)=O r/\∀i o' d,(o::l)[i]?=O o'->ds[i]?=O d->vY E ops o' ((ds.take i).foldl (λs d=>d.app s) st) d:=by
   intro d st1 hA h1 he;obtain⟨ds,h2,h3,h4⟩:=qa he;refine⟨d::ds,by simp[h2],?_,λi o' d' hi hd=>?_⟩;·simpa[h1] using h3
   ·cases i with
    |zero=>
     simp only[Oh,ND] at hi hd;subst hi hd;exact hA
    |succ i=>
     simp only[List.take_succ_cons,Oq,h1];exact h4 i o' d' (by simpa using hi) (by simpa using hd)
  have fire:∀{K':Dl->W R},bf E st o K'=O r->(∀x,K' x=dS E ops l (st.app o.dst x) (did ops st o x::acc) K)->Md ops o st ->
    ∃ds:Z Did,ds.length=(o::l).length/\K (acc.reverse++ds) (ds.foldl (λs d=>d.app s) st)=O r/\∀i o' d,(o::l)[i]?=O o'->ds[i]?=O d->vY E ops o' ((ds.take i).foldl (λs d=>d.app s) st) d:=by
   intro K' h1 h2 hf;obtain⟨x,hx,hloc⟩:=Ea h1;rw[h2] at hx;exact go (d:=did ops st o x) ⟨rfl,rfl,λk hk=>NV.2 (.inr hk),.inl ⟨hf,λk hk=>NV.2 (.inl hk),hloc⟩⟩ rfl hx
  simp only[dS] at he;split at he;·rename_i hg;exact fire (K':=λx=>dS E ops l (st.app o.dst x) (did ops st o x::acc) K) he (λ_=>rfl) (.inl hg)
  ·rename_i j want hg;split at he
   ·cases he
   ·rename_i d hd;split at he
    ·rename_i b hs;split at he
     ·rename_i hb;subst hb;rw[St.put_same hs] at he;exact fire (K':=λx=>dS E ops l (st.app o.dst x) (did ops st o x::acc) K) he (λ_=>rfl) (.inr ⟨j,b,d,hg,hd,hs⟩)
     ·rename_i hb;have hb':b=!want:=by cases b<;>cases want<;>simp_all
      subst hb';rw[St.put_same hs] at he;exact go (d:=sJ ops o) ⟨rfl,rfl,λk hk=>by simp[sJ,Did.ups] at hk,.inr ⟨⟨j,want,d,hg,hd,.inl hs⟩,rfl⟩⟩ rfl he
    ·rename_i hs;exact go (d:=sJ ops o) ⟨rfl,rfl,λk hk=>by simp[sJ,Did.ups] at hk,.inr ⟨⟨j,want,d,hg,hd,.inr hs⟩,rfl⟩⟩ rfl he
    ·cases he
theorem least{n:Nat}{p:Nat->Prop}(h:∃i,i<n/\p i):∃i,i<n/\p i/\∀j,j<i->¬p j:=by
 obtain⟨i,hi,hp⟩:=h
 induction i using Nat.strongRecOn with
 |_ i ih=>
  by_cases h:∃j,j<i/\p j;·obtain⟨j,hj,hpj⟩:=h;exact ih j hj (by omega) hpj
  ·exact⟨i,hi,hp,λj hj hpj=>h ⟨j,hj,hpj⟩⟩
theorem kW{l:Array zai}{i:Nat}(h:i<l.size):l.getD i zac=l.getD i zad:=by simp[Array.getD,h]
theorem D7{E:Env R}(hE:jR P C.L C.nl E){ops:Array Oper}{Q:Exit->Act->zah->Prop}{st:St}{ds:Z Did}(hlen:ds.length=ops.size)(hacts:∀i o d,ops[i]?=O o->ds[i]?=O d->vY E ops o ((ds.take i).foldl (λs d=>d.app s) st) d)
  (hap:oq ops ds=zac) (r:R) (hK:∀γ a w,Rel C γ w (ds.foldl (λs d=>d.app s) st) a.tmps->Good E a->Q .normal a w) :
  ∀(fuel:Nat) (listed:Array zai) (γ:Gam) (a:Act) (w:zah),listed.size=ops.size->((List.range ops.size).filter λi=>!listed.getD i zad).length<=fuel ->
   (∀j o,ops[j]?=O o->listed.getD j zad=zac->∀e,e∈o.after.toList->Region.binds .any e=zac->listed.getD e.on zad=zac) ->
   Rel C γ w (dL (λk=>listed.getD k zad) 0 ds st) a.tmps->Good E a->wpAny P .any ops Q fuel listed a w:=by
 unfold oq at hap;simp only[NJ] at hap;obtain⟨htext,hap⟩:=hap;have fin:∀(listed:Array zai) (γ:Gam) (a:Act) (w:zah),listed.size=ops.size->(∀i,i<ops.size->listed.getD i zad=zac)->Rel C γ w (dL (λk=>listed.getD k zad) 0 ds st) a.tmps->Good E a->Q .normal a w:=by
  intro listed γ a w hsz hall R' G;refine hK γ a w ?_ G;have:=nY (l:=ds) (i:=0) (n:=ds.length) (st:=st);rw[List.take_length] at this;rw[<- this];rw[iJ (b':=λk=>zaj (k<0+ds.length)) λj hj=>by
   simp only[Nat.zero_add];rw[hall j (by omega)];simp[hj]] at R'
  exact R'
 have none_ready:∀(listed:Array zai),listed.size=ops.size->Region.ready .any ops listed=[]->∀i,i<ops.size->listed.getD i zad=zac:=by
  intro listed hsz hr i hi;by_cases h:listed.getD i zad=zac;·exact h
  ·obtain⟨j,hj,hp,hmin⟩:=least (n:=ops.size) (p:=λi=>¬listed.getD i zad=zac) ⟨i,hi,h⟩;exfalso;have ho:ops[j]?=O ops[j]:=by simp[hj]
   have:j∈Region.ready .any ops listed:=by
    unfold Region.ready;refine Ox.2 ⟨by simpa using hj,?_⟩;have hjl:j<listed.size:=by omega
    simp only[NJ,Bool.not_eq_true'];refine⟨?_,?_⟩;·rw[kW hjl];simpa using hp
    ·rw[ho];simp only[OC,Option.getD_some];rw[Array.all_eq_true'];intro e he;by_cases hb:Region.binds .any e=zac
     ·have hlt:=ng htext j ops[j] (by simpa using ho) e (by simpa using he) hb;have:=hmin e.on (by omega);simp only[Decidable.not_not] at this;simp[this]
     ·simp only[Bool.not_eq_true] at hb;simp[hb]
   rw[hr] at this;simp at this
 intro fuel
 induction fuel with
 |zero=>
  intro listed γ a w hsz hcnt _ R' G;have hall:∀i,i<ops.size->listed.getD i zad=zac:=λi hi=>by
   by_cases h:listed.getD i zad=zac;·exact h
   ·have:i∈(List.range ops.size).filter λi=>!listed.getD i zad:=Ox.2 ⟨by simpa using hi,by simpa using h⟩
    have h0:=List.length_pos_of_mem this;omega
  refine⟨?_,fin listed γ a w hsz hall R' G⟩;unfold Region.ready;refine List.filter_eq_nil_iff.2 λi hi=>?_
  have hi':i<ops.size:=by simpa using hi
  have:=hall i hi';rw[kW (by omega:i<listed.size),this];simp
 |succ fuel ih=>
  intro listed γ a w hsz hcnt hcl R' G;refine⟨λhr=>fin listed γ a w hsz (none_ready listed hsz hr) R' G,λi hi=>?_⟩;unfold Region.ready at hi;obtain⟨hi1,hi2⟩:=Ox.1 hi;have hin:i<ops.size:=by simpa using hi1
  have hil:i<listed.size:=by omega
  simp only[NJ,Bool.not_eq_true'] at hi2;obtain⟨hi2,hi3⟩:=hi2;have hoff:listed.getD i zad=zad:=by rw[<- kW hil];exact hi2
  have ho:ops[i]?=O ops[i]:=by simp[hin]
  rw[ho] at hi3;simp only[OC,Option.getD_some] at hi3;rw[Array.all_eq_true'] at hi3;have hahead:∀e,e∈ops[i].after.toList->Region.binds .any e=zac->listed.getD e.on zad=zac:=λe he hb=>by
   have:=hi3 e (by simpa using he);simpa[hb] using this
  have hid:i<ds.length:=by omega
  have hdi:ds[i]?=O ds[i]:=by simp[hid]
  have hA:=hacts i ops[i] ds[i] ho hdi
  let b:Nat->zai:=λk=>listed.getD k zad
  have hset:∀k,(listed.setIfInBounds i zac).getD k zad=(b k||zaj (k=i)):=λk=>by
   simp only[Array.getD_eq_getD_getElem?,Array.getElem?_setIfInBounds,b];by_cases h:i=k;·subst h;simp[hil]
   ·have h':¬k=i:=λe=>h e.symm
    simp[h,h']
  have hclosed':∀j o,ops[j]?=O o->(listed.setIfInBounds i zac).getD j zad=zac->∀e,e∈o.after.toList->Region.binds .any e=zac->(listed.setIfInBounds i zac).getD e.on zad=zac:=λj o hj hb e he hbe=>by
   rw[hset] at hb⊢;simp only[Bool.or_eq_true,NH] at hb⊢;rcases hb with hb|rfl;·exact .inl (hcl j o hj hb e he hbe)
   ·rw[ho] at hj;simp only[ND] at hj;subst hj;exact .inl (hahead e he hbe)
  have hanc:∀j as,(qo ops.toList [])[j]?=O as->b j=zac->∀k,k∈as->b k=zac:=
   tN (b:=b) (λj as hj=>by simp at hj) λj o hj hb e he hbe=>hcl j o (by simpa using hj) (by simpa[b] using hb) e he hbe
  have hanci:∀as,(qo ops.toList [])[i]?=O as->∀k,k∈as->k≠i->b k=zac:=λas has k hk hki=>by
   have:=tN (b:=λk=>b k||zaj (k=i)) (tbl:=[]) (l:=ops.toList) (λj as hj=>by simp at hj) (λj o hj hb e he hbe=>by
    have:=hclosed' j o (by simpa using hj) (by rw[hset];simpa using hb) e he hbe
    rwa [hset] at this) i as has (by simp) k hk
   simp only[Bool.or_eq_true,NH] at this;exact this.resolve_right hki
  have hpair:∀j k dj dk',j<k->ds[j]?=O dj->ds[k]?=O dk'->(∃as,(qo ops.toList [])[k]?=O as/\j∈as)\/Apart dj dk':=λj k dj dk' hjk hj hk=>by
   have hkl:k<ds.length:=(NS.1 hk).1;have h1:=Oa.1 hap k (by simpa using hkl);rw[hk] at h1;simp only at h1;unfold zk at h1;have h2:=Oa.1 h1 j (by simpa using hjk);rw[hj] at h2;simp only[Bool.or_eq_true] at h2;rcases h2 with h2|h2
   ·left;cases hanc:(qo ops.toList [])[k]? with
    |none=>simp[List.getD,hanc] at h2
    |some as=>exact⟨as,hanc,by simpa[List.getD,hanc] using h2⟩
   ·exact .inr (BC h2)
  have hlater:∀k dk',i<k->ds[k]?=O dk'->b k=zac->Apart ds[i] dk':=λk dk' hik hk hbk=>by
   rcases hpair i k ds[i] dk' hik hdi hk with⟨as,has,hm⟩|h;·have:=hanc k as has hbk i hm;simp only[b] at this;rw[hoff] at this;cases this
   ·exact h
  have hearlier:∀k dk',k<i->ds[k]?=O dk'->b k=zad->Apart dk' ds[i]:=λk dk' hik hk hbk=>by
   rcases hpair k i dk' ds[i] hik hk hdi with⟨as,has,hm⟩|h;·have:=hanci as has k hm (by omega);rw[hbk] at this;cases this
   ·exact h
  have hS:Same ds[i].looks ds[i].rd ((ds.take i).foldl (λs d=>d.app s) st) (dL b 0 ds st):=by
   have:=nY (l:=ds) (i:=0) (n:=i) (st:=st);rw[<- this];refine yc (Same.refl _ _ _) λj d hj hne=>?_
   simp only[Nat.zero_add] at hne;rcases Nat.lt_trichotomy j i with hlt|rfl|hgt
   ·have hbj:b j=zad:=by
     cases h:b j;·rfl
     ·simp[h,hlt] at hne
    have:=hearlier j d hlt hj hbj;exact⟨λt ht=>(this.1 t ht).1,this.2.2.1⟩
   ·have:b j=zad:=hoff;simp[this] at hne
   ·have hbj:b j=zac:=by
     cases h:b j;·simp[h] at hne;omega
     ·rfl
    have:=hlater j d hgt hj hbj;exact⟨this.2.1,this.2.2.2⟩
  have hrun:dL (λk=>(listed.setIfInBounds i zac).getD k zad) 0 ds st=ds[i].app (dL b 0 ds st):=by
   have:=AV (b:=b) (l:=ds) (i:=0) (n:=i) (st:=st) hdi (by simp only[Nat.zero_add];exact hoff) λj d hj hij hb st=>by
    simp only[Nat.zero_add] at hb;have h:=hlater j d hij hj hb;refine Ia (λt ht=>(h.1 t ht).2) (λk hk hk'=>h.2.2.1 k hk ?_) st;have hjo:j<ops.size:=by have:=(NS.1 hj).1;omega
    exact(hacts j ops[j] d (by simp[hjo]) hj).2.2.1 k hk'
   simp only[Nat.zero_add] at this;rw[<- this];congr 1;funext k;rw[hset]
  refine Kn hE r ho hA hS R' G λγ' w' a' R1 G1=>?_
  refine ih _ γ' a' w' (by simpa using hsz) ?_ hclosed' (by rw[hrun];exact R1) G1;have hlt:((List.range ops.size).filter λk=>!(listed.setIfInBounds i zac).getD k zad).length<((List.range ops.size).filter λk=>!listed.getD k zad).length:=by
   have e1:((List.range ops.size).filter λk=>!(listed.setIfInBounds i zac).getD k zad)=(((List.range ops.size).filter λk=>!listed.getD k zad)).filter λk=>!zaj (k=i):=by
    rw[List.filter_filter];congr 1;funext k;rw[hset];show(!(listed.getD k zad||zaj (k=i)))=(!zaj (k=i)&&!listed.getD k zad)
    cases listed.getD k zad<;>cases zaj (k=i)<;>rfl
   rw[e1];have hm:i∈(List.range ops.size).filter λk=>!listed.getD k zad:=Ox.2 ⟨by simpa using hin,by rw[hoff];rfl⟩
   exact List.length_filter_lt_length_iff_exists.2 ⟨i,hm,by simp⟩
  omega
theorem Az{E:Env R}(hE:jR P C.L C.nl E)(hm:P.follows .mixedOrders=zac){id:Nat}{ops:Array Oper}{draw:zai}{Q:Exit->Act->zah->Prop}{st:St}{a:Act}{K:St->W R}(R':Rel C γ w st a.tmps)(G:Good E a)
  (he:uU E ops draw st K=O r) (hK:iP C E r K (Q .normal)):(Code.region id ops draw).wp P Q a w:=by
 cases draw with
 |false=>exact wp_region_list (iY hE R' G he hK)
 |true=>
  have he:dS E ops ops.toList st [] (λl st=>if oq ops l=zac then K st else zaf)=O r:=he;obtain⟨ds,h1,h2,h3⟩:=qa he;simp only[List.reverse_nil,Oc] at h2;obtain⟨hap,h2⟩:=aa h2;refine wp_region_any hm (D7 hE (by simpa using h1) (λi o d hi hd=>h3 i o d (by simpa using hi) hd) hap r (λγ a w R1 G1=>hK γ _ a w R1 G1 h2) ops.size _ γ a _ (by simp) ?_ (λj o _ hb=>?_) ?_ G);·exact Og (List.length_filter_le _ _) (by simp)
  ·simp[Array.getD_eq_getD_getElem?,Array.getElem?_replicate] at hb;split at hb<;>simp at hb
  ·rw[iJ (b':=λk=>zaj (k<0+0)) λj _=>by
    simp[Array.getD_eq_getD_getElem?,Array.getElem?_replicate];split<;>simp]
   rw[nY];exact R'.world rfl rfl rfl rfl
end
end Rv
namespace Rv
open Go
section
variable{P:Program}{C:Ctx}{γ:Gam}{w:zah}{R:Type}{r:R}
def Ex.toExit:Ex->Exit
 | .normal=>.normal
 | .exit id=>.exit id
 | .goto l=>.goto l
 | .ret=>.ret
def KOk(C:Ctx)(E:Env R)(r:R)(K:fQ R)(Q:Exit->Act->zah->Prop):Prop:=
 ∀ex,iP C E r (K ex) (Q ex.toExit)
theorem CQ:∀i j,(nmJ i).1=(nmJ j).1->i=j:=λi j e=>by simp only[nmJ] at e;omega
theorem zh{E:Env R}(hnl:E.nl=C.nl){sh:Shape}(hp:sh.pins E.nl=zac){st:St}{ab:Abs sh.T}(he:sh.abs st=O ab){a:Act}(R':Rel C γ w st a.tmps)(G:Good E a):∃γ',Rel C γ' w (sh.mk' nmJ E.N ab.x) a.tmps:=by
 have I:=R'.inv;obtain⟨γ',R1,_⟩:=qm he R' CQ I.invW (λd g ho _ _=>ho.1) (λk e g c l _ hk hb hg=>I.rd g (I.own k e g c hk (by rw[hb];trivial) hg)) (λk e g c _ hk hl hg=>I.own k e g c hk hl hg)
  (λi hi=>by
   obtain⟨h1,e,h2,h3⟩:=zi he hp i (by omega);obtain⟨e',h4,h5⟩:=I.lent i hi;rw[h2] at h4;simp only[ND] at h4;subst h4;exact⟨rfl,_,h1,h5 h3⟩)
 have:st.s.length=E.N:=by rw[<- R'.size,G.size]
 rw[this] at R1;exact⟨γ',R1⟩
theorem zJ{E:Env R}(hnl:E.nl=C.nl){h:JH R}{ms:Z Nat}{F:St->W R}(hj:∀x,h.j ms x=F (h.sh.mk' nmJ E.N x)){Q:Act->zah->Prop}(hF:iP C E r F Q):iP C E r (goJ E.nl h ms) Q:=λγ st a w R' G he=>by
 unfold goJ at he;obtain⟨hp,he⟩:=aa he;split at he;·rename_i ab hab;obtain⟨γ',R1⟩:=zh hnl hp hab R' G;rw[hj] at he;exact hF γ' _ a w R1 G he
 ·cases he
def ko(C:Ctx)(E:Env R)(r:R)(h:LH R)(ms:Z Nat)(n:Nat)(a:Act)(w:zah):Prop:=
 ∃γ x,Rel C γ w (h.sh.mk' nmJ E.N x) a.tmps/\Good E a/\h.l ms n x=O r
theorem qH{E:Env R}(hnl:E.nl=C.nl){h:LH R}{ms:Z Nat}{n:Nat}{Q:Act->zah->Prop}(hQ:∀a w,ko C E r h ms n a w->Q a w):iP C E r (goL E.nl h ms n) Q:=λγ st a w R' G he=>by
 unfold goL at he;obtain⟨hp,he⟩:=aa he;split at he;·rename_i ab hab;obtain⟨γ',R1⟩:=zh hnl hp hab R' G;exact hQ a w ⟨γ',_,R1,G,he⟩
 ·cases he
theorem jJ:∀{c:Code}{l:Nat}{b:Code},dZ c l=O b->findLabel c l=O (.seq .skip b)
 | .seq a b,l,b',h=>by
  simp only[dZ] at h;split at h
  ·rename_i i hi;have ha:a=.label i:=by
    unfold iC at hi;split at hi;·simp only[ND] at hi;rw[hi]
    ·cases hi
   subst ha;split at h;·rename_i e;subst e;simp only[ND] at h;subst h;simp[findLabel]
   ·rename_i e;simp only[findLabel];rw[zak (by simpa using e)];exact jJ h
  ·split at h
   ·rename_i hn;simp only[findLabel];rw[Option.isNone_iff_eq_none.1 hn];exact jJ h
   ·cases h
 | .skip,_,_,h | .label _,_,_,h | .region ..,_,_,h | .cond ..,_,_,h | .block ..,_,_,h | .loop _,_,_,h | .rangeFunc ..,_,_,h | .exit _,_,_,h | .scope _,_,_,h | .goto _,_,_,h | .ret,_,_,h | .refuse _,_,_,h=>by cases h
theorem mV:∀{c:Code}{l:Nat}{b:Code},dZ c l=O b->sizeOf b<sizeOf c
 | .seq a b,l,b',h=>by
  simp only[dZ] at h;split at h
  ·split at h
   ·simp only[ND] at h;subst h;simp only[Code.seq.sizeOf_spec];omega
   ·have:=mV h;simp only[Code.seq.sizeOf_spec];omega
  ·split at h
   ·have:=mV h;simp only[Code.seq.sizeOf_spec];omega
   ·cases h
 | .skip,_,_,h | .label _,_,_,h | .region ..,_,_,h | .cond ..,_,_,h | .block ..,_,_,h | .loop _,_,_,h | .rangeFunc ..,_,_,h | .exit _,_,_,h | .scope _,_,_,h | .goto _,_,_,h | .ret,_,_,h | .refuse _,_,_,h=>by cases h
theorem F9{E:Env R}{a:Code}{h:Nat×LH R}(hh:mX E a=O h):a=.label h.1/\E.lab h.1=O h.2:=by
 unfold mX at hh;split at hh
 ·rename_i l hl;split at hh
  ·rename_i g hg;simp only[ND] at hh;subst hh;refine⟨?_,hg⟩;unfold iC at hl;split at hl
   ·simp only[ND] at hl;rw[hl]
   ·cases hl
  ·cases hh
 ·cases hh
theorem CF{E:Env R}{l:Nat}{h:LH R}(hh:E.lab l=O h):mX E (.label l)=O (l,h):=by
 simp[mX,iC,hh]
theorem jK{E:Env R}{l:Nat}{h:LH R}(hl:E.lab l=O h):∀{c b:Code}{K:Z Nat->fQ R},dZ c l=O b->(∀s,s∈sites E c K->s.ok E) ->
  (bZ b).isEmpty=zac/\(Site.loop h b (λms m=>qM E.nl l h ms m (K ms))).ok E/\∀s,s∈sites E b (λms=>qM E.nl l h ms.tail ms.head! (K ms.tail))->s.ok E
 | .seq x y,b,K,hf,hs=>by
  simp only[dZ] at hf;simp only[sites] at hs;split at hf
  ·rename_i i hi;have hx:x=.label i:=by
    unfold iC at hi;split at hi;·simp only[ND] at hi;rw[hi]
    ·cases hi
   subst hx;split at hf;·rename_i e;subst e;simp only[ND] at hf;subst hf;rw[CF hl] at hs;exact⟨hs (.flag (bZ y).isEmpty) (by simp),hs (.loop h y λms m=>qM E.nl i h ms m (K ms)) (by simp),λs h=>hs s (by simp[h])⟩
   ·cases hlh:mX E (.label i) with
    |some g=>
     rw[hlh] at hs;have h1:=hs (.flag (bZ y).isEmpty) (by simp);have h2:bZ y=[]:=by simpa[Site.ok] using h1
     exact absurd hf (by
      have:∀{c:Code},bZ c=[]->dZ c l=zaf:=by
       intro c
       induction c with
       |seq a b iha ihb=>
        intro hc;simp only[bZ,List.append_eq_nil_iff] at hc;simp only[dZ];split
        ·rename_i j hj;exfalso;unfold iC at hj;split at hj
         ·simp[bZ] at hc
         ·cases hj
        ·split
         ·exact ihb hc.2
         ·rfl
       |_=>intro _;rfl
      rw[this h2];simp)
    |none=>
     rw[hlh] at hs;exact jK hl hf λs h=>hs s (by simp[h])
  ·rename_i hi;split at hf
   ·have:mX E x=zaf:=by unfold mX;rw[hi]
    rw[this] at hs;exact jK hl hf λs h=>hs s (by simp[h])
   ·cases hf
 | .skip,_,_,h,_ | .label _,_,_,h,_ | .region ..,_,_,h,_ | .cond ..,_,_,h,_ | .block ..,_,_,h,_ | .loop _,_,_,h,_ | .rangeFunc ..,_,_,h,_ | .exit _,_,_,h,_ | .scope _,_,_,h,_ | .goto _,_,_,h,_ | .ret,_,_,h,_ | .refuse _,_,_,h,_=>by cases h
def iW(C:Ctx)(E:Env R)(r:R)(c:Code)(ms:Z Nat)(Q:Exit->Act->zah->Prop):Prop:=
 ∀l h,l∈bZ c->E.lab l=O h->∀n a w,ko C E r h ms n a w->Q (.goto l) a w
theorem iW.of_nil{E:Env R}{c:Code}{ms:Z Nat}{Q:Exit->Act->zah->Prop}(h:(bZ c).isEmpty=zac):iW C E r c ms Q:=λl g hl=>by
 rw[List.isEmpty_iff.1 h] at hl;simp at hl
theorem uT{E:Env R}(hE:jR P C.L C.nl E)(hm:P.follows .mixedOrders=zac):∀(n:Nat) (c:Code),sizeOf c<n->∀{Kf:Z Nat->fQ R} (ms:Z Nat) {Q:Exit->Act->zah->Prop},(∀s,s∈sites E c Kf->s.ok E)->iW C E r c ms Q->KOk C E r (Kf ms) Q ->
  iP C E r (λst=>aL E ms c st (Kf ms)) (c.wp P Q):=by
 intro n
 induction n with
 |zero=>intro c hc;omega
 |succ n ih=>
 intro c hc Kf ms Q hs hL hK γ st a w R' G he;cases c with
 |skip=>exact wp_skip (hK .normal γ st a w R' G (by simpa[aL] using he))
 |label l=>exact wp_label (hK .normal γ st a w R' G (by simpa[aL] using he))
 |region id ops draw=>exact Az hE hm R' G (by simpa[aL] using he) (hK .normal)
 |seq x y=>
  simp only[aL] at he;simp only[sites] at hs;cases hlh:mX E x with
  |some h=>
   rw[hlh] at he hs;obtain⟨hx,hlab⟩:=F9 hlh;subst hx;refine wp_seq (wp_label ?_);show y.wp P Q a w;refine qH hE.nl (Q:=y.wp P Q) (λa w hLp=>?_) γ st a w R' G he;obtain⟨γ,x,R1,G1,hx⟩:=hLp;have hsite:=hs (.loop h.2 y λms m=>qM E.nl h.1 h.2 ms m (Kf ms)) (by simp) ms;cases hn:E.n with
   |zero=>rw[hn,hsite.1] at hx;cases hx
   |succ m=>
    rw[hn,hsite.2] at hx;refine ih y (by simp at hc;omega) (Kf:=λms=>qM E.nl h.1 h.2 ms.tail ms.head! (Kf ms.tail)) (m::ms) (λs h=>hs s (by simp[h])) (iW.of_nil (hs (.flag (bZ y).isEmpty) (by simp))) ?_ γ _ a w R1 G1 hx;intro ex;cases ex with
    |goto i=>
     intro γ st a w R' G he;have he:(if i=h.1 then goL E.nl h.2 ms m st else Kf ms (.goto i) st)=O r:=he;by_cases e:i=h.1;·subst e;rw[zab rfl] at he;exact qH hE.nl (λa w hLp=>hL h.1 h.2 (by simp[bZ]) hlab m a w hLp) γ st a w R' G he
     ·rw[zak e] at he;exact hK (.goto i) γ st a w R' G he
    |normal=>exact hK .normal
    |exit id=>exact hK (.exit id)
    |ret=>exact hK .ret
  |none=>
   rw[hlh] at he hs;simp only[List.cons_append,NT,NV] at hs;have hflag:=hs _ (.inl rfl);have hLx:iW C E r x ms (Exit.then (y.wp P Q) Q):=by
    intro l g hl hg;simp only[Site.ok,Bool.or_eq_true] at hflag;rcases hflag with h|h
    ·obtain⟨i,hi⟩:=Option.isSome_iff_exists.1 h;unfold iC at hi;split at hi
     ·simp only[bZ,Ob] at hl;subst hl;rw[CF hg] at hlh;cases hlh
     ·cases hi
    ·rw[List.isEmpty_iff.1 h] at hl;simp at hl
   have hy:=ih y (by simp at hc;omega) ms (λs h=>hs s (.inr (.inr h))) (λl g hl=>hL l g (by simp[bZ,hl])) hK;refine wp_seq (ih x (by simp at hc;omega) (Kf:=λms=>I4 E ms y (λst=>aL E ms y st (Kf ms)) (Kf ms)) ms (λs h=>hs s (.inr (.inl (.inl h)))) hLx ?_ γ st a w R' G he);intro ex;cases ex with
   |normal=>
    show iP C E r (λst=>match (first y).bind E.join with|some h=>goJ E.nl h ms st|none=>aL E ms y st (Kf ms)) (y.wp P Q);cases hj:(first y).bind E.join with
    |none=>exact hy
    |some h=>
     have:=hs (.join h y Kf) (.inr (.inl (.inr (by rw[hj];simp))));exact zJ hE.nl (λx=>this ms x) hy
   |exit id=>exact hK (.exit id)
   |goto l=>exact hK (.goto l)
   |ret=>exact hK .ret
 |cond cv x y=>
  have hsz:=hc;simp only[Code.cond.sizeOf_spec] at hsz;simp only[aL] at he;simp only[sites,List.cons_append,NT,NV] at hs;have hflag:=hs _ (.inl rfl);simp only[Site.ok,NJ] at hflag;split at he
  ·rename_i t hcv;have hv:=(R'.opd hcv).1;have hv:a.eval cv=.bool t:=hv;refine wp_cond hv ?_;have hx:=ih x (by omega) ms (λs h=>hs s (.inr (.inl (.inr h)))) (iW.of_nil hflag.1) hK;have hy:=ih y (by omega) ms (λs h=>hs s (.inr (.inr h))) (iW.of_nil hflag.2) hK;split at he
   ·rename_i ht;rw[zab ht];cases hj:(first x).bind E.join with
    |none=>rw[hj] at he;exact hx γ st a w R' G he
    |some h=>
     rw[hj] at he;have:=hs (.join h x Kf) (.inr (.inl (.inl (.inl (by rw[hj];simp)))));exact zJ hE.nl (λx=>this ms x) hx γ st a w R' G he
   ·rename_i ht;rw[zak ht];cases hj:(first y).bind E.join with
    |none=>rw[hj] at he;exact hy γ st a w R' G he
    |some h=>
     rw[hj] at he;have:=hs (.join h y Kf) (.inr (.inl (.inl (.inr (by rw[hj];simp)))));exact zJ hE.nl (λx=>this ms x) hy γ st a w R' G he
  ·cases he
 |block id c=>
  simp only[aL] at he;simp only[sites,NT] at hs;refine wp_block (ih c (by simp at hc;omega) (Kf:=λms=>vw id (Kf ms)) ms (λs h=>hs s (.inr h)) (iW.of_nil (hs _ (.inl rfl))) ?_ γ st a w R' G he);intro ex;cases ex with
  |normal=>exact hK .normal
  |exit i=>
   intro γ st a w R' G he;simp only[vw] at he;show(if i=id then Q .normal a w else Q (.exit i) a w);split at he;·rename_i h;rw[zab h];exact hK .normal γ st a w R' G he
   ·rename_i h;rw[zak h];exact hK (.exit i) γ st a w R' G he
  |goto l=>exact hK (.goto l)
  |ret=>exact hK .ret
 |loop c=>
  simp only[aL] at he;simp only[sites] at hs;split at he
  ·rename_i h hl;rw[hl] at hs;simp only[NT] at hs;have hsite:=hs _ (.inr (.inl rfl)) ms;refine qH hE.nl (Q:=(Code.loop c).wp P Q) (λa w hL=>?_) γ st a w R' G he;refine wp_loop_ghost (ko C E r h ms) E.n hL λn a w hn=>?_
   obtain⟨γ,x,R1,G1,hx⟩:=hn;cases n with
   |zero=>rw[hsite.1] at hx;cases hx
   |succ m=>
    rw[hsite.2] at hx;refine ih c (by simp at hc;omega) (Kf:=λms=>Eg E.nl h ms.tail ms.head! (Kf ms.tail)) (m::ms) (λs h=>hs s (.inr (.inr h))) (iW.of_nil (hs _ (.inl rfl))) ?_ γ _ a w R1 G1 hx;intro ex;cases ex with
    |normal=>exact qH hE.nl λa w hL=>⟨m,Nat.lt_succ_self m,hL⟩
    |exit id=>exact hK (.exit id)
    |goto l=>exact hK (.goto l)
    |ret=>exact hK .ret
  ·cases he
 |exit id=>exact wp_exit (hK (.exit id) γ st a w R' G (by simpa[aL] using he))
 |goto l=>exact wp_goto (hK (.goto l) γ st a w R' G (by simpa[aL] using he))
 |ret=>exact wp_ret (hK .ret γ st a w R' G (by simpa[aL] using he))
 |scope c=>
  simp only[aL] at he;simp only[sites,NT] at hs;have hflag:=hs _ (.inl rfl);have hs':∀s,s∈sites E c (λms=>nK (Kf ms))->s.ok E:=λs h=>hs s (.inr h)
  have straight:(∀l h,l∈bZ c->E.lab l=O h->False)->(Code.scope c).wp P Q a w:=by
   intro hno;refine wp_scope_straight (ih c (by simp at hc;omega) (Kf:=λms=>nK (Kf ms)) ms hs' (λl h hl hg=>(hno l h hl hg).elim) ?_ γ st a w R' G he);intro ex;cases ex with
   |normal=>exact hK .normal
   |exit id=>exact hK (.exit id)
   |goto l=>exact λγ st a w R' G he=>by cases he
   |ret=>exact hK .ret
  simp only[Site.ok,GZ] at hflag;split at hflag;·rename_i hlabs;exact straight λl h hl=>by rw[hlabs] at hl;simp at hl
  ·rename_i l hlabs;cases hg:E.lab l with
   |none=>
    refine straight λi h hi hg'=>?_
    rw[hlabs] at hi;simp only[Ob] at hi;subst hi;rw[hg] at hg';cases hg'
   |some h=>
    obtain⟨b,hb⟩:=Option.isSome_iff_exists.1 hflag;obtain⟨g1,g2,g3⟩:=jK hg hb hs';refine wp_scope_jumps l (λa w=>∃n,ko C E r h ms n a w) (λa w=>leastOf λn=>ko C E r h ms n a w) (jJ hb) ?_ ?_
    ·refine ih c (by simp at hc;omega) (Kf:=λms=>nK (Kf ms)) ms hs' (λi g hi hg'=>?_) ?_ γ st a w R' G he
     ·rw[hlabs] at hi;simp only[Ob] at hi;subst hi;rw[hg] at hg';simp only[ND] at hg';subst hg';exact λn a w hLp=>⟨rfl,n,hLp⟩
     ·intro ex;cases ex with
      |normal=>exact hK .normal
      |exit id=>exact hK (.exit id)
      |goto l=>exact λγ st a w R' G he=>by cases he
      |ret=>exact hK .ret
    ·intro a w hJ;have hleast:=(leastOf_spec hJ).1;refine wp_seq (wp_skip ?_);show b.wp P _ a w;generalize hnn:leastOf (λn=>ko C E r h ms n a w)=n at *;obtain⟨γ,x,R1,G1,hx⟩:=hleast;cases n with
     |zero=>rw[(g2 ms).1] at hx;cases hx
     |succ m=>
      rw[(g2 ms).2] at hx;have hlt:=mV hb;refine ih b (by simp only[Code.scope.sizeOf_spec] at hc;omega) (Kf:=λms=>qM E.nl l h ms.tail ms.head! (nK (Kf ms.tail))) (m::ms) g3 (iW.of_nil g1) ?_ γ _ a w R1 G1 hx;intro ex;cases ex with
      |goto i=>
       intro γ st a w R' G he;have he:(if i=l then goL E.nl h ms m st else zaf)=O r:=he;obtain⟨e,he2⟩:=aa he;subst e;refine qH hE.nl (λa' w' hLp=>?_) γ st a w R' G he2;exact show i=i/\(∃n,ko C E r h ms n a' w')/\leastOf (λn=>ko C E r h ms n a' w')<m+1 from⟨rfl,⟨m,hLp⟩,Nat.lt_succ_of_le ((leastOf_spec ⟨m,hLp⟩).2 m hLp)⟩
      |normal=>exact hK .normal
      |exit id=>exact hK (.exit id)
      |ret=>exact hK .ret
  ·cases hflag
 |rangeFunc f p x y=>cases he
 |refuse why=>cases he
theorem wC{E:Env R}(hE:jR P C.L C.nl E)(hm:P.follows .mixedOrders=zac)(c:Code){Kf:Z Nat->fQ R}(ms:Z Nat){Q:Exit->Act->zah->Prop}(hs:∀s,s∈sites E c Kf->s.ok E)(hL:iW C E r c ms Q)(hK:KOk C E r (Kf ms) Q) :
  iP C E r (λst=>aL E ms c st (Kf ms)) (c.wp P Q):=uT hE hm _ c (Nat.lt_succ_self _) ms hs hL hK
end
end Rv
namespace Rv
open Go
def vQ(te:zae->W TI)(st:St):ResultVar->W V1
 | .tmp t=>opd st (.tmp t)
 | .cell a t=>match opd st (.tmp a) with
  |some (.c (.ptr k v off))=>dG te st t (.c (.ptr k v off)) O
  |_=>zaf
def nW(te:zae->W TI)(st:St):Z ResultVar->W (Z V1)
 |[]=>O []
 |x::r=>match vQ te st x with
  |some v=>match nW te st r with
   |some l=>O (v::l)
   |none=>zaf
  |none=>zaf
def yP(te:zae->W TI)(rs:Z ResultVar)(sp:Spec)(st:St):W sp.r.T:=
 match nW te st rs with
 |some vs=>if vs.length=sp.r.slots.length/\sp.r.pins sp.a.boxes.length=zac then match sp.r.abs ⟨vs.map .v,st.h⟩ with
  |some a=>O a.x
  |none=>zaf
  else zaf
 |none=>zaf
def qC(te:zae->W TI)(rs:Z ResultVar)(sp:Spec):fQ sp.r.T
 | .normal,st=>yP te rs sp st
 | .ret,st=>yP te rs sp st
 |_,_=>zaf
def init(sp:Spec)(N:Nat)(x:sp.a.T):St:=
 let s:=sp.a.mk' nmJ sp.a.slots.length x
 ⟨s.s++List.replicate (N-sp.a.slots.length) V.dead,s.h⟩
section
variable{P:Program}{C:Ctx}{γ:Gam}{w:zah}{R:Type}{r:R}
def AC(tmps:Array zal):ResultVar->Sem zal
 | .tmp t=>pure (tmps.getD t undef)
 | .cell b t=>do loadVar t (<- asAddr (tmps.getD b undef))
theorem AB{te:zae->W TI}(hte:∀t i,te t=O i->aN P t i){st:St}{a:Act}(R':Rel C γ w st a.tmps){x:ResultVar}{v:V1}(he:vQ te st x=O v) :
  ∃u,aI C γ st.h w v u/\(AC a.tmps x).run P w=.ok u w:=by
 cases x with
 |tmp t=>
  simp only[vQ] at he;exact⟨_,(R'.opd he).1,rfl⟩
 |cell b t=>
  simp only[vQ] at he;split at he
  ·rename_i k kv off ho;have hb:=(R'.opd ho).1;obtain⟨y,hy,u,hu,hrun⟩:=sW (P:=P) hte R'.inv he hb;simp only[ND] at hy;subst hy;refine⟨u,hu,?_⟩;have h1:=hrun w (Ext.refl w);unfold dG at he;split at he
   ·rename_i k' kv' off' ti he' _;injection he' with he'
    injection he' with e1 e2 e3
    subst e1 e2 e3;split at he
    ·rename_i l hat
     obtain⟨e,hk,hve,hbox⟩:=aH hat
     obtain⟨g,c,hγ,hv⟩:=hb.2.get hk hve l hbox;have hv':a.tmps.getD b undef=_:=hv;rw[show a.eval (.tmp b)=_ from hv'] at h1;show(do loadVar t (<- asAddr (a.tmps.getD b undef))).run P w=_;rw[hv'];exact h1
    ·cases he
   ·rename_i he' _;simp at he'
   ·rename_i he' _;simp at he'
   ·rename_i he' _;simp at he'
   ·cases he
  ·cases he
theorem rE{te:zae->W TI}(hte:∀t i,te t=O i->aN P t i){st:St}{a:Act}(R':Rel C γ w st a.tmps):∀{l:Z ResultVar}{vs:Z V1},nW te st l=O vs ->
  ∃us:Z zal,aj (aI C γ st.h w) vs us/\(l.mapM (AC a.tmps)).run P w=.ok us w
 |[],vs,he=>by
  simp only[nW,ND] at he;subst he;exact⟨[],trivial,rfl⟩
 |x::l,vs,he=>by
  simp only[nW] at he;split at he
  ·rename_i v hv;split at he
   ·rename_i l' hl;simp only[ND] at he;subst he;obtain⟨u,h1,h2⟩:=AB hte R' hv;obtain⟨us,h3,h4⟩:=rE hte R' hl;refine⟨u::us,⟨h1,h3⟩,?_⟩;rw[List.mapM_cons,NR,h2,NG,NR,h4];rfl
   ·cases he
  ·cases he
theorem yJ{te:zae->W TI}(hte:∀t i,te t=O i->aN P t i){st:St}{a:Act}(R':Rel C γ w st a.tmps){fn:Func}{vs:Z V1}(he:nW te st fn.results.toList=O vs) :
  ∃rs:Array zal,aj (aI C γ st.h w) vs rs.toList/\(results fn a.tmps).run P w=.ok (if h:rs.size=1 then rs[0] else .tuple rs) w:=by
 obtain⟨us,h1,h2⟩:=rE hte R' he;refine⟨us.toArray,h1,?_⟩;have hr:results fn a.tmps=(do
   let vs <- fn.results.mapM (AC a.tmps)
   pure (if h:vs.size=1 then vs[0] else .tuple vs)):=by
  unfold results;congr 1
 rw[hr,Array.mapM_eq_mapM_toList];simp only[NR,map_eq_pure_bind,h2,NG,NZ]
theorem MR{L:zah->Prop}{f:FuncId}{fn:Func}{c:Code}{sp:Spec}{E:Nat->Env sp.r.T}(hf:P.funcs[f]?=O fn)(hb:fn.body=O c)(hm:P.follows .mixedOrders=zac)(hE:∀n,jR P L sp.a.boxes.length (E n))(hN:∀n,(E n).N=fn.ntmps)
  (hle:sp.a.slots.length<=fn.ntmps) (hlabs:(bZ c).isEmpty=zac) (hs:∀n s,s∈sites (E n) c (λ_=>qC (E n).te fn.results.toList sp)->s.ok (E n))
  (hx:∀x y,sp.f x=O y->∃n,aL (E n) [] c (init sp fn.ntmps x) (qC (E n).te fn.results.toList sp)=O y):Sat P L f sp:=by
 intro x y hy C γ vals hCL hCn R0;subst hCL;rw[<- hCn] at hE;obtain⟨n,hn⟩:=hx x y hy;have hsz:vals.size=sp.a.slots.length:=by
  rw[R0.size];show(ax _ _ _).1.length=_;rw[bO];simp
 refine calls_of_wp hf hb ?_;have Ri:Rel C γ C.w0 (init sp fn.ntmps x) (vals++Array.replicate (fn.ntmps-vals.size) undef):=by
  have hl:(sp.a.mk' nmJ sp.a.slots.length x).s.length=sp.a.slots.length:=by rw[<- R0.size];exact hsz
  refine⟨?_,λi v hi=>?_,R0.inv⟩;·simp only[init,Array.size_append,Array.size_replicate,NP,OH,hl,hsz]
  ·simp only[init] at hi;by_cases hlt:i<vals.size
   ·rw[Ou (by rw[hl,<- hsz];exact hlt)] at hi;have:=R0.slot i v hi;simpa[Array.getD_eq_getD_getElem?,Array.getElem?_append,hlt,init] using this
   ·rw[List.getElem?_append_right (by rw[hl,<- hsz];omega),List.getElem?_replicate] at hi;split at hi
    ·simp only[ND] at hi;subst hi;trivial
    ·cases hi
 refine wC (C:=C) (r:=y) (hE n) hm c [] (hs n) (Q:=bodyPost P fn _) (iW.of_nil hlabs) ?_ γ _ _ C.w0 Ri ⟨?_,rfl⟩ hn
 ·have fin:iP C (E n) y (yP (E n).te fn.results.toList sp) (λa w=>a.defers=[]/\∃v,(results fn a.tmps).run P w=.ok v w/\∃(γ':Gam) (rs:Array zal),Ending.returned v=.returned (if h:rs.size=1 then rs[0] else .tuple rs)/\Rel C γ' w (sp.r.mk' nmJ sp.r.slots.length y) rs):=by
   intro γ1 st a w R1 G he;unfold yP at he;split at he
   ·rename_i vs hv;obtain⟨⟨hlen,hbx⟩,he'⟩:=aa he;split at he'
    ·rename_i ab hab;simp only[ND] at he';subst he';obtain⟨rs,ha,hrun⟩:=yJ (hE n).te R1 hv;have Rr:Rel C γ1 w ⟨vs.map .v,st.h⟩ rs:=by
      refine⟨?_,λi v hi=>?_,R1.inv⟩;·have:=ha.length;simp only[Ow];rw[this];simp
      ·simp only[OI,Option.map_eq_some_iff] at hi;obtain⟨v1,h1,rfl⟩:=hi;obtain⟨u,hu,hr⟩:=ha.get h1;have:rs.getD i undef=u:=by
        rw[Array.getD_eq_getD_getElem?,<- Array.getElem?_toList,hu];rfl
       rw[this];exact hr
     obtain⟨γ',R2,_⟩:=qm hab Rr CQ R1.inv.invW (λd g ho _ _=>ho.1) (λk e g c l _ hk hb hg=>R1.inv.rd g (R1.inv.own k e g c hk (by rw[hb];trivial) hg)) (λk e g c _ hk hl hg=>R1.inv.own k e g c hk hl hg)
      (λi hi=>by
       obtain⟨h1,e,h2,h3⟩:=zi hab hbx i (by omega);obtain⟨e',h4,h5⟩:=R1.inv.lent i hi;simp only at h2;rw[h2] at h4;simp only[ND] at h4;subst h4;exact⟨rfl,_,h1,h5 h3⟩)
     have hl2:(vs.map V.v).length=sp.r.slots.length:=by rw[Ow];exact hlen
     rw[hl2] at R2;exact⟨G.defers,_,hrun,γ',rs,rfl,R2⟩
    ·cases he'
   ·cases he
  intro ex;cases ex with
  |normal=>exact fin
  |ret=>exact fin
  |exit id=>exact λγ1 st a w R1 G he=>by cases he
  |goto l=>exact λγ1 st a w R1 G he=>by cases he
 ·simp only[Array.size_append,Array.size_replicate,hN n,hsz];omega
end
end Rv
namespace Rv
open Go
def Al:Cell->zal->zai
 | .int k n,.int j m=>zaj (k=j)&&zaj (n=m)
 | .bool b,.bool c=>b == c
 | .str s,.string t=>zaj (t.data.toList=s)
 | .nilS,.slice zaf 0 0=>zac
 | .raw .nilIface,.nilIface=>zac
 | .raw (.pointer zaf),.pointer zaf=>zac
 | .raw .nilFunc,.nilFunc=>zac
 |_,_=>zad
def su:Z Cell->Z zal->zai
 |[],[]=>zac
 |c::l,v::m=>Al c v&&su l m
 |_,_=>zad
def FT(P:Program)(f:Nat×Nat×zai)(fd:Field):zai:=
 zaj (fd.offset=f.1)&&zaj (0<f.2.1)&&(match P.info? fd.type with|some inf=>zaj (inf.size=f.2.1)|none=>zad) &&
  (match P.underlying fd.type with|some d=>fA d == f.2.2|none=>zad)
def fieldsB(P:Program):Z (Nat×Nat×zai)->Z Field->zai
 |[],[]=>zac
 |f::l,g::m=>FT P f g&&fieldsB P l m
 |_,_=>zad
def uR(P:Program)(rec:zae->Ty->zai):Z Field->Nat->Ty->zai
 |[],_,.nil=>zac
 |f::fs,off,.pair A B=>!(f.name == "_")&&zaj (f.offset=off)&&rec f.type A&&(match P.info? f.type with|some inf=>zaj (inf.size=A.size)|none=>zad) &&
  (match P.underlying f.type with|some d=>fA d == A.isAgg|none=>zad)&&uR P rec fs (off+A.size) B
 |_,_,_=>zad
def mD:W TypeDesc->zai
 |some (.struct _)=>zac
 |_=>zad
def eqB(P:Program):Nat->zae->Ty->zai
 |0,_,_=>zad
 |d+1,t,T=>match T with
  | .int k=>match P.underlying t with|some (.int k')=>zaj (k'=k)|_=>zad
  | .bool=>match P.underlying t with|some .bool=>zac|_=>zad
  | .str=>match P.underlying t with|some .string=>zac|_=>zad
  | .sl _=>zad
  | .fn=>zad
  | .nil=>mD (P.underlying t)&&!(P.stoodInHeld t)&&uR P (eqB P d) (P.fieldsOf t).toList 0 .nil
  | .pair a b=>mD (P.underlying t)&&!(P.stoodInHeld t)&&uR P (eqB P d) (P.fieldsOf t).toList 0 (.pair a b)
def jH(P:Program)(t:zae)(i:TI):zai:=
 match P.info? t,P.underlying t with
 |some inf,O d=>
  zaj (inf.size=i.size)&&zaj (inf.bytes=i.bytes)&&(match inf.zero with|some z=>zaj (z.cells.size=i.size)&&su i.zero z.cells.toList|none=>zad) &&
  (fA d == i.agg)&&(i.fields.isEmpty||match d with | .struct fs=>fieldsB P i.fields fs.toList|_=>zad) &&
  (match i.elem with|none=>zac|some e=>match d with | .slice e'=>zaj (e'=e)|_=>zad) &&
  (match i.int with|none=>zac|some k=>match d with | .int k'=>zaj (k'=k)|_=>zad) &&
  (!i.str||match d with | .string=>zac|_=>zad) &&
  (match i.ty with|none=>zac|some T=>zaj (T.size=i.size)&&(T.isAgg == i.agg)&&(match T with | .bool=>(match d with | .bool=>zac|_=>zad)|_=>zac)) &&
  (!i.iface||match d with | .interface _=>zac|_=>zad) &&
  (match i.eq with|none=>zac|some T=>eqB P 20 t T&&!T.hasSl&&T.isAgg&&!(P.eqGuardType P.depth t)) &&
  (!i.cmp||inf.comparable)&&(i.iface||match d with | .interface _=>zad|_=>zac) &&
  (match i.arr with|none=>zac|some n=>match d with | .array m e=>zaj (m=n)&&(match P.info? e,P.underlying e with|some ie,O de=>zaj (0<n)&&(zaj (ie.size=i.size / n)&&(!zaj (i.size=n)||!fA de))|_,_=>zad)|_=>zad)
 |_,_=>zad
section
variable{P:Program}
theorem Am{c:Cell}{v:zal}(h:Al c v=zac):c.plain=O v:=by
 unfold Al at h;split at h;·simp only[NJ,NH] at h;rw[h.1,h.2];rfl
 ·simp only[beq_iff_eq] at h;rw[h];rfl
 ·simp only[NH] at h;subst h;rfl
 ·rfl
 ·rfl
 ·rfl
 ·rfl
 ·cases h
theorem qg:∀{l:Z Cell}{m:Z zal},su l m=zac->aj (λc v=>c.plain=O v) l m
 |[],[],_=>trivial
 |c::l,v::m,h=>by
  simp only[su,NJ] at h;exact⟨Am h.1,qg h.2⟩
 |[],_::_,h=>by cases h
 |_::_,[],h=>by cases h
theorem qb:∀{l:Z (Nat×Nat×zai)}{m:Z Field},fieldsB P l m=zac->aj (λ(f:Nat×Nat×zai) (fd:Field)=>fd.offset=f.1/\0<f.2.1/\(∃inf,P.info? fd.type=O inf/\inf.size=f.2.1) /\
  ∃d,P.underlying fd.type=O d/\fA d=f.2.2) l m
 |[],[],_=>trivial
 |f::l,g::m,h=>by
  simp only[fieldsB,NJ] at h;refine⟨?_,qb h.2⟩;have h:=h.1;unfold FT at h;simp only[NJ,NH] at h;obtain⟨⟨⟨h1,h2⟩,h3⟩,h4⟩:=h;refine⟨h1,h2,?_,?_⟩
  ·split at h3
   ·rename_i inf hi;exact⟨inf,hi,by simpa using h3⟩
   ·cases h3
  ·split at h4
   ·rename_i d hd;exact⟨d,hd,by simpa using h4⟩
   ·cases h4
 |[],_::_,h=>by cases h
 |_::_,[],h=>by cases h
theorem og{t:zae}(h:mD (P.underlying t)=zac):P.underlying t=O (.struct (P.fieldsOf t)):=by
 unfold mD at h;split at h;·rename_i fs hu;rw[hu];simp[Program.fieldsOf,hu]
 ·cases h
theorem mR{rb:zae->Ty->zai}{rp:zae->Ty->Prop}(hr:∀t T,rb t T=zac->rp t T):∀{fs:Z Field}{off:Nat}{T:Ty},uR P rb fs off T=zac->yY P rp fs off T
 |[],off,.nil,_=>trivial
 |f::fs,off,.pair A B,h=>by
  simp only[uR,NJ,NH,Bool.not_eq_true'] at h;obtain⟨⟨⟨⟨⟨h1,h2⟩,h3⟩,h4⟩,h5⟩,h6⟩:=h;refine⟨h1,h2,hr _ _ h3,?_,?_,mR hr h6⟩
  ·split at h4
   ·rename_i inf hi;exact⟨inf,hi,by simpa using h4⟩
   ·cases h4
  ·split at h5
   ·rename_i d hd;exact⟨d,hd,by simpa using h5⟩
   ·cases h5
 |[],_,.int _,h|[],_,.bool,h|[],_,.str,h|[],_,.sl _,h|[],_,.pair _ _,h|[],_,.fn,h=>by cases h
 |_::_,_,.int _,h|_::_,_,.bool,h|_::_,_,.str,h|_::_,_,.sl _,h|_::_,_,.nil,h|_::_,_,.fn,h=>by cases h
theorem qE:∀{d:Nat}{t:zae}{T:Ty},eqB P d t T=zac->wh P d t T
 |0,_,_,h=>by cases h
 |d+1,t,T,h=>by
  cases T with
  |int k=>
   simp only[eqB] at h;split at h
   ·rename_i k' hu;have:k'=k:=by simpa using h
    subst this;exact hu
   ·cases h
  |bool=>
   simp only[eqB] at h;split at h;·rename_i hu;exact hu
   ·cases h
  |str=>
   simp only[eqB] at h;split at h;·rename_i hu;exact hu
   ·cases h
  |sl t=>cases h
  |fn=>cases h
  |nil=>
   simp only[eqB,NJ,Bool.not_eq_true'] at h;exact⟨og h.1.1,h.1.2,mR (λt T hh=>qE hh) h.2⟩
  |pair a b=>
   simp only[eqB,NJ,Bool.not_eq_true'] at h;exact⟨og h.1.1,h.1.2,mR (λt T hh=>qE hh) h.2⟩
theorem yD{t:zae}{i:TI}(h:jH P t i=zac):aN P t i:=by
 unfold jH at h;split at h
 ·rename_i inf d hi hd;simp only[NJ,NH] at h;obtain⟨⟨⟨⟨⟨⟨⟨⟨⟨⟨⟨⟨⟨h1,h2⟩,h3⟩,h4⟩,h5⟩,h6⟩,h7⟩,h8⟩,h9⟩,h10⟩,h11⟩,h12⟩,h13⟩,h14⟩:=h;refine⟨?_,⟨d,hd,by simpa using h4⟩,?_,?_,?_,?_,?_,?_,?_,?_,?_,?_,?_⟩
  ·split at h3
   ·rename_i z hz;simp only[NJ,NH] at h3;exact⟨inf,hi,h1,h2,z,hz,h3.1,qg h3.2⟩
   ·cases h3
  ·simp only[Bool.or_eq_true,List.isEmpty_iff] at h5;rcases h5 with h5|h5
   ·exact .inl h5
   ·split at h5
    ·rename_i fs;exact .inr ⟨fs,hd,qb h5⟩
    ·cases h5
  ·intro e he;rw[he] at h6;simp only at h6;split at h6
   ·rename_i e';have:e'=e:=by simpa using h6
    rw[hd,this]
   ·cases h6
  ·intro k hk;rw[hk] at h7;simp only at h7;split at h7
   ·rename_i k';have:k'=k:=by simpa using h7
    rw[hd,this]
   ·cases h7
  ·intro hs;rw[hs] at h8;simp only[Bool.not_true,Bool.false_or] at h8;split at h8
   ·exact hd
   ·cases h8
  ·intro T hT;rw[hT] at h9;simp only[NJ,NH] at h9;exact⟨h9.1.1,by simpa using h9.1.2⟩
  ·intro hT;rw[hT] at h9;simp only[NJ,NH] at h9;have h:=h9.2;split at h
   ·exact hd
   ·cases h
  ·intro hi;rw[hi] at h10;simp only[Bool.not_true,Bool.false_or] at h10;split at h10
   ·exact⟨_,hd⟩
   ·cases h10
  ·intro hc;rw[hc] at h12;exact⟨inf,hi,by simpa using h12⟩
  ·intro hni ms hms;rw[hni] at h13;rw[hd] at hms;simp only[ND] at hms;subst hms;simp at h13
  ·intro T hT;rw[hT] at h11;simp only[NJ,Bool.not_eq_true'] at h11;exact⟨qE h11.1.1.1,h11.1.1.2,h11.1.2,h11.2⟩
  ·intro n hn;rw[hn] at h14;simp only at h14;split at h14
   ·rename_i m e;simp only[NJ,NH] at h14;obtain⟨hm,h14⟩:=h14;split at h14
    ·rename_i ie de hie hde;simp only[NJ,Bool.or_eq_true,NH,Bool.not_eq_true',decide_eq_false_iff_not] at h14;refine⟨h14.1,e,by rw[hd,hm],λw=>?_,λhs w=>?_⟩
     ·simp[Go.sizeOf,typeInfo,hie,h14.2.1]
     ·have:(Go.isAgg e).run P w=.ok (fA de) w:=by
       simp only[Go.isAgg,NR,run_underlying hde,NG];cases de<;>rfl
      rw[(h14.2.2.resolve_left λh=>h hs)] at this;exact this
    ·cases h14
   ·cases h14
 ·cases h
def J4(l:Z (zae×TI)):zae->W TI:=λt=>(l.find? λp=>p.1 == t).map (·.2)
theorem L9{l:Z (zae×TI)}(h:(l.all λp=>jH P p.1 p.2)=zac):∀t i,J4 l t=O i->aN P t i:=by
 intro t i he;unfold J4 at he;simp only[Option.map_eq_some_iff] at he;obtain⟨p,hp,rfl⟩:=he;have h1:=List.find?_some hp;have h2:=List.mem_of_find?_eq_some hp;simp only[beq_iff_eq] at h1;subst h1;exact yD (Oa.1 h p h2)
def Bf(l:Z ((FuncId×Z FuncId)×Spec)):FuncId->Z FuncId->W Spec:=λf ids=>(l.find? λp=>p.1.1 == f&&p.1.2 == ids).map (·.2)
theorem Hf{L:zah->Prop}{l:Z ((FuncId×Z FuncId)×Spec)}(h:∀p,p∈l->Sat P L p.1.1 p.2/\aC P p.1.1):∀f ids sp,Bf l f ids=O sp->Sat P L f sp/\aC P f:=by
 intro f ids sp he;unfold Bf at he;simp only[Option.map_eq_some_iff] at he;obtain⟨p,hp,rfl⟩:=he;have h1:=List.find?_some hp;have h2:=List.mem_of_find?_eq_some hp;simp only[NJ,beq_iff_eq] at h1;obtain⟨rfl,_⟩:=h1;exact h p h2
theorem fP{L:zah->Prop}:∀p,p∈([]:Z ((FuncId×Z FuncId)×Spec))->Sat P L p.1.1 p.2/\aC P p.1.1:=λp hp=>by simp at hp
theorem dP{L:zah->Prop}{f:FuncId}{ids:Z FuncId}{sp:Spec}{l:Z ((FuncId×Z FuncId)×Spec)}(h1:Sat P L f sp)(h2:aC P f)(h:∀p,p∈l->Sat P L p.1.1 p.2/\aC P p.1.1):∀p,p∈((f,ids),sp)::l->Sat P L p.1.1 p.2/\aC P p.1.1:=λp hp=>by
 rcases NT.1 hp with rfl|hp;·exact⟨h1,h2⟩
 ·exact h p hp
theorem jc{L:zah->Prop}{f:FuncId}{sp:Spec}(h:∀x,sp.f x=zaf):Sat P L f sp:=λx y hy=>by rw[h x] at hy;cases hy
variable{R:Type}
def Site.lhs(E:Env R):Site R->Z ((T:Type)×T)
 | .join h _ _=>[⟨Z Nat->h.sh.T->W R,h.j⟩]
 | .loop h _ _=>[⟨Z Nat->h.sh.T->W R,λms x=>h.l ms 0 x⟩,⟨Z Nat->Nat->h.sh.T->W R,λms m x=>h.l ms (m+1) x⟩]
 | .flag b=>[⟨zai,b⟩]
def Site.rhs(E:Env R):Site R->Z ((T:Type)×T)
 | .join h b K=>[⟨Z Nat->h.sh.T->W R,λms x=>aL E ms b (h.sh.mk' nmJ E.N x) (K ms)⟩]
 | .loop h c K=>[⟨Z Nat->h.sh.T->W R,λ_ _=>zaf⟩,⟨Z Nat->Nat->h.sh.T->W R,λms m x=>aL E (m::ms) c (h.sh.mk' nmJ E.N x) (K ms m)⟩]
 | .flag _=>[⟨zai,zac⟩]
theorem LV{E:Env R}{s:Site R}(h:s.lhs E=s.rhs E):s.ok E:=by
 cases s with
 |join h0 b K=>
  simp only[Site.lhs,Site.rhs,List.cons.injEq,and_true] at h;have h1:=eq_of_heq (Sigma.mk.inj h).2;intro ms x;rw[h1]
 |loop h0 c K=>
  simp only[Site.lhs,Site.rhs,List.cons.injEq,and_true] at h;have h1:=eq_of_heq (Sigma.mk.inj h.1).2;have h2:=eq_of_heq (Sigma.mk.inj h.2).2;intro ms;exact⟨λx=>congrFun (congrFun h1 ms) x,λm x=>congrFun (congrFun (congrFun h2 ms) m) x⟩
 |flag b=>
  simp only[Site.lhs,Site.rhs,List.cons.injEq,and_true] at h;exact eq_of_heq (Sigma.mk.inj h).2
theorem JV{E:Env R}{l:Z (Site R)}(h:l.map (Site.lhs E)=l.map (Site.rhs E)):∀s,s∈l->s.ok E:=by
 induction l with
 |nil=>intro s hs;simp at hs
 |cons a l ih=>
  simp only[NY,List.cons.injEq] at h;intro s hs;rcases NT.1 hs with rfl|hs;·exact LV h.1
  ·exact ih h.2 s hs
def funcOf(P:Program)(f:FuncId):Func:=(P.funcs[f]?).getD default
def gX(P:Program)(f:FuncId):Code:=(funcOf P f).body.getD .skip
def pO(P:Program)(f:FuncId):Z ResultVar:=(funcOf P f).results.toList
theorem aM{P:Program}{f:FuncId} (h:((P.funcs[f]?).map λfn=>fn.body.isSome&&!(fn.name == "runtime.NumGoroutine"))=O zac):aC P f:=by
 cases hf:P.funcs[f]? with
 |none=>rw[hf] at h;cases h
 |some fn=>
  rw[hf] at h;simp only[OC,ND,NJ,Bool.not_eq_true'] at h;exact⟨fn,hf,h.1,h.2⟩
theorem MQ{P:Program}{L:zah->Prop}{f:FuncId}{sp:Spec}{E:Nat->Env sp.r.T}(hm:P.follows .mixedOrders=zac)(hen:aC P f)(hte:∀n t i,(E n).te t=O i->aN P t i)(hspec:∀n g ids s,(E n).spec g ids=O s->Sat P L g s/\aC P g)(hnl:∀n,(E n).nl=sp.a.boxes.length)(hmaps:∀n,nk P L (E n).maps)
  (hN:∀n,(E n).N=(funcOf P f).ntmps) (hle:sp.a.slots.length<=(funcOf P f).ntmps) (hlabs:(bZ (gX P f)).isEmpty=zac) {g:Nat->sp.a.T->W sp.r.T} (B:sp.a.T->Nat)
  (hs:∀n,(sites (E n) (gX P f) (λ_=>qC (E n).te (pO P f) sp)).map (Site.lhs (E n))=(sites (E n) (gX P f) (λ_=>qC (E n).te (pO P f) sp)).map (Site.rhs (E n)))
  (hx:∀n,(λx=>aL (E n) [] (gX P f) (init sp (funcOf P f).ntmps x) (qC (E n).te (pO P f) sp))=g n) (hsp:∀x,sp.f x=g (B x) x):Sat P L f sp:=by
 obtain⟨fn,hf,hb,_⟩:=hen;have e1:funcOf P f=fn:=by simp[funcOf,hf]
 cases hc:fn.body with
 |none=>rw[hc] at hb;cases hb
 |some c=>
  have e2:gX P f=c:=by simp[gX,e1,hc]
  rw[e1] at hN hle;rw[e2] at hlabs;unfold pO at hs hx;simp only[e1,e2] at hs hx;refine MR (E:=E) hf hc hm (λn=>⟨hte n,hspec n,hnl n,hmaps n⟩) hN hle hlabs (λn=>JV (hs n)) λx y hy=>⟨B x,?_⟩
  rw[hsp] at hy;have h1:=congrFun (hx (B x)) x;exact Eq.trans h1 hy
def Cur:Z CD->Type->Type
 |[],R=>R
 | .ptr _ _::r,R=>Cur r R
 | .clr _ _::r,R=>Cur r R
 | .slc t::r,R=>Z t.D->Cur r R
 | .raw _::r,R=>Cur r R
 | .any::r,R=>Cur r R
 | .int _::r,R=>Int->Cur r R
 | .bool::r,R=>zai->Cur r R
 | .str::r,R=>Str->Cur r R
 | .sl t::r,R=>Z t.D->Cur r R
 | .row _ t::r,R=>Z t.D->Cur r R
 | .err::r,R=>zai->Cur r R
 | .ifo _ _::r,R=>W Int->Cur r R
 | .fn::r,R=>Fn->Cur r R
 | .pp t::r,R=>t.D->Cur r R
def ap:(l:Z CD)->{R:Type}->Cur l R->TL l->R
 |[],_,g,_=>g
 | .ptr _ _::r,_,g,x=>ap r g x.2
 | .clr _ _::r,_,g,x=>ap r g x.2
 | .slc _::r,_,g,x=>ap r (g x.1) x.2
 | .raw _::r,_,g,x=>ap r g x.2
 | .any::r,_,g,x=>ap r g x.2
 | .int _::r,_,g,x=>ap r (g x.1) x.2
 | .bool::r,_,g,x=>ap r (g x.1) x.2
 | .str::r,_,g,x=>ap r (g x.1) x.2
 | .sl _::r,_,g,x=>ap r (g x.1) x.2
 | .row _ _::r,_,g,x=>ap r (g x.1) x.2
 | .err::r,_,g,x=>ap r (g x.1) x.2
 | .ifo _ _::r,_,g,x=>ap r (g x.1) x.2
 | .fn::r,_,g,x=>ap r (g x.1) x.2
 | .pp _::r,_,g,x=>ap r (g x.1) x.2
def ah(a r:Shape)(g:Cur a.all (W r.T)):Spec:=⟨a,r,ap a.all g⟩
def tj(k:Nat)(sh:Shape)(j:Z Nat->Cur sh.all (W R))(rest:Nat->W (JH R)):Nat->W (JH R):=λr=>if r=k then O ⟨sh,λms x=>ap sh.all (j ms) x⟩ else rest r
def tl(k:Nat)(sh:Shape)(l:Z Nat->Nat->Cur sh.all (W R))(rest:Nat->W (LH R)):Nat->W (LH R):=λr=>if r=k then O ⟨sh,λms m x=>ap sh.all (l ms m) x⟩ else rest r
def tn{α:Type}:Nat->W α:=λ_=>zaf
def t0{α:Type}:Nat->Nat->W α:=λ_ _=>zaf
abbrev ki:CD:=.int .i64
abbrev ku:CD:=.int .u32
abbrev kb:CD:=.int .u8
abbrev kq:CD:=.int .u64
abbrev Si:SD:=.c ki
abbrev Su:SD:=.c ku
abbrev Sb:SD:=.c kb
abbrev Ss:SD:=.c .str
abbrev SB:SD:=.c .bool
abbrev Se:SD:=.c .err
abbrev Sp(i o:Nat):SD:=.c (.ptr i o)
abbrev tI(t:zae)(k:IntKind)(b:Nat):zae×TI:=(t,⟨1,zad,b,[.int k 0],[],zaf,O (.int k),O k,zad,zad,zac,zaf,zaf⟩)
abbrev tB(t:zae)(b:Nat):zae×TI:=(t,⟨1,zad,b,[.bool zad],[],zaf,O .bool,zaf,zad,zad,zad,zaf,zaf⟩)
abbrev tS(t:zae)(b:Nat):zae×TI:=(t,⟨1,zad,b,[.str []],[],zaf,O .str,zaf,zac,zad,zad,zaf,zaf⟩)
abbrev tL(t e:zae)(T:Ty):zae×TI:=(t,⟨1,zad,24,[.nilS],[],O e,O (.sl T),zaf,zad,zad,zad,zaf,zaf⟩)
structure TF (P:Program) (L:zah->Prop) where
 f:FuncId
 ids:Z FuncId
 sp:Spec
 sat:Sat P L f sp
 ent:aC P f
def TF.kv{L:zah->Prop}(t:TF P L):(FuncId×Z FuncId)×Spec:=((t.f,t.ids),t.sp)
theorem gL{L:zah->Prop}(t:TF P L){l:Z ((FuncId×Z FuncId)×Spec)}(h:∀p,p∈l->Sat P L p.1.1 p.2/\aC P p.1.1):∀p,p∈t.kv::l->Sat P L p.1.1 p.2/\aC P p.1.1:=dP t.sat t.ent h
def kvs{L:zah->Prop}(l:Z (TF P L)):Z ((FuncId×Z FuncId)×Spec):=l.map TF.kv
theorem F8{L:zah->Prop}:∀(l:Z (TF P L)),∀p,p∈kvs l->Sat P L p.1.1 p.2/\aC P p.1.1
 |[]=>fP
 |t::l=>gL t (F8 l)
def fnB(P:Program)(f:FuncId)(N k:Nat):zai:=match P.funcs[f]? with
 |some fn=>(fn.body.isSome&&!(fn.name == "runtime.NumGoroutine"))&&zaj (fn.ntmps=N)&&zaj (k<=N)&&(bZ (fn.body.getD .skip)).isEmpty
 |none=>zad
theorem xA{P:Program}{f:FuncId}{N k:Nat}(h:fnB P f N k=zac):aC P f/\(funcOf P f).ntmps=N/\k<=N/\(bZ (gX P f)).isEmpty=zac:=by
 unfold fnB at h;split at h
 ·rename_i fn hf;simp only[NJ,NH,Bool.not_eq_true'] at h;have e1:funcOf P f=fn:=by simp[funcOf,hf]
  exact⟨⟨fn,hf,h.1.1.1.1,h.1.1.1.2⟩,by rw[e1];exact h.1.1.2,h.1.2,by unfold gX;rw[e1];exact h.2⟩
 ·cases h
abbrev lu(te:Z (zae×TI))(mp:Nat->zae->W (Cell->W (Cell×zai)))(S:Z ((FuncId×Z FuncId)×Spec))(J:Nat->Nat->W (JH R))(Lp G:Nat->Nat->W (LH R))(N nl:Nat)(fns:Z Fn)(n:Nat):Env R:=⟨J4 te,Bf S,J n,Lp n,G n,n,N,nl,mp,fns⟩
def sL(P:Program)(f:FuncId)(sp:Spec)(E:Env sp.r.T):=(sites E (gX P f) (λ_=>qC E.te (pO P f) sp)).map (Site.lhs E)
def sR(P:Program)(f:FuncId)(sp:Spec)(E:Env sp.r.T):=(sites E (gX P f) (λ_=>qC E.te (pO P f) sp)).map (Site.rhs E)
def EQ(P:Program)(f:FuncId)(sp:Spec)(N:Nat)(E:Env sp.r.T):sp.a.T->W sp.r.T:=λx=>aL E [] (gX P f) (init sp N x) (qC E.te (pO P f) sp)
theorem mK{P:Program}{L:zah->Prop}{te:Z (zae×TI)}(hm:P.follows .mixedOrders=zac)(hte:(te.all λp=>jH P p.1 p.2)=zac){mp:Nat->zae->W (Cell->W (Cell×zai))}(hmp:nk P L mp)(f:FuncId)(sp:Spec)
  (S:Z ((FuncId×Z FuncId)×Spec)) (hS:∀p,p∈S->Sat P L p.1.1 p.2/\aC P p.1.1) (J:Nat->Nat->W (JH sp.r.T)) (Lp G:Nat->Nat->W (LH sp.r.T)) (N:Nat) (fns:Z Fn) (g:Nat->Cur sp.a.all (W sp.r.T)) (B:Cur sp.a.all Nat)
  (h1:(fnB P f N sp.a.slots.length,sp.f)=(zac,λx=>ap sp.a.all (g (ap sp.a.all B x)) x))
  (h2:(λ(n:Nat)=>sL P f sp (lu te mp S J Lp G N sp.a.boxes.length fns n),λn=>EQ P f sp N (lu te mp S J Lp G N sp.a.boxes.length fns n))=(λn=>sR P f sp (lu te mp S J Lp G N sp.a.boxes.length fns n),λn=>ap sp.a.all (g n))):Sat P L f sp:=by
 obtain⟨a1,a2,a3,a4⟩:=xA (zan Prod.fst h1);exact MQ (E:=lu te mp S J Lp G N sp.a.boxes.length fns) hm a1 (λ_=>L9 hte) (λ_=>Hf hS) (λ_=>rfl) (λ_=>hmp) (λ_=>a2.symm) (by rw[a2];exact a3) a4 (g:=λn=>ap sp.a.all (g n)) (ap sp.a.all B) (λn=>congrFun (zan Prod.fst h2) n) (by rw[a2];exact λn=>congrFun (zan Prod.snd h2) n) (λx=>congrFun (zan Prod.snd h1) x)
def MF{P:Program}{L:zah->Prop}(te:Z (zae×TI))(hm:P.follows .mixedOrders=zac)(hte:(te.all λp=>jH P p.1 p.2)=zac)(mp:Nat->zae->W (Cell->W (Cell×zai)))(hmp:nk P L mp)(f:FuncId)(ids:Z FuncId)(sp:Spec)
  (S:Z (TF P L)) (J:Nat->Nat->W (JH sp.r.T)) (Lp G:Nat->Nat->W (LH sp.r.T)) (N:Nat) (fns:Z Fn) (g:Nat->Cur sp.a.all (W sp.r.T)) (B:Cur sp.a.all Nat)
  (h1:(fnB P f N sp.a.slots.length,sp.f)=(zac,λx=>ap sp.a.all (g (ap sp.a.all B x)) x))
  (h2:(λ(n:Nat)=>sL P f sp (lu te mp (kvs S) J Lp G N sp.a.boxes.length fns n),λn=>EQ P f sp N (lu te mp (kvs S) J Lp G N sp.a.boxes.length fns n))=(λn=>sR P f sp (lu te mp (kvs S) J Lp G N sp.a.boxes.length fns n),λn=>ap sp.a.all (g n))):TF P L:=
 ⟨f,ids,sp,mK hm hte hmp f sp (kvs S) (F8 S) J Lp G N fns g B h1 h2,(xA (zan Prod.fst h1)).1⟩
def mkT{P:Program}{L:zah->Prop}(te:Z (zae×TI))(hm:P.follows .mixedOrders=zac)(hte:(te.all λp=>jH P p.1 p.2)=zac)(mp:Nat->zae->W (Cell->W (Cell×zai)))(hmp:nk P L mp)(f:FuncId)(ids:Z FuncId)(sp:Spec)
  (S:Z (TF P L)) (J:Nat->Nat->W (JH sp.r.T)) (Lp G:Nat->Nat->W (LH sp.r.T)) (N:Nat) (fns:Z Fn) (g:Nat->Cur sp.a.all (W sp.r.T)) (B:Cur sp.a.all Nat)
  (h:((fnB P f N sp.a.slots.length,sp.f),(λ(n:Nat)=>sL P f sp (lu te mp (kvs S) J Lp G N sp.a.boxes.length fns n),λn=>EQ P f sp N (lu te mp (kvs S) J Lp G N sp.a.boxes.length fns n)))=((zac,λx=>ap sp.a.all (g (ap sp.a.all B x)) x),(λn=>sR P f sp (lu te mp (kvs S) J Lp G N sp.a.boxes.length fns n),λn=>ap sp.a.all (g n)))):TF P L:=
 MF te hm hte mp hmp f ids sp S J Lp G N fns g B (zan Prod.fst h) (zan Prod.snd h)
theorem lQ{P:Program}{L:zah->Prop}{f:FuncId}{sp:Spec}{F:Nat->Cur sp.a.all (W sp.r.T)}(B:Cur sp.a.all Nat)(h:∀q,Sat P L f (ah sp.a sp.r (F q)))(hsp:∀x,sp.f x=ap sp.a.all (F (ap sp.a.all B x)) x):Sat P L f sp:=
 λx y hy=>h (ap sp.a.all B x) x y (by rw[hsp] at hy;exact hy)
end
end Rv
