/- Texts put together. -/
import Derived.Test.YtfhnodllolpjgaaGreatDoorM3
import Derived.Test.YtfhnodllolpjgaaGreatDoorM2
import Derived.Test.YtfhnodllolpjgaaGreatDoorM1
set_option linter.all false
namespace Rv
open Go
theorem IR{c:UInt8}{r:Str}{d:Nat}{q:Int}{t:Str}{v:Int}(h:iB c r=.ok (d,q,t,v)):0<=v/\v<=4294967295:=by
 unfold iB at h;split at h;·cases h;exact⟨by decide,by decide⟩
 ·split at h
  ·split at h
   ·rename_i v' hv;cases h;have:=NQ hv;exact⟨by omega,by omega⟩
   ·cases h
  ·split at h
   ·cases h;exact⟨by decide,by decide⟩
   ·split at h
    ·cases h;exact⟨by decide,by decide⟩
    ·cases h
theorem su:∀(n:Nat) (k:Int) (s:Str) (l:List Tok),s.length<=n->aH k s=.ok l->wfT l
 |_,k,[],l,_,h=>by rw[kX] at h;cases h;intro t ht;cases ht
 |0,k,c::r,l,hn,_=>by simp at hn
 |n+1,k,c::r,l,hn,h=>by
  simp only[PG] at hn;rw[d9] at h;split at h;·cases h;intro t ht;cases ht
  ·split at h
   ·exact su n (k+1) r l (by omega) h
   ·split at h
    ·cases h
    ·rename_i d q tx v hT;have hv:=IR hT;split at h
     ·cases h
     ·rename_i l' hl;cases h;intro t ht;rcases Py.1 ht with rfl|ht
      ·exact hv
      ·exact su n _ _ l' (by simp;omega) hl t ht
theorem CY(s:Str):wfT (aX [] (aH 0 s)).1:=by
 cases h:aH 0 s with
 |error e=>intro t ht;cases ht
 |ok l=>intro t ht;exact su s.length 0 s l (Px _) h t (by simpa[aX] using ht)
theorem Hy(s:Str)(h:vH (iZ s)=0):∃lb m t,(lb=[]\/az lb=true)/\GoodS m t/\iZ s=smP lb m:=by
 unfold iZ at h⊢;dsimp only at h⊢;by_cases hy:(aX [] (aH 0 s)).2.1≠0;·rw[if_pos hy] at h;exact absurd h hy
 ·rw[if_neg hy] at h⊢;rcases Dk (CY s) with⟨e,he,hp⟩|hp
  ·rw[hp] at h;have h:e=0:=h;omega
  ·exact hp
def wW(x:Ln):Prop:=(x.1=[]\/az x.1=true)/\∃t,GoodS ⟨x.2.1.1,x.2.1.2.1,x.2.1.2.2.1,x.2.1.2.2.2.1,x.2.1.2.2.2.2.1,x.2.1.2.2.2.2.2.1,x.2.1.2.2.2.2.2.2.1,x.2.1.2.2.2.2.2.2.2.1⟩ t
theorem pU:∀(l:List Str) (i:Nat) (r:List Ln),bB i l=.ok r->∀x∈r,wW x
 |[],i,r,h=>by rw[bB] at h;cases h;intro x hx;cases hx
 |s::l,i,r,h=>by
  rw[bB] at h;split at h;·cases h
  ·rename_i he;have he:vH (iZ s)=0:=by simpa using he
   cases hr:bB (i+1) l with
   |error x=>rw[hr] at h;cases h
   |ok q=>
    rw[hr] at h;cases h;intro x hx;rcases Py.1 hx with rfl|hx;·obtain⟨lb,m,t,h1,h2,h3⟩:=Hy s he;rw[h3];exact⟨h1,t,h2⟩
    ·exact pU l (i+1) q hr x hx
end Rv
namespace Rv
open Go
section
variable{l l':List ai}(hl:l.length=l'.length)(hb:∀p,bare (l.getD p aL)=bare (l'.getD p aL))
end
theorem zn:∀(u v:Str),10 ∉ u->bV (u++10::v)=u::bV v
 |[],v,_=>by rw[Qg,bV,if_pos rfl]
 |b::u,v,h=>by
  have h1:b≠10:=fun e=>h (by rw[e];exact Qc ..)
  rw[List.cons_append,bV,if_neg h1,zn u v (fun g=>h (PE _ g))]
end Rv
namespace Rv
open Go
def ig(s:Str):Prop:=10 ∉ s
theorem iH{a b:Str}(ha:ig a)(hb:ig b):ig (a++b):=fun h=>(PL.1 h).elim ha hb
theorem vR{s:Str}{p:UInt8->Bool}(h:s.all p=true)(hp:p 10=false):ig s:=fun g=>by
 have:=PT.1 h 10 g;rw[hp] at this;cases this
theorem lH{s:Str}(h:kU s=true):ig s:=by
 unfold kU at h;rw[Ps] at h;exact vR h.1 (by decide)
theorem qo{s:Str}(h:az s=true):ig s:=by
 unfold az at h;simp only[Ps] at h;exact vR h.1.2 (by decide)
theorem bC{c:UInt8}{s:Str}(hc:c≠10)(hs:ig s):ig (c::s):=fun h=>(Py.1 h).elim (fun e=>hc e.symm) hs
theorem jq:ig []:=fun h=>by cases h
theorem vS{b:Bool}{s:Str}(h:ig s):ig (brkT b s):=by
 unfold brkT;split;·exact bC (by decide) (iH h (bC (by decide) jq))
 ·exact h
theorem Hq{n:Int}(h:0<=n):ig (Lib.itoa n):=by
 obtain⟨m,rfl⟩:∃m:Nat,n=m:=⟨n.toNat,by omega⟩
 have hi:Lib.itoa (m:Int)=Lib.decDigits m:=by unfold Lib.itoa;rw[if_neg (by omega)];rfl
 rw[hi];exact vR (uk m).1 (by decide)
theorem kz:∀x:Tr,x.ok->ig x.txt
 | .num n,h=>Hq h.1
 | .nam s,h=>qo h
 | .neg x,h=>bC (by decide) (vS (kz x h))
 | .bin o a b,h=>iH (vS (kz a h.1)) (iH (bC (by decide) (bC (by cases o<;>decide) (bC (by decide) jq))) (vS (kz b h.2)))
 | .br x,h=>bC (by decide) (iH (kz x h) (bC (by decide) jq))
theorem MQ{s:Sm}{t:Option Tr}{d:Od}(h:mO s t d):ig (wtx s t d):=by
 cases d with
 |A=>exact lH (kD h)
 |B=>exact lH (kD h)
 |C=>exact lH (kD h)
 |N=>exact qo (lG h)
 |E=>obtain⟨x,rfl,hx,_⟩:=h;exact kz x hx.1
 |Q=>obtain⟨x,rfl,hx,_⟩:=h;exact bC (by decide) (bC (by decide) (kz x hx.1))
theorem Hr:∀(l:List Str),(∀x∈l,ig x)->ig (L.sjoinR [44,32] l)
 |[],_=>jq
 |x::r,h=>by
  refine iH (h x (Qc ..)) fun g=>?_
  obtain⟨y,hy,hg⟩:=List.mem_flatten.1 g;obtain⟨z,hz,rfl⟩:=PQ.1 hy;exact iH (a:=[44,32]) (bC (by decide) (bC (by decide) jq)) (h z (PE _ hz)) hg
theorem BF{s:Sm}{t:Option Tr}(h:GoodS s t):ig (stx s t):=by
 unfold stx;split;·exact jq
 ·rename_i h0;have hm:=lH (zw (rU h h0));refine iH ?_ (bC (by decide) (Hr _ fun x hx=>?_))
  ·unfold mtx;split
   ·exact bC (by decide) hm
   ·exact hm
  ·obtain⟨d,hd,rfl⟩:=PQ.1 hx;exact MQ (kg h d hd)
theorem Km{s:Sm}{t:Option Tr}(h:GoodS s t){lb:Str}(hlb:lb=[]\/az lb=true):ig (ltx lb s t):=by
 unfold ltx;split;·exact BF h
 ·rename_i hne;refine iH (qo (hlb.resolve_left hne)) (bC (by decide) ?_);split
  ·exact jq
  ·exact bC (by decide) (BF h)
structure GLn where
 lb:Str
 s:Sm
 t:Option Tr
 hl:lb=[]\/az lb=true
 hg:GoodS s t
abbrev lnS(lb:Str)(s:Sm):Ln:=(lb,(s.k,s.o,s.a,s.b,s.c,s.u,s.e,s.nm,()),())
abbrev GLn.ln(x:GLn):Ln:=lnS x.lb x.s
abbrev GLn.tx(x:GLn):Str:=ltx x.lb x.s x.t
theorem Ky(x:GLn):(gN x.t->iZ x.tx=smP x.lb x.s)/\(¬gN x.t->iZ x.tx=noP 24):=by
 obtain⟨ts,hb,hn,hs,g1,g2⟩:=IM x.hg x.hl;have hlen:=ym x.hg x.hl;have h1:=ut (ltx x.lb x.s x.t) (by omega);rw[hs] at h1;have h1:=(Pp h1).symm;have h2:=zy (ltx x.lb x.s x.t) (by omega);have e:iZ x.tx=jf ts:=by
  unfold iZ;show(if(aX [] (aH 0 (ltx x.lb x.s x.t))).2.1≠0 then _ else _)=_;rw[h1];rfl
 rw[h1] at h2;exact⟨fun h=>by have:=g1 h;rw[h2] at this;rw[e,Pp this],fun h=>by have:=g2 h;rw[h2] at this;rw[e,Pp this]⟩
def txL(l:List GLn):Str:=(l.map fun x=>x.tx++[10]).flatten
theorem zq:∀(l:List GLn),bV (txL l)=l.map GLn.tx
 |[]=>rfl
 |x::l=>by
  have e:txL (x::l)=x.tx++10::txL l:=by show(x.tx++[10])++txL l=_;simp
  rw[e,zn _ _ (Km x.hg x.hl),zq l];rfl
theorem yS:∀(l:List GLn) (i:Nat),bB i (l.map GLn.tx)=.ok (l.map GLn.ln)\/∃k,∃h:k<l.length,bB i (l.map GLn.tx)=.error (i+k+1,24)/\¬gN l[k].t
 |[],_=>.inl rfl
 |x::l,i=>by
  obtain⟨g1,g2⟩:=Ky x;rw[PK,bB];by_cases hd:gN x.t
  ·rw[g1 hd,if_neg (show ¬vH (smP x.lb x.s)≠0 from fun h=>h rfl)];rcases yS l (i+1) with h|⟨k,hk,h,h2⟩
   ·rw[h];exact .inl rfl
   ·rw[h];exact .inr ⟨k+1,by simp;omega,by rw[show i+1+k+1=i+(k+1)+1 by omega],by simpa using h2⟩
  ·rw[g2 hd,if_pos (show vH (noP 24)≠0 by decide)];exact .inr ⟨0,by simp,rfl,hd⟩
theorem Ey:∀(l:List GLn),(txL l).length<=5001*l.length
 |[]=>Px _
 |x::l=>by
  have h1:=ym x.hg x.hl;have h2:=Ey l;have e:txL (x::l)=(x.tx++[10])++txL l:=rfl;rw[e,Pt,Pt,List.length_singleton,PG];have:x.tx.length<=5000:=h1;omega
theorem K4:∀(l:List Str),L.sjoinR [10] (l++[[]])=(l.map (·++[10])).flatten
 |[]=>rfl
 |x::l=>by
  have ih:∀m:List Str,((m++[[]]).map (([10]:Str)++·)).flatten=[10]++(m.map (·++[10])).flatten:=by
   intro m
   induction m with
   |nil=>rfl
   |cons y m ih=>rw[List.cons_append,PK,List.flatten_cons,ih,PK,List.flatten_cons];simp
  show x++((l++[[]]).map (([10]:Str)++·)).flatten=(x++[10])++(l.map (·++[10])).flatten;rw[ih];simp
theorem Dm(l:List GLn)(hl:l.length<=4096)(n:Nat):∀(m i:Nat) (out:List Str),i<=l.length->l.length-i<m->out.length=i ->
  Zce.l5 n m out (l.map GLn.ln) ((l.map GLn.ln).length:Int) (i:Int)=some (out++(l.drop i).map GLn.tx,0,0,()):=by
 intro m
 induction m with
 |zero=>intro i out _ h;omega
 |succ m ih=>
  intro i out hi hm ho;rw[Zce.l5];simp only[dt,PN,PU];by_cases h:i<l.length
  ·have hd:l.drop i=l[i]::l.drop (i+1):=P5 h;have hg:(l.map GLn.ln).getD i zL=(l[i]).ln:=by
    rw[PM,Ql,PI h];rfl
   have W1:IntKind.i64.wrap ((i:Int)+1)=((i+1:Nat):Int):=by rw[w64 (by omega)];omega
   rw[if_pos (by omega),if_pos (by omega),hg,hd];generalize l[i]=x;have hp:Zac.g x.lb x.s.k x.s.o x.s.a x.s.b x.s.c x.s.u x.s.e x.s.nm=some (x.tx,0,()):=FK x.hg x.hl;have hp1:Zdl.g x.lb x.s.k x.s.o x.s.a x.s.b x.s.c x.s.u x.s.e x.s.nm=some (x.tx,0,()):=by
    unfold Zdl.g Zdl.f;rw[hp,Pn]
   rw[hp1,Pn];dsimp only;rw[if_neg (show ¬(0:Int)≠0 by decide),if_pos (by simp;omega),W1];have:=ih (i+1) (out++[x.tx]) (by omega) (by omega) (by simp[ho]);rw[PU] at this;rw[this,PK,Pz];rfl
  ·rw[if_neg (by omega),List.drop_eq_nil_of_le (by omega)];simp
theorem yG(l:List GLn)(hl:l.length<=4096):Zcz.g (l.map GLn.ln)=some (txL l,0,0,()):=by
 unfold Zcz.g Zcz.f Zce.g Zce.f;rw[if_neg (by simp;omega)];have:=Dm l hl (1000+(l.map GLn.ln).length) (1000+(l.map GLn.ln).length) 0 [] (by omega) (by rw[PU];omega) rfl;rw[show((0:Nat):Int)=0 from rfl,PZ,Qg] at this;rw[this,Pn];dsimp only;have hj:L.sjoinR [10] (l.map GLn.tx++[[]])=txL l:=by
  rw[K4,List.map_map];rfl
 have hlen:=Ey l;have hm:5001*l.length<=5001*4096:=Nat.mul_le_mul_left _ hl;rw[if_neg (show ¬decide ((0:Int)≠0)=true by decide),if_pos (by simp;omega)];unfold L.sjoinO;rw[hj,if_pos ⟨by omega,by simp;omega⟩,Pn]
end Rv
namespace Rv
open Go
theorem HY(l:List ai)(p:Nat):(dC l p).1.length<=l.length:=by
 unfold dC;have hg:=jZ (dG l 9) p;cases hr:xS l (pF l 9) p with
 |error e=>exact Nat.zero_le _
 |ok r=>
  rw[hr] at hg;have h1:=hg.len;have h2:=hg.le;dsimp only;split;·exact Nat.zero_le _
  ·dsimp only;omega
theorem Ie{l:List ai}{p:Nat}{e:Int}{s:Sm}(h:s.e.length<=l.length):(rdE l p e s).2.2.e.length<=l.length:=by
 unfold rdE;split;·exact HY l p
 ·exact h
theorem OO{l:List ai}{p:Nat}{e:Int}{s:Sm}(h:s.e.length<=l.length)(d:Od):(rd l p e s d).2.2.e.length<=l.length:=by
 cases d with
 |E=>exact Ie h
 |Q=>exact Ie h
 |_=>exact h
theorem K6{l:List ai}{op:Int}{many i p:Nat}{e:Int}{s:Sm}(h:s.e.length<=l.length):(aI l op many i p e s).2.2.e.length<=l.length:=by
 unfold aI;dsimp only;generalize hs1:(if i+1=many then _ else s:Sm)=s1;have h1:s1.e.length<=l.length:=by
  rw[<- hs1];split<;>exact h
 split;·exact OO h1 _
 ·exact h1
theorem DZ{l:List ai}{op:Int}{many:Nat}:∀(m i:Nat) (r:Nat×Int×Sm),r.2.2.e.length<=l.length->(aM l op many m i r).2.2.e.length<=l.length
 |0,_,_,h=>h
 |m+1,i,r,h=>DZ m (i+1) _ (K6 h)
theorem Hz{n:Nat}{lb:Str}{e:Int}{s:Sm}(h:s.e.length<=n):(nW lb e s).2.2.2.2.2.2.2.1.length<=n:=by
 unfold nW;split;·exact Nat.zero_le _
 ·exact h
theorem Mv{l:List ai}{lb:Str}{p:Nat}{e:Int}:(gH l lb p e).2.2.2.2.2.2.2.1.length<=l.length:=by
 unfold gH;split;·exact Hz (DZ _ _ _ (Nat.zero_le _))
 ·exact Hz (Nat.zero_le _)
theorem NT(s:Str):(iZ s).2.2.2.2.2.2.2.1.length<=s.length:=by
 unfold iZ;dsimp only;split;·exact Nat.zero_le _
 ·refine PW ?_ (nU (k:=0) (s:=s));unfold jf;split<;>exact Mv
abbrev eN(x:Ln):Nat:=x.2.1.2.2.2.2.2.2.1.length
theorem Bb:∀(l:List Str) (i:Nat) (r:List Ln),bB i l=.ok r->(r.map eN).sum<=(l.map List.length).sum
 |[],i,r,h=>by rw[bB] at h;cases h;exact Px _
 |s::l,i,r,h=>by
  rw[bB] at h;split at h;·cases h
  ·cases hr:bB (i+1) l with
   |error x=>rw[hr] at h;cases h
   |ok q=>
    rw[hr] at h;cases h;have h1:=Bb l (i+1) q hr;have h2:=NT s;rw[PK,List.sum_cons,PK,List.sum_cons];exact Nat.add_le_add h2 h1
theorem zo:∀s:Str,((bV s).map List.length).sum<=s.length
 |[]=>Px _
 |b::s=>by
  have h1:=zo s;rw[bV];split;·simp;omega
  ·split
   ·simp
   ·rename_i x r hx;rw[hx] at h1;simp at h1⊢;omega
theorem Om{s:Sm}{t:Option Tr}{d:Od}(h:mO s t d):(wtx s t d).length<=20+20*s.e.length:=by
 have r:∀a:Int,(rn a).length<=20+20*s.e.length:=fun a=>PW (wm _) (by omega)
 have e:(∃x,t=some x/\jK x/\s.e=x.post)->(et t).length<=20*s.e.length:=by
  rintro⟨x,rfl,hx,he⟩;have:=gu x hx.1 hx.2.1;rw[he];exact this
 cases d with
 |A=>exact r _
 |B=>exact r _
 |C=>exact r _
 |E=>exact PW (e h) (by omega)
 |Q=>have:=e h;show(61::32::et t).length<=_;simp;omega
 |N=>
  have h:dB s.nm=true:=h;unfold dB at h;simp only[Ps,Pw] at h;have:=h.1.1.1.2;show s.nm.length<=_;omega
theorem NM(x:GLn):x.tx.length+1<=100+60*x.s.e.length:=by
 have h1:(stx x.s x.t).length<=80+60*x.s.e.length:=by
  unfold stx;split;·exact Nat.zero_le _
  ·have:=tJ [44,32] (20+20*x.s.e.length) ((odL x.s.k x.s.o).map (wtx x.s x.t)) (fun y hy=>by
    obtain⟨d,hd,rfl⟩:=PQ.1 hy;exact Om (kg x.hg d hd))
   rw[PU] at this;have h2:(20+20*x.s.e.length+([44,32]:Str).length)*(odL x.s.k x.s.o).length<=(20+20*x.s.e.length+2)*3:=Nat.mul_le_mul (Px _) (uy _ _);have h3:(mtx x.s).length<=7:=by
    unfold mtx;have:=mI (hk x.s.k) x.s.o x.s.u;rw[Pt];split<;>simp<;>omega
   rw[Pt,PG];omega
 have hll:x.lb.length<=12:=by
  rcases x.hl with h|hlb;·rw[h];exact Nat.zero_le _
  ·unfold az at hlb;simp only[Ps,Pw] at hlb;exact hlb.1.1.1.2
 show(ltx x.lb x.s x.t).length+1<=_;unfold ltx;split;·omega
 ·rw[Pt,PG];split
  ·simp;omega
  ·rw[PG];omega
theorem IU:∀(l:List GLn),(txL l).length<=100*l.length+60*((l.map GLn.ln).map eN).sum
 |[]=>Px _
 |x::l=>by
  have h1:=NM x;have h2:=IU l;have e:(txL (x::l)).length=x.tx.length+1+(txL l).length:=by
   show((x.tx++[10])++txL l).length=_;simp;omega
  rw[e,PK,PK,List.sum_cons,PG];have:eN x.ln=x.s.e.length:=rfl;omega
theorem ND:∀l:List Ln,(∀x∈l,wW x)->∃r:List GLn,r.map GLn.ln=l
 |[],_=>⟨[],rfl⟩
 |x::l,h=>by
  obtain⟨r,hr⟩:=ND l fun y hy=>h y (PE _ hy)
  obtain⟨h1,t,h2⟩:=h x (Qc ..);exact⟨⟨x.1,_,t,h1,h2⟩::r,by rw[PK,hr]⟩
theorem again(s:Str)(hs:s.length<=500)(he:(cO s).2.2.1=0):∃r:List GLn,(cO s).1=r.map GLn.ln/\r.length<=500/\(txL r).length<=100000 /\
  (cO (txL r)=(r.map GLn.ln,0,0,())\/∃k,cO (txL r)=([],k,24,())):=by
 rw[sM (by omega)] at he⊢;have hl:=(mG s).1;cases h:bB 0 (bV s) with
 |error e=>rw[h] at he;exact absurd he (Ba _ _ _ h).1
 |ok l=>
  have h1:=vG _ _ _ h;have h2:=Bb _ _ _ h;have h3:=zo s;obtain⟨r,hr⟩:=ND l (pU _ _ _ h);have hrl:r.length=l.length:=by rw[<- hr,PU]
  have hb:=IU r;rw[hr] at hb;have hb:(txL r).length<=100000:=by omega
  refine⟨r,by rw[hr];rfl,by omega,hb,?_⟩;unfold cO;rw[if_neg (by omega),zq,PU,if_neg (by omega)];rcases yS r 0 with g|⟨k,hk,g,_⟩;·rw[g];exact .inl (by simp[sK])
  ·rw[g];exact .inr ⟨_,rfl⟩
end Rv
namespace Rv
open Go
abbrev Sym:=Str×Int×Unit
def dI(s:Str):List Sym->Option Int
 |[]=>none
 |x::r=>if x.1=s then some x.2.1 else dI s r
def lC(s:Str):List Sym->Option Nat
 |[]=>none
 |x::r=>if x.1=s then some 0 else(lC s r).map (·+1)
theorem Fa(l:List Sym)(s:Str)(hl:l.length<=4611686018427387904)(n:Nat):∀(m i:Nat),i<=l.length->l.length-i<m ->
  Zbt.l2 n m l (l.length:Int) (i:Int) s=some ((match lC s (l.drop i) with|some k=>((i+k:Nat):Int)|none=>-1),s,()):=by
 intro m
 induction m with
 |zero=>intro i _ h;omega
 |succ m ih=>
  intro i hi hm;by_cases h1:i<l.length
  ·have hx:l.drop i=l.getD i (([]:Str),((0:Int),()))::l.drop (i+1):=by
    rw[P5 h1,PM,PI h1];rfl
   rw[hx];simp only[Zbt.l2,dt,Zds.g,Zds.f,Pn];rw[if_pos (by omega),if_pos (by omega),PN];generalize l.getD i (([]:Str),((0:Int),()))=x;unfold lC;by_cases h2:x.1=s;·rw[if_pos h2,if_pos h2];simp
   ·rw[if_neg h2,if_neg h2,w64 (by omega),show(i:Int)+1=((i+1:Nat):Int) by omega,ih (i+1) (by omega) (by omega)];cases lC s (l.drop (i+1)) with
    |none=>rfl
    |some k=>simp only[Qh];rw[show i+1+k=i+(k+1) by omega]
  ·have hi':i=l.length:=by omega
   subst hi';simp only[Zbt.l2,dt];rw[if_neg (by omega),Qe];rfl
theorem wU(s:Str):∀{l:List Sym}{k:Nat},lC s l=some k->k<l.length/\dI s l=some (l.getD k (([]:Str),((0:Int),()))).2.1
 |[],_,h=>by cases h
 |x::r,k,h=>by
  unfold lC at h;unfold dI;by_cases h2:x.1=s;·rw[if_pos h2] at h⊢;cases h;exact⟨by simp,rfl⟩
  ·rw[if_neg h2] at h⊢;obtain⟨j,hj,rfl⟩:=Option.map_eq_some_iff.1 h;obtain⟨h3,h4⟩:=wU s hj;exact⟨by simp;omega,by rw[h4];rfl⟩
theorem wT(s:Str):∀{l:List Sym},lC s l=none->dI s l=none
 |[],_=>rfl
 |x::r,h=>by
  unfold lC at h;unfold dI;by_cases h2:x.1=s;·rw[if_pos h2] at h;cases h
  ·rw[if_neg h2] at h⊢;exact wT s (Option.map_eq_none_iff.1 h)
theorem xZ(l:List Sym)(s:Str)(hl:l.length<=4611686018427387904):Zbu.g l s=some ((dI s l).getD 0,(dI s l).isSome,()):=by
 unfold Zbu.g Zbu.f Zbt.g Zbt.f;rw[show(0:Int)=((0:Nat):Int) from rfl,Fa l s hl _ _ 0 (by omega) (by omega),Pn,PZ];dsimp only;cases h:lC s l with
 |none=>
  rw[wT s h];rfl
 |some k=>
  obtain⟨h1,h2⟩:=wU s h;rw[h2];simp only[dt];rw[if_neg (by omega),if_pos (by omega)];simp
end Rv
namespace Rv
open Go
abbrev Val:=Int×Int×Unit
theorem xn(l:List Val)(v:Val)(hl:l.length<=4611686018427387904):Zbg.g (l++[v])=some (v.1,v.2.1,l,()):=by
 unfold Zbg.g Zbg.f;have e1:IntKind.i64.wrap (((l++[v]).length:Int)-1)=(l.length:Int):=by
  rw[w64 (by simp;omega)];simp
 have e2:(l++[v]).getD l.length ((0:Int),((0:Int),()))=v:=by
  rw[PM,List.getElem?_append_right (Px _)];simp
 rw[e1,PN,if_pos (by simp;omega),if_pos (by simp;omega),e2,List.take_left]
def nK(labels:List Sym)(st:List Val)(x:Item):Except Int (List Val):=
 if x.1=2 then match dI x.2.2.1 labels with
  |some a=>.ok (st++[(IntKind.u32.wrap a,1,())])
  |none=>.error 25
 else if x.1=3 then match st.getLast? with
  |some v=>.ok (st.dropLast++[(IntKind.u32.wrap (0-v.1),IntKind.i64.wrap (0-v.2.1),())])
  |none=>.error 99
 else if x.1=4\/x.1=5\/x.1=6 then match st.getLast?,st.dropLast.getLast? with
  |some b,some a=>
   if x.1=4 then .ok (st.dropLast.dropLast++[(IntKind.u32.wrap (a.1+b.1),IntKind.i64.wrap (a.2.1+b.2.1),())])
   else if x.1=5 then .ok (st.dropLast.dropLast++[(IntKind.u32.wrap (a.1-b.1),IntKind.i64.wrap (a.2.1-b.2.1),())])
   else if a.2.1=0/\b.2.1=0 then .ok (st.dropLast.dropLast++[(IntKind.u32.wrap (a.1*b.1),0,())])
   else .error 27
  |_,_=>.error 99
 else .ok (st++[(x.2.1,0,())])
def kF(labels:List Sym):List Val->List Item->Except Int (List Val)
 |st,[]=>.ok st
 |st,x::r=>match nK labels st x with
  | .ok st=>kF labels st r
  | .error e=>.error e
theorem zW(a b:Int):Zcs.g a b (-1)=some (IntKind.u32.wrap (0-a),IntKind.i64.wrap (0-b),()):=by
 unfold Zcs.g Zcs.f;have e1:IntKind.u32.wrap (-1)=4294967295:=by rw[IntKind.wrap_u32];rfl
 have e2:IntKind.u32.wrap (4294967295*a)=IntKind.u32.wrap (0-a):=by rw[IntKind.wrap_u32,IntKind.wrap_u32];omega
 rw[e1,e2,show -1*b=0-b by omega]
theorem Oi(a b c d:Int):Zdt.g a b c d=some (IntKind.u32.wrap (a+c),IntKind.i64.wrap (b+d),()):=rfl
theorem CU(a b:Int):IntKind.i64.wrap (a+IntKind.i64.wrap (0-b))=IntKind.i64.wrap (a-b):=by
 rw[IntKind.wrap_i64,IntKind.wrap_i64,IntKind.wrap_i64];omega
theorem Du(a b:Int):IntKind.u32.wrap (a+IntKind.u32.wrap (0-b))=IntKind.u32.wrap (a-b):=by
 rw[IntKind.wrap_u32,IntKind.wrap_u32,IntKind.wrap_u32];omega
end Rv
namespace Rv
open Go
def Aw(st:List Val):Option (Int×Int×Int×Unit):=
 match st.getLast? with
 |some v=>some (v.1,v.2.1,0,())
 |none=>none
theorem MX(labels:List Sym)(e:List Item)(n:Nat)(rl)(t:Int)(i:Nat)(hi:i<=1000)(b0 b1:Int)(st:List Val)(hst:st.length<=1000)(v0 v1:Int) :
  Zah.j27 n rl labels e t (i:Int) b0 b1 st v0 v1=rl labels e t ((i+1:Nat):Int) b0 b1 (st++[(v0,v1,())]):=by
 unfold Zah.j27;rw[if_pos (by simp;omega),w64 (by omega)];rfl
theorem kT(st:List Val):st=[]\/∃l v,st=l++[v]:=by
 rcases List.eq_nil_or_concat st with h|⟨l,v,h⟩;·exact .inl h
 ·exact .inr ⟨l,v,by rw[h,List.concat_eq_append]⟩
theorem dJ(l:List Val)(v:Val):(l++[v]).getLast?=some v/\(l++[v]).dropLast=l:=by simp
theorem MW(labels:List Sym)(hlab:labels.length<=4611686018427387904)(e:List Item)(he:e.length<=999)(n:Nat):∀(m i:Nat) (st:List Val) (b0 b1:Int),i<=e.length->e.length-i<m->iX (st.length:Int) (e.drop i)=true->st.length<=i ->
  Zah.l5 n m labels e (e.length:Int) (i:Int) b0 b1 st=match kF labels st (e.drop i) with
   | .error x=>some (0,0,x,())
   | .ok st'=>Aw st':=by
 intro m
 induction m with
 |zero=>intro i st b0 b1 _ h;omega
 |succ m ih=>
  intro i st b0 b1 hi hm hw hst;by_cases h1:i<e.length
  ·have hx:e.drop i=e.getD i ((0:Int),((0:Int),(([]:Str),())))::e.drop (i+1):=by
    rw[P5 h1,PM,PI h1];rfl
   rw[hx] at hw⊢;simp only[Zah.l5,dt,df];rw[if_pos (by omega),if_pos (by omega),PN];generalize e.getD i ((0:Int),((0:Int),(([]:Str),())))=x at hw⊢;obtain⟨a,b,c,u⟩:=x;cases u;simp only[iX,Ps,Bool.not_eq_true',decide_eq_false_iff_not] at hw;obtain⟨hk,hlt,hw⟩:=hw;have next:∀(s:List Val) (v0 v1:Int),s.length+1<=i+1->iX ((s.length+1:Nat):Int) (e.drop (i+1))=true ->
     Zah.j27 n (Zah.l5 n m) labels e (e.length:Int) (i:Int) b0 b1 s v0 v1=match kF labels (s++[(v0,v1,())]) (e.drop (i+1)) with
      | .error x=>some (0,0,x,())
      | .ok st'=>Aw st':=fun s v0 v1 hs hws=>by
    rw[MX labels e n _ _ i (by omega) b0 b1 s (by omega) v0 v1];exact ih (i+1) _ b0 b1 (by omega) (by omega) (by simpa using hws) (by simpa using hs)
   simp only[kF,nK];by_cases k2:a=2
   ·subst k2;rw[if_pos rfl,if_pos rfl,xZ labels c hlab,Pn];have e0:(aC (2,b,c,())).1=0:=rfl;rw[e0] at hw;cases hf:dI c labels with
    |none=>rfl
    |some at_=>
     dsimp only[Option.isSome,Option.getD];rw[if_neg (by simp)];exact next st _ 1 (by omega) (by simpa using hw)
   ·rw[if_neg k2,if_neg k2];by_cases k3:a=3
    ·subst k3;have e0:(aC (3,b,c,())).1=1:=rfl;rw[e0] at hlt hw;rcases kT st with rfl|⟨l,v,rfl⟩
     ·simp at hlt
     ·obtain⟨g1,g2⟩:=dJ l v;rw[if_pos rfl,if_pos rfl,g1,g2,xn l v (by simp at hst;omega),Pn];dsimp only;rw[zW,Pn];exact next l _ _ (by simp at hst;omega) (by simpa using hw)
    ·rw[if_neg k3,if_neg k3];by_cases k4:a=4\/a=5\/a=6
     ·have e0:(aC (a,b,c,())).1=2:=by
       unfold aC;rcases k4 with rfl|rfl|rfl<;>rfl
      rw[e0] at hlt hw;rcases kT st with rfl|⟨l0,v,rfl⟩;·simp at hlt
      ·rcases kT l0 with rfl|⟨l,w,rfl⟩
       ·simp at hlt
       ·obtain⟨g1,g2⟩:=dJ (l++[w]) v;obtain⟨g3,g4⟩:=dJ l w;have hl:l.length<=1000:=by simp at hst;omega
        have hn:=next l
        rw[if_pos k4,g1,g2,g3,g4,xn (l++[w]) v (by simp;omega),Pn];dsimp only;have hp2:=xn l w (by omega);simp only[hp2,Pn,Oi,zW,Du,CU];have hs1:l.length+1<=i+1:=by simp at hst;omega
        have hw1:iX ((l.length+1:Nat):Int) (e.drop (i+1))=true:=by
         have:((l++[w]++[v]).length:Int)+(1-2)=((l.length+1:Nat):Int):=by simp;omega
         rw[<- this];exact hw
        rcases k4 with rfl|rfl|rfl;·rw[if_pos rfl,if_pos rfl,Int.add_comm v.1 w.1,Int.add_comm v.2.1 w.2.1];exact next l _ _ hs1 hw1
        ·rw[if_neg (show ¬(5:Int)=4 by decide),if_neg (show ¬(5:Int)=4 by decide),if_pos rfl,if_pos rfl];exact next l _ _ hs1 hw1
        ·rw[if_neg (show ¬(6:Int)=4 by decide),if_neg (show ¬(6:Int)=4 by decide),if_neg (show ¬(6:Int)=5 by decide),if_neg (show ¬(6:Int)=5 by decide),if_pos rfl];by_cases z1:v.2.1=0
         ·by_cases z2:w.2.1=0
          ·rw[if_pos (show w.2.1=0/\v.2.1=0 from⟨z2,z1⟩)];simp only[z1,z2,decide_true,Bool.and_self,Bool.not_true,if_true];rw[if_neg (by decide),Int.mul_comm v.1 w.1];exact next l _ _ hs1 hw1
          ·rw[if_neg (show ¬(w.2.1=0/\v.2.1=0) from fun h=>z2 h.1)];simp[z1,z2]
         ·rw[if_neg (show ¬(w.2.1=0/\v.2.1=0) from fun h=>z1 h.2)];simp[z1]
     ·have ha:a=1:=by
       apply Classical.byContradiction;intro h1';have:(aC (a,b,c,())).2=false:=by
        unfold aC;simp[h1',k2,k3,k4]
       rw[this] at hk;cases hk
      subst ha;have e0:(aC (1,b,c,())).1=0:=rfl;rw[e0] at hw;rw[if_neg k4,if_neg (show ¬(1:Int)=4 by decide),if_neg (show ¬(1:Int)=5 by decide),if_neg (show ¬(1:Int)=6 by decide)];exact next st b 0 (by omega) (by simpa using hw)
  ·have hi':i=e.length:=by omega
   subst hi';simp only[Zah.l5,dt];rw[if_neg (by omega),Qe];simp only[kF];rw[Qe] at hw;rcases kT st with rfl|⟨l,v,rfl⟩;·simp[iX] at hw
   ·rw[xn l v (by simp at hst;omega),Pn];simp[Aw]
def ofR(labels:List Sym)(e:List Item):Option (Int×Int×Int×Unit):=
 if well e=true then(match kF labels [] e with
  | .error x=>some (0,0,x,())
  | .ok st=>Aw st)
 else some (0,0,23,())
theorem FB(labels:List Sym)(hlab:labels.length<=4611686018427387904)(e:List Item)(he:e.length<=4611686018427387904):Zah.g e labels=ofR labels e:=by
 unfold Zah.g Zah.f ofR;rw[yJ e he,Pn];dsimp only;by_cases hw:well e=true;·rw[hw,if_neg (by decide),if_pos rfl];unfold well at hw;rw[Ps,Pw] at hw;exact MW labels hlab e (by omega) _ _ 0 [] 0 0 (by omega) (by omega) (by simpa using hw.1) (by simp)
 ·have hw':well e=false:=by simpa using hw
  rw[hw'];rfl
end Rv
namespace Rv
open Go
theorem K7(labels:List Sym)(x:Item)(st st':List Val)(hk:(aC x).2=true)(hl:¬(st.length:Int)<(aC x).1)(h:nK labels st x=.ok st'):(st'.length:Int)=st.length+(1-(aC x).1):=by
 obtain⟨a,b,c,u⟩:=x;cases u;unfold nK at h;dsimp only at h;by_cases k2:a=2
 ·subst k2;rw[if_pos rfl] at h;have e0:(aC (2,b,c,())).1=0:=rfl;rw[e0];split at h
  ·cases h;simp
  ·cases h
 ·rw[if_neg k2] at h;by_cases k3:a=3
  ·subst k3;have e0:(aC (3,b,c,())).1=1:=rfl;rw[e0] at hl⊢;rcases kT st with rfl|⟨l,v,rfl⟩
   ·simp at hl
   ·rw[if_pos rfl,(dJ l v).1,(dJ l v).2] at h;cases h;simp
  ·rw[if_neg k3] at h;by_cases k4:a=4\/a=5\/a=6
   ·have e0:(aC (a,b,c,())).1=2:=by
     unfold aC;rcases k4 with rfl|rfl|rfl<;>rfl
    rw[e0] at hl⊢;rcases kT st with rfl|⟨l0,v,rfl⟩;·simp at hl
    ·rcases kT l0 with rfl|⟨l,w,rfl⟩
     ·simp at hl
     ·rw[if_pos k4,(dJ _ v).1,(dJ _ v).2,(dJ l w).1,(dJ l w).2] at h;dsimp only at h;split at h
      ·cases h;simp;omega
      ·split at h
       ·cases h;simp;omega
       ·split at h
        ·cases h;simp;omega
        ·cases h
   ·rw[if_neg k4] at h;have ha:a=1:=by
     apply Classical.byContradiction;intro h1';have:(aC (a,b,c,())).2=false:=by
      unfold aC;simp[h1',k2,k3,k4]
     rw[this] at hk;cases hk
    subst ha;have e0:(aC (1,b,c,())).1=0:=rfl;rw[e0];cases h;simp
def onE(f:List Val->List Val):Except Int (List Val)->Except Int (List Val)
 | .ok l=>.ok (f l)
 | .error e=>.error e
theorem IJ(labels:List Sym)(x:Item)(base st:List Val)(hl:¬(st.length:Int)<(aC x).1):nK labels (base++st) x=onE (base++·) (nK labels st x):=by
 obtain⟨a,b,c,u⟩:=x;cases u;unfold nK;dsimp only;by_cases k2:a=2
 ·subst k2;rw[if_pos rfl,if_pos rfl];cases dI c labels with
  |none=>rfl
  |some y=>simp[onE]
 ·rw[if_neg k2,if_neg k2];by_cases k3:a=3
  ·subst k3;have e0:(aC (3,b,c,())).1=1:=rfl;rw[e0] at hl;rcases kT st with rfl|⟨l,v,rfl⟩
   ·simp at hl
   ·rw[if_pos rfl,if_pos rfl,<- Pz,(dJ (base++l) v).1,(dJ (base++l) v).2,(dJ l v).1,(dJ l v).2];simp[onE]
  ·rw[if_neg k3,if_neg k3];by_cases k4:a=4\/a=5\/a=6
   ·have e0:(aC (a,b,c,())).1=2:=by
     unfold aC;rcases k4 with rfl|rfl|rfl<;>rfl
    rw[e0] at hl;rcases kT st with rfl|⟨l0,v,rfl⟩;·simp at hl
    ·rcases kT l0 with rfl|⟨l,w,rfl⟩
     ·simp at hl
     ·rw[if_pos k4,if_pos k4,<- Pz,<- Pz,(dJ (base++l++[w]) v).1,(dJ (base++l++[w]) v).2,(dJ (base++l) w).1,(dJ (base++l) w).2,(dJ (l++[w]) v).1,(dJ (l++[w]) v).2,(dJ l w).1,(dJ l w).2];dsimp only;split
      ·simp[onE]
      ·split
       ·simp[onE]
       ·split
        ·simp[onE]
        ·rfl
   ·rw[if_neg k4,if_neg k4];simp[onE]
theorem Ch(labels:List Sym):∀(e:List Item) (base st:List Val) (k:Int),enough (st.length:Int) e=some k->kF labels (base++st) e=onE (base++·) (kF labels st e)/\∀st',kF labels st e=.ok st'->(st'.length:Int)=k
 |[],base,st,k,h=>by
  simp only[enough,Po] at h;exact⟨rfl,fun st' h'=>by cases h';exact h⟩
 |x::e,base,st,k,h=>by
  simp only[enough] at h;split at h
  ·rename_i hc;simp only[kF];rw[IJ labels x base st hc.2];cases hs:nK labels st x with
   |error er=>exact⟨rfl,fun st' h'=>by cases h'⟩
   |ok s2=>
    have hl:=K7 labels x st s2 hc.1 hc.2 hs;rw[<- hl] at h;exact Ch labels e base s2 k h
  ·cases h
end Rv
namespace Rv
open Go
theorem KW(labels:List Sym){e:List Item}(h:gM e):(∃x,kF labels [] e=.error x)\/∃v,kF labels [] e=.ok [v]:=by
 obtain⟨_,h2⟩:=Ch labels e [] [] 1 h;cases hr:kF labels [] e with
 |error x=>exact .inl ⟨x,rfl⟩
 |ok st=>
  have:=h2 st hr
  match st,this with
  |[v],_=>exact .inr ⟨v,rfl⟩
end Rv
namespace Rv
open Go
def mv(by':Int)(v:Val):Val:=(IntKind.u32.wrap (v.1+by'*v.2.1),v.2.1,())
end Rv
namespace Rv
open Go
def nJ(x:Ln):Nat:=if x.2.1.1=0\/x.2.1.1=10 then 0 else 1
theorem qK(x:Ln):nJ x<=1:=by unfold nJ;split<;>omega
def dm:List Ln->Nat->List Int->List Sym->Nat->Except (Nat×Int) (List Int×List Sym×Nat)
 |[],_,a,lb,c=>.ok (a,lb,c)
 |x::r,i,a,lb,c=>
  if x.1=[] then dm r (i+1) (a++[((4*c:Nat):Int)]) lb (c+nJ x)
  else if(dI x.1 lb).isSome=true then .error (i+1,26)
  else dm r (i+1) (a++[((4*c:Nat):Int)]) (lb++[(x.1,((4*c:Nat):Int),())]) (c+nJ x)
def xM(p:List Val)(v:Val):List Val:=if v∈p then p else p++[v]
def vOf(lb:List Sym)(e:List Item):Int×Int×Int×Unit:=(ofR lb e).getD (0,0,99,())
def ed(lb:List Sym):List Ln->Nat->List Val->Except (Nat×Int) (List Val)
 |[],_,p=>.ok p
 |x::r,i,p=>
  if x.2.1.1=8 then
   (if(vOf lb x.2.1.2.2.2.2.2.2.1).2.2.1≠0 then .error (i+1,(vOf lb x.2.1.2.2.2.2.2.2.1).2.2.1)
   else if(vOf lb x.2.1.2.2.2.2.2.2.1).2.1<0\/1<(vOf lb x.2.1.2.2.2.2.2.2.1).2.1 then .error (i+1,27)
   else ed lb r (i+1) (xM p ((vOf lb x.2.1.2.2.2.2.2.2.1).1,(vOf lb x.2.1.2.2.2.2.2.2.1).2.1,())))
  else ed lb r (i+1) p
abbrev wE:=List Int×List Sym×List Val×Int×Int×Int×Int×Unit
def xg(i:Nat)(e:Int):wE:=([],[],[],0,0,(i:Int),e,())
def Ay(t:List Int)(lb:List Sym)(c:Nat):Except (Nat×Int) (List Val)->wE
 | .error x=>xg x.1 x.2
 | .ok p=>if 1024<c+p.length then xg 0 2 else(t,lb,p,((4*c:Nat):Int),((c+p.length:Nat):Int),0,0,())
def FH(l:List Ln):Except (Nat×Int) (List Int×List Sym×Nat)->wE
 | .error x=>xg x.1 x.2
 | .ok r=>Ay r.1 r.2.1 r.2.2 (ed r.2.1 l 0 [])
def cz(l:List Ln):wE:=FH l (dm l 0 [] [] 0)
def vX(v:Val):List Val->Nat
 |[]=>0
 |x::r=>if x=v then 0 else vX v r+1
theorem Ec(labels:List Sym)(e:List Item):∃v1 v2 x,ofR labels e=some (v1,v2,x,()):=by
 unfold ofR;by_cases hw:well e=true
 ·rw[if_pos hw];unfold well at hw;rw[Ps,Pw] at hw;have hwl:gM e:=by unfold gM;rw[<- mW];exact hw.1
  rcases KW labels hwl with⟨x,hx⟩|⟨v,hv⟩;·rw[hx];exact⟨0,0,x,rfl⟩
  ·rw[hv];exact⟨v.1,v.2.1,0,rfl⟩
 ·rw[if_neg hw];exact⟨0,0,23,rfl⟩
theorem Ed(labels:List Sym)(e:List Item):ofR labels e=some (vOf labels e):=by
 obtain⟨a,b,c,h⟩:=Ec labels e;unfold vOf;rw[h];rfl
theorem lJ:∀(l:List Ln) (i:Nat) (a:List Int) (lb:List Sym) (c:Nat) {r},dm l i a lb c=.ok r->r.1.length=a.length+l.length/\r.2.1.length<=lb.length+l.length/\r.2.2<=c+l.length
 |[],_,a,lb,c,r,h=>by cases h;simp
 |x::t,i,a,lb,c,r,h=>by
  have hs:=qK x;unfold dm at h;split at h;·have:=lJ t _ _ _ _ h;simp at this⊢;omega
  ·split at h
   ·cases h
   ·have:=lJ t _ _ _ _ h;simp at this⊢;omega
theorem AV(p:List Val)(v:Val):(xM p v).length<=p.length+1:=by unfold xM;split<;>simp
theorem nC(lb:List Sym):∀(l:List Ln) (i:Nat) (p:List Val) {r},ed lb l i p=.ok r->r.length<=p.length+l.length
 |[],_,p,r,h=>by cases h;simp
 |x::t,i,p,r,h=>by
  unfold ed at h;split at h
  ·split at h
   ·cases h
   ·split at h
    ·cases h
    ·have:=nC lb t _ _ h;have:=AV p ((vOf lb x.2.1.2.2.2.2.2.2.1).1,(vOf lb x.2.1.2.2.2.2.2.2.1).2.1,());simp;omega
  ·have:=nC lb t _ _ h;simp;omega
end Rv
namespace Rv
open Go
abbrev zSy:Sym:=(([]:Str),((0:Int),()))
abbrev less(a b:Str):Bool:=Op.bytesLess a b
theorem vE:∀a b:Str,(L.cmpR a b<0↔less a b=true)/\(L.cmpR a b=0↔a=b)
 |[],[]=>by simp[L.cmpR,Op.bytesLess]
 |[],_::_=>by simp[L.cmpR,Op.bytesLess]
 |_::_,[]=>by simp[L.cmpR,Op.bytesLess]
 |a::r,b::s=>by
  have ih:=vE r s;unfold L.cmpR less Op.bytesLess;by_cases h1:a<b
  ·have:a≠b:=fun e=>by subst e;exact absurd h1 (UInt8.lt_irrefl a)
   simp[h1,this]
  ·by_cases h2:b<a
   ·have:a≠b:=fun e=>by subst e;exact absurd h2 (UInt8.lt_irrefl a)
    simp[h1,h2,this]
   ·have e:a=b:=UInt8.le_antisymm (UInt8.not_lt.1 h2) (UInt8.not_lt.1 h1);subst e;simp only[h1,if_false,decide_false,Bool.false_or,beq_self_eq_true,Bool.true_and,List.cons.injEq,true_and];exact ih
theorem jH:∀{a b c:Str},less a b=true->less b c=true->less a c=true
 |_,[],_,h,_=>by simp[Op.bytesLess] at h
 |_,_::_,[],_,h=>by simp[Op.bytesLess] at h
 |[],_::_,_::_,_,_=>by simp[Op.bytesLess]
 |a::x,b::y,c::z,h1,h2=>by
  simp only[less,Op.bytesLess,Bool.or_eq_true,Pw,Ps,beq_iff_eq] at h1 h2⊢;rcases h1 with h1|⟨rfl,h1⟩
  ·rcases h2 with h2|⟨rfl,h2⟩
   ·exact .inl (UInt8.lt_trans h1 h2)
   ·exact .inl h1
  ·rcases h2 with h2|⟨rfl,h2⟩
   ·exact .inl h2
   ·exact .inr ⟨rfl,jH h1 h2⟩
theorem Fv{a b:Str}(h:less a b=false)(hne:a≠b):less b a=true:=by
 induction a generalizing b with
 |nil=>cases b with
  |nil=>exact absurd rfl hne
  |cons b y=>simp[Op.bytesLess] at h
 |cons a x ih=>cases b with
  |nil=>simp[Op.bytesLess]
  |cons b y=>
   simp only[less,Op.bytesLess,Bool.or_eq_false_iff,decide_eq_false_iff_not,Bool.and_eq_false_iff,beq_eq_false_iff_ne,Bool.or_eq_true,Pw,Ps,beq_iff_eq] at h⊢;obtain⟨h1,h2⟩:=h;by_cases e:a=b;·subst e;refine .inr ⟨rfl,ih (h2.resolve_left (fun g=>g rfl)) fun e=>hne (by rw[e])⟩
   ·exact .inl (UInt8.lt_of_le_of_ne (UInt8.not_lt.1 h1) (Ne.symm e))
def ib(y:List Sym):Prop:=y.Pairwise fun a b=>less a.1 b.1=true
def kS:List Sym->Str->Nat
 |[],_=>0
 |x::r,s=>if less x.1 s=true then kS r s+1 else 0
theorem Fh:∀(y:List Sym) (s:Str),kS y s<=y.length
 |[],_=>Px _
 |x::r,s=>by unfold kS;split;exact Nat.succ_le_succ (Fh r s);exact Nat.zero_le _
theorem Lt:∀{y:List Sym}{s:Str}{i:Nat},(∀t,t<i->less (y.getD t zSy).1 s=true)->i<=y.length->(i<y.length->less (y.getD i zSy).1 s=false)->kS y s=i
 |[],_,i,_,h,_=>by simp at h;subst h;rfl
 |x::r,s,0,_,_,h=>by
  have h:=h (by simp);have h:less x.1 s=false:=h;unfold kS;rw[if_neg (by rw[h];decide)]
 |x::r,s,i+1,h1,h2,h3=>by
  have h0:less x.1 s=true:=h1 0 (by omega);unfold kS;rw[if_pos h0,Lt (y:=r) (i:=i) (fun t ht=>by simpa using h1 (t+1) (by omega)) (by simpa using h2) (fun h=>by simpa using h3 (by simpa using h))]
theorem qM{y:List Sym}(hy:ib y){i j:Nat}(hij:i<j)(hj:j<y.length):less (y.getD i zSy).1 (y.getD j zSy).1=true:=by
 have:=List.pairwise_iff_getElem.1 hy i j (by omega) hj hij;rw[PM,PM,PI hj,PI (show i<y.length by omega)];exact this
def qa(y:List Sym)(s:Str):Bool:=decide (kS y s<y.length/\(y.getD (kS y s) zSy).1=s)
theorem IV{x:Int}(h:0<=x/\x<=9223372036854775807):IntKind.u64.wrap x=x:=by
 show(x % 2 ^ 64:Int)=x;omega
theorem Mf(a:Str)(b:Int)(c:Str):Zdx.g a b c=some (L.cmpR a c,()):=rfl
theorem LM(y:List Sym)(s:Str)(hy:ib y)(hl:y.length<=1000000)(n:Nat):∀(m i j:Nat),i<=j->j<=y.length->j-i<m->(∀t,t<i->less (y.getD t zSy).1 s=true)->(∀t,j<=t->t<y.length->less (y.getD t zSy).1 s=false) ->
  Zbr.l3 n m y s (y.length:Int) (i:Int) (j:Int)=some ((kS y s:Int),qa y s,()):=by
 intro m
 induction m with
 |zero=>intro i j _ _ h;omega
 |succ m ih=>
  intro i j hij hj hm h1 h2;rw[Zbr.l3];have hmid:IntKind.i64.wrap ((IntKind.u64.wrap (IntKind.i64.wrap ((i:Int)+(j:Int)))).fdiv (2 ^ (min (1:Int).toNat IntKind.u64.bits)))=(((i+j) / 2:Nat):Int):=by
   show IntKind.i64.wrap ((IntKind.u64.wrap (IntKind.i64.wrap ((i:Int)+(j:Int)))).fdiv 2)=_;rw[w64 (x:=(i:Int)+(j:Int)) (by omega),Int.fdiv_eq_ediv_of_nonneg _ (by decide),IV (by omega),w64 (by omega)];omega
  rw[hmid];simp only[dt,PN,Mf,Pn];by_cases h:i<j
  ·rw[if_pos (by omega),if_pos (by omega)];generalize hq:(i+j) / 2=q;have hc:=(vE (y.getD q zSy).1 s).1;by_cases hlt:less (y.getD q zSy).1 s=true
   ·rw[if_pos (hc.2 hlt),w64 (by omega),show(q:Int)+1=((q+1:Nat):Int) by omega];refine ih (q+1) j (by omega) hj (by omega) (fun t ht=>?_) h2;by_cases e:t=q
    ·rw[e];exact hlt
    ·exact jH (qM hy (show t<q by omega) (by omega)) hlt
   ·rw[if_neg (fun g=>hlt (hc.1 g))];refine ih i q (by omega) (by omega) (by omega) h1 fun t ht htl=>?_
    have hf:less (y.getD q zSy).1 s=false:=by simpa using hlt
    by_cases e:t=q;·rw[e];exact hf
    ·cases ht2:less (y.getD t zSy).1 s with
     |false=>rfl
     |true=>rw[jH (qM hy (show q<t by omega) htl) ht2] at hf;cases hf
  ·obtain rfl:i=j:=by omega
   have hk:kS y s=i:=Lt h1 hj (fun h=>h2 i (by omega) h);rw[if_neg (by omega)];unfold qa;rw[hk];by_cases hl2:i<y.length;·rw[if_pos (by omega),if_pos (by omega)];have:=(vE (y.getD i zSy).1 s).2;congr 3;rw[Bool.eq_iff_iff,Pw,Pw,this];exact⟨fun h=>⟨hl2,h⟩,fun h=>h.2⟩
   ·rw[if_neg (by omega),decide_eq_false (fun h=>hl2 h.1)]
theorem Ow(y:List Sym)(s:Str)(hy:ib y)(hl:y.length<=1000000):Zbr.g y s=some ((kS y s:Int),qa y s,()):=by
 unfold Zbr.g Zbr.f;exact LM y s hy hl _ _ 0 y.length (by omega) (by omega) (by omega) (fun t h=>by omega) (fun t h h2=>by omega)
def rV(y:List Sym)(x:Sym):List Sym:=y.take (kS y x.1)++[x]++y.drop (kS y x.1)
theorem yg:∀{y:List Sym}{s:Str},∀a∈y.take (kS y s),less a.1 s=true
 |[],_,a,h=>by simp at h
 |x::r,s,a,h=>by
  unfold kS at h;split at h
  ·rename_i hx;rw[List.take_succ_cons,Py] at h;rcases h with rfl|h
   ·exact hx
   ·exact yg a h
  ·simp at h
theorem MG{y:List Sym}{s:Str}(hy:ib y)(hs:qa y s=false):∀a∈y.drop (kS y s),less s a.1=true:=by
 intro a ha;obtain⟨j,hj,rfl⟩:=List.getElem_of_mem ha;rw[P7] at hj;rw[List.getElem_drop];have hk:kS y s<y.length:=by omega
 unfold qa at hs;rw[decide_eq_false_iff_not] at hs;have hne:(y.getD (kS y s) zSy).1≠s:=fun e=>hs ⟨hk,e⟩
 have hnl:less (y.getD (kS y s) zSy).1 s=false:=by
  have gen:∀(y:List Sym),kS y s<y.length->less (y.getD (kS y s) zSy).1 s=false:=by
   intro y
   induction y with
   |nil=>intro h;simp at h
   |cons x r ih=>
    intro h;unfold kS at h⊢;split;·rename_i hx;rw[if_pos hx] at h;simpa using ih (by simpa using h)
    ·rename_i hx;simpa using hx
  exact gen y hk
 have h0:=Fv hnl hne;by_cases e:j=0;·subst e;rw[PM,PI hk] at h0;exact h0
 ·have:=qM hy (show kS y s<kS y s+j by omega) (by omega);have:=jH h0 this;rw[PM,PI (show kS y s+j<y.length by omega)] at this;exact this
theorem Fb{y:List Sym}{x:Sym}(hy:ib y)(hs:qa y x.1=false):ib (rV y x):=by
 unfold ib rV;rw[List.pairwise_append];have h1:(y.take (kS y x.1)).Pairwise fun a b=>less a.1 b.1=true:=hy.sublist (List.take_sublist _ _)
 have h2:(y.drop (kS y x.1)).Pairwise fun a b=>less a.1 b.1=true:=hy.sublist (List.drop_sublist _ _)
 refine⟨?_,h2,?_⟩;·rw[List.pairwise_append];exact⟨h1,List.pairwise_singleton _ _,fun a ha b hb=>by rw[PV.1 hb];exact yg a ha⟩
 ·intro a ha b hb;have hxb:=MG hy hs b hb;rcases PL.1 ha with h|h
  ·exact jH (yg a h) hxb
  ·rw[PV.1 h];exact hxb
theorem MC(y:List Sym)(x:Sym):(rV y x).length=y.length+1:=by
 have:=Fh y x.1;unfold rV;simp only[Pt,PY,P7,List.length_singleton];omega
end Rv
namespace Rv
open Go
abbrev eL(x:Ln):List Item:=x.2.1.2.2.2.2.2.2.1
end Rv
namespace Rv
open Go
end Rv
namespace Rv
open Go
end Rv
namespace Rv
open Go
end Rv
namespace Rv
open Go
end Rv
namespace Rv
open Go
theorem Kb(x:Ln):Zdm.g x.2.1.1 x.2.1.2.1 x.2.1.2.2.1 x.2.1.2.2.2.1 x.2.1.2.2.2.2.1 x.2.1.2.2.2.2.2.1 x.2.1.2.2.2.2.2.2.1 x.2.1.2.2.2.2.2.2.2.1=some ((nJ x:Int),()):=by
 unfold Zdm.g Zdm.f nJ;simp only[dt];by_cases h0:x.2.1.1=0;·rw[if_pos h0,if_pos h0,if_pos (.inl h0)];rfl
 ·rw[if_neg h0];by_cases h1:x.2.1.1=10
  ·rw[if_pos h1,if_pos (.inr h1)];rfl
  ·rw[if_neg h1,if_neg (by rintro(h|h)<;>contradiction)];rfl
theorem Oj(x:Val)(a b:Int):(decide (x.1=a)&&(decide (x.2.1=b)&&true))=decide (x=(a,b,())):=by
 obtain⟨x1,x2,_⟩:=x;simp only[Bool.and_true];by_cases h1:x1=a<;>by_cases h2:x2=b<;>simp[h1,h2]
theorem H5(p:List Val)(a b:Int)(hp:p.length<=1000000)(n:Nat):∀(m i:Nat),i<=p.length->p.length-i<m ->
  Zbn.l2 n m p p (p.length:Int) (i:Int) a b=some (if(a,b,())∈p.drop i then p else p++[(a,b,())],((i+vX (a,b,()) (p.drop i):Nat):Int),()):=by
 intro m
 induction m with
 |zero=>intro i _ h;omega
 |succ m ih=>
  intro i hi hm;rw[Zbn.l2];simp only[Oj,dt,PN];by_cases h:i<p.length
  ·have hd:p.drop i=p.getD i ((0:Int),((0:Int),()))::p.drop (i+1):=by
    rw[P5 h,PM,PI h];rfl
   rw[if_pos (by omega),if_pos (by omega),hd];generalize p.getD i ((0:Int),((0:Int),()))=x;unfold vX;by_cases hx:x=(a,b,())
   ·rw[if_pos hx,if_pos (by rw[hx];simp),if_pos hx];simp
   ·rw[if_neg hx,if_neg hx,w64 (by omega),show(i:Int)+1=((i+1:Nat):Int) by omega,ih (i+1) (by omega) (by omega)];have e:((a,b,())∈x::p.drop (i+1))=((a,b,())∈p.drop (i+1)):=by
     apply propext;rw[Py];exact⟨fun h=>h.resolve_left fun e=>hx e.symm,.inr⟩
    simp only[e];rw[show i+1+vX (a,b,()) (p.drop (i+1))=i+(vX (a,b,()) (p.drop (i+1))+1) by omega]
  ·obtain rfl:i=p.length:=by omega
   rw[if_neg (by omega),Qe];unfold Zdw.g Zdw.f;rw[if_pos ⟨rfl,rfl,rfl⟩,Pn];dsimp only;rw[if_pos (by simp),if_pos (by simp;omega),if_neg (by simp)];rfl
theorem Eh(p:List Val)(a b:Int)(hp:p.length<=1000000):Zbn.g p a b=some (xM p (a,b,()),(vX (a,b,()) p:Int),()):=by
 unfold Zbn.g Zbn.f;have:=H5 p a b hp (1000+p.length+a.toNat+b.toNat) (1000+p.length+a.toNat+b.toNat) 0 (by omega) (by omega);rw[PZ,Nat.zero_add] at this;exact this
theorem zZ{c k:Nat}(hc:c<=1000000)(hk:k<=1):IntKind.i64.wrap (((4*c:Nat):Int)+IntKind.i64.wrap (4*(k:Int)))=((4*(c+k):Nat):Int):=by
 rw[w64 (x:=4*(k:Int)) (by omega),w64 (by omega)];omega
theorem KG(x:Ln)(t:List Int)(lb:List Sym)(q:List Val)(c:Nat)(s:Int)(ht:t.length<=1000000)(hlb:lb.length<=1000000)(hc:c<=1000000) :
  Zcf.g x.1 x.2.1.1 x.2.1.2.1 x.2.1.2.2.1 x.2.1.2.2.2.1 x.2.1.2.2.2.2.1 x.2.1.2.2.2.2.2.1 x.2.1.2.2.2.2.2.2.1 x.2.1.2.2.2.2.2.2.2.1 t lb q ((4*c:Nat):Int) s =
   some (if x.1=[] then(0,t++[((4*c:Nat):Int)],lb,q,((4*(c+nJ x):Nat):Int),s,()) else if(dI x.1 lb).isSome=true then(26,t++[((4*c:Nat):Int)],lb,q,((4*c:Nat):Int),s,())
    else(0,t++[((4*c:Nat):Int)],lb++[(x.1,((4*c:Nat):Int),())],q,((4*(c+nJ x):Nat):Int),s,())):=by
 unfold Zcf.g;generalize 1000+_+_+_+_+_+_+_+_+_+_+_+_+_=n;unfold Zcf.f Zcf.j7;rw[if_pos (by simp;omega),xZ lb x.1 (by omega),Pn,Kb,Pn];dsimp only;rw[zZ hc (qK x)];simp only[Bool.not_eq_true',decide_eq_false_iff_not];by_cases h:x.1=[]
 ·rw[if_neg (by simpa using h),if_pos h,Pn];dsimp only;rw[zZ hc (qK x)]
 ·rw[if_pos h,if_neg h];by_cases h2:(dI x.1 lb).isSome=true
  ·rw[if_pos h2,if_pos h2]
  ·rw[if_neg h2,if_neg h2,if_pos (by simp;omega)]
theorem xU{a:List Ln}{i:Nat}(h:i<a.length):a.drop i=a.getD i zL::a.drop (i+1):=by
 rw[P5 h,PM,PI h];rfl
theorem DR{a:List Ln}{i:Nat}(h:i<a.length):a.getD i zL∈a:=by
 rw[PM,PI h];exact Qp h
theorem Mi(a:List Ln)(ha:a.length<=1000000)(n:Nat)(q:List Val)(s:Int):∀(m i:Nat) (t:List Int) (lb:List Sym) (c:Nat),i<=a.length->a.length-i<m->t.length<=i->lb.length<=i->c<=i ->
  ∃r,Zco.l2 n m a (a.length:Int) (i:Int) t lb q ((4*c:Nat):Int) s=some r/\(∀x,dm (a.drop i) i t lb c=.error x->r.1=(x.1:Int)/\r.2.1=x.2/\x.2≠0) /\
   (∀y,dm (a.drop i) i t lb c=.ok y->r=(0,0,y.1,y.2.1,q,((4*y.2.2:Nat):Int),s,())):=by
 intro m
 induction m with
 |zero=>intro i _ _ _ _ h;omega
 |succ m ih=>
  intro i t lb c hi hm ht hlb hc;rw[Zco.l2];simp only[dt,PN];by_cases h:i<a.length
  ·rw[if_pos (by omega),if_pos (by omega),KG _ t lb q c s (by omega) (by omega) (by omega),Pn,xU h];have hs:=qK (a.getD i zL);generalize a.getD i zL=x at hs;have W:IntKind.i64.wrap ((i:Int)+1)=((i+1:Nat):Int):=by rw[w64 (by omega)];omega
   rw[dm,W];by_cases h1:x.1=[]
   ·rw[if_pos h1,if_pos h1];simp only[ne_eq,not_true_eq_false,↓reduceIte];exact ih (i+1) _ _ _ (by omega) (by omega) (by simp;omega) (by omega) (by omega)
   ·rw[if_neg h1,if_neg h1];by_cases h2:(dI x.1 lb).isSome=true
    ·rw[if_pos h2,if_pos h2];dsimp only;rw[if_pos (by decide)];exact⟨_,rfl,fun y hy=>by cases hy;exact⟨rfl,rfl,(by decide:(26:Int)≠0)⟩,fun y hy=>by cases hy⟩
    ·rw[if_neg h2,if_neg h2];simp only[ne_eq,not_true_eq_false,↓reduceIte];exact ih (i+1) _ _ _ (by omega) (by omega) (by simp;omega) (by simp;omega) (by omega)
  ·obtain rfl:i=a.length:=by omega
   rw[if_neg (by omega),Qe];exact⟨_,rfl,fun x hx=>by(rw[dm] at hx;cases hx),fun y hy=>by(rw[dm] at hy;cases hy;rfl)⟩
theorem KH(x:Ln)(t:List Int)(lb:List Sym)(q:List Val)(f s:Int)(hlb:lb.length<=1000000)(hq:q.length<=1000000)(he:(eL x).length<=4611686018427387904) :
  Zdn.g x.1 x.2.1.1 x.2.1.2.1 x.2.1.2.2.1 x.2.1.2.2.2.1 x.2.1.2.2.2.2.1 x.2.1.2.2.2.2.2.1 x.2.1.2.2.2.2.2.2.1 x.2.1.2.2.2.2.2.2.2.1 t lb q f s =
   some (if x.2.1.1=8 then(if(vOf lb (eL x)).2.2.1≠0 then((vOf lb (eL x)).2.2.1,t,lb,q,f,s,()) else if(vOf lb (eL x)).2.1<0\/1<(vOf lb (eL x)).2.1 then(27,t,lb,q,f,s,())
    else(0,t,lb,xM q ((vOf lb (eL x)).1,(vOf lb (eL x)).2.1,()),f,s,())) else(0,t,lb,q,f,s,())):=by
 unfold Zdn.g;generalize 1000+_+_+_+_+_+_+_+_+_+_+_+_+_=n;unfold Zdn.f;rw[FB lb (by omega) _ he,Ed,Pn];simp only[dt,df];by_cases h8:x.2.1.1=8
 ·rw[if_neg (by simpa using h8),if_pos h8];show(if(vOf lb (eL x)).2.2.1≠0 then _ else _)=_;by_cases h1:(vOf lb (eL x)).2.2.1≠0
  ·rw[if_pos h1,if_pos h1]
  ·rw[if_neg h1,if_neg h1,Eh q _ _ hq,Pn];by_cases h2:(vOf lb (eL x)).2.1<0
   ·rw[if_neg (by simpa using h2),if_pos (.inl h2)]
   ·rw[if_pos h2];by_cases h3:1<(vOf lb (eL x)).2.1
    ·rw[if_pos h3,if_pos (.inr h3)]
    ·rw[if_neg h3,if_neg (by rintro(h|h)<;>contradiction)]
 ·rw[if_pos h8,if_neg h8]
theorem Mj(a:List Ln)(ha:a.length<=1000000)(he:∀x∈a,(eL x).length<=4611686018427387904)(n:Nat)(t:List Int)(lb:List Sym)(hlb:lb.length<=1000000)(f s:Int):∀(m i:Nat) (q:List Val),i<=a.length->a.length-i<m->q.length<=i ->
  ∃r,Zcp.l2 n m a (a.length:Int) (i:Int) t lb q f s=some r/\(∀x,ed lb (a.drop i) i q=.error x->r.1=(x.1:Int)/\r.2.1=x.2/\x.2≠0) /\
   (∀y,ed lb (a.drop i) i q=.ok y->r=(0,0,t,lb,y,f,s,())):=by
 intro m
 induction m with
 |zero=>intro i _ _ h;omega
 |succ m ih=>
  intro i q hi hm hq;rw[Zcp.l2];simp only[dt,PN];by_cases h:i<a.length
  ·rw[if_pos (by omega),if_pos (by omega),KH _ t lb q f s hlb (by omega) (he _ (DR h)),Pn,xU h];generalize a.getD i zL=x;have W:IntKind.i64.wrap ((i:Int)+1)=((i+1:Nat):Int):=by rw[w64 (by omega)];omega
   rw[ed,W];by_cases h8:x.2.1.1=8
   ·rw[if_pos h8,if_pos h8];show ∃r,_/\(∀y,(if(vOf lb (eL x)).2.2.1≠0 then _ else _)=_->_)/\_;by_cases h1:(vOf lb (eL x)).2.2.1≠0
    ·rw[if_pos h1];dsimp only;rw[if_pos h1];refine⟨_,rfl,fun y hy=>?_,fun y hy=>?_⟩
     ·rw[if_pos h1] at hy;cases hy;exact⟨rfl,rfl,h1⟩
     ·rw[if_pos h1] at hy;cases hy
    ·rw[if_neg h1];by_cases h2:(vOf lb (eL x)).2.1<0\/1<(vOf lb (eL x)).2.1
     ·rw[if_pos h2];dsimp only;rw[if_pos (by decide)];refine⟨_,rfl,fun y hy=>?_,fun y hy=>?_⟩
      ·rw[if_neg h1,if_pos h2] at hy;cases hy;exact⟨rfl,rfl,(by decide:(27:Int)≠0)⟩
      ·rw[if_neg h1,if_pos h2] at hy;cases hy
     ·rw[if_neg h2];simp only[ne_eq,not_true_eq_false,↓reduceIte];have hl:=AV q ((vOf lb (eL x)).1,(vOf lb (eL x)).2.1,());obtain⟨r,hr,g1,g2⟩:=ih (i+1) (xM q ((vOf lb (eL x)).1,(vOf lb (eL x)).2.1,())) (by omega) (by omega) (by omega);refine⟨r,hr,fun y hy=>g1 y ?_,fun y hy=>g2 y ?_⟩
      ·rw[if_neg h1,if_neg h2] at hy;exact hy
      ·rw[if_neg h1,if_neg h2] at hy;exact hy
   ·rw[if_neg h8,if_neg h8];simp only[ne_eq,not_true_eq_false,↓reduceIte];exact ih (i+1) q (by omega) (by omega) (by omega)
  ·obtain rfl:i=a.length:=by omega
   rw[if_neg (by omega),Qe];exact⟨_,rfl,fun x hx=>by(rw[ed] at hx;cases hx),fun y hy=>by(rw[ed] at hy;cases hy;rfl)⟩
theorem FJ{c k:Nat}(hc:c<=1000000)(hk:k<=1000000):IntKind.i64.wrap (IntKind.i64.wrap (Int.tdiv ((4*c:Nat):Int) 4)+(k:Int))=((c+k:Nat):Int):=by
 have:Int.tdiv ((4*c:Nat):Int) 4=(c:Int):=by
  rw[Int.tdiv_eq_ediv_of_nonneg (by omega)];omega
 rw[this,w64 (x:=(c:Int)) (by omega),w64 (by omega)];omega
theorem M3(a:List Ln)(ha:a.length<=1000000)(he:∀x∈a,(eL x).length<=4611686018427387904):Zbc.g a=some (cz a):=by
 have key:∀n m,3<=m->Zbc.l4 n m a 2 0 [] [] [] 0 0=some (cz a):=by
  intro n m hm;obtain⟨k,rfl⟩:∃k,m=k+3:=⟨m-3,by omega⟩
  obtain⟨r,hr,g1,g2⟩:=Mi a ha (1000+a.length+([]:List Int).length+([]:List Sym).length+([]:List Val).length+(0:Int).toNat+(0:Int).toNat) [] 0 (1000+a.length+([]:List Int).length+([]:List Sym).length+([]:List Val).length+(0:Int).toNat+(0:Int).toNat) 0 [] [] 0 (by omega) (by omega) (by simp) (by simp) (by omega);rw[PZ] at g1 g2;have hr':Zco.g a [] [] [] 0 0=some r:=hr;rw[Zbc.l4,if_pos (by decide),if_pos rfl,hr',Pn,Zbc.j7];unfold cz FH;cases hp:dm a 0 [] [] 0 with
  |error x=>
   obtain⟨e1,e2,e3⟩:=g1 x hp;rw[e1,e2];simp only[dt];rw[if_pos e3];rfl
  |ok y=>
   obtain rfl:=g2 y hp;simp only[ne_eq,not_true_eq_false,decide_false,Bool.false_eq_true,↓reduceIte];have hl:=lJ _ _ _ _ _ hp;simp only[P6,Nat.zero_add] at hl;rw[show IntKind.i64.wrap ((0:Int)+1)=1 from rfl,Zbc.l4,if_pos (by decide),if_neg (by decide),if_pos rfl];obtain⟨r2,hr2,k1,k2⟩:=Mj a ha he (1000+a.length+y.1.length+y.2.1.length+([]:List Val).length+(((4*y.2.2:Nat):Int)).toNat+(0:Int).toNat) y.1 y.2.1 (by omega) ((4*y.2.2:Nat):Int) 0 (1000+a.length+y.1.length+y.2.1.length+([]:List Val).length+(((4*y.2.2:Nat):Int)).toNat+(0:Int).toNat) 0 [] (by omega) (by omega) (by simp);rw[PZ] at k1 k2;have hr2':Zcp.g a y.1 y.2.1 [] ((4*y.2.2:Nat):Int) 0=some r2:=hr2;rw[hr2',Pn,Zbc.j7];cases hq:ed y.2.1 a 0 [] with
   |error x=>
    obtain⟨e1,e2,e3⟩:=k1 x hq;rw[e1,e2];simp only[dt];rw[if_pos e3];rfl
   |ok z=>
    obtain rfl:=k2 z hq;have hz:=nC _ _ _ _ hq;simp only[P6,Nat.zero_add] at hz;simp only[ne_eq,not_true_eq_false,decide_false,Bool.false_eq_true,↓reduceIte];rw[show IntKind.i64.wrap ((1:Int)+1)=2 from rfl,Zbc.l4,if_neg (by decide),FJ (by omega) (by omega)];simp only[dt];unfold Ay;by_cases hw:1024<y.2.2+z.length;·rw[if_pos (by omega)];dsimp only;rw[if_pos hw];rfl
    ·rw[if_neg (by omega)];dsimp only;rw[if_neg hw]
 exact key _ _ (by omega)
end Rv
namespace Rv
open Go
def BI(a b low high:Int):Int×Int×Unit:=if low<=a/\a<=high then(a,0,()) else if low<=b/\b<=high then(b,0,()) else(0,28,())
theorem Kr(n m:Nat)(a b low high:Int):Zap.l7 n (m+3) low high a b 0=some (BI a b low high):=by
 have e2:Zap.l7 n (m+1) low high a b 2=some (0,28,()):=by
  simp only[Zap.l7,dt];rw[if_neg (by decide)]
 have e1:Zap.l7 n (m+2) low high a b 1=some (if low<=b/\b<=high then(b,0,()) else(0,28,())):=by
  rw[Zap.l7];simp only[dt,Zap.j11];rw[if_pos (by decide),if_pos (by decide),show([a,b].getD (1:Int).toNat 0)=b from rfl,show IntKind.i64.wrap (1+1)=2 by decide,e2];by_cases h1:low<=b
  ·by_cases h2:b<=high
   ·rw[if_pos h1,if_pos h2,if_pos ⟨h1,h2⟩]
   ·rw[if_pos h1,if_neg h2,if_neg (fun h=>h2 h.2)]
  ·rw[if_neg h1,if_neg (fun h=>h1 h.1)]
 rw[Zap.l7];simp only[dt,Zap.j11];rw[if_pos (by decide),if_pos (by decide),show([a,b].getD (0:Int).toNat 0)=a from rfl,show IntKind.i64.wrap (0+1)=1 by decide,e1];unfold BI;by_cases h1:low<=a
 ·by_cases h2:a<=high
  ·rw[if_pos h1,if_pos h2,if_pos ⟨h1,h2⟩]
  ·rw[if_pos h1,if_neg h2,if_neg (show ¬(low<=a/\a<=high) from fun h=>h2 h.2)]
 ·rw[if_neg h1,if_neg (show ¬(low<=a/\a<=high) from fun h=>h1 h.1)]
theorem Gb(e:List Item)(labels:List Sym)(low high v1 v2 x:Int)(h:Zah.g e labels=some (v1,v2,x,())) :
  Zap.g e labels low high=some (if x≠0 then(0,x,()) else if v2≠0 then(0,27,()) else BI (IntKind.i64.wrap (IntKind.i32.wrap v1)) (IntKind.i64.wrap v1) low high):=by
 unfold Zap.g Zap.f;rw[h,Pn];simp only[dt];have z:¬((0:Int)≠0):=by decide
 by_cases h1:x=0
 ·subst h1;rw[if_neg z,if_neg z];by_cases h2:v2=0
  ·subst h2;rw[if_neg z,if_neg z];have:∀k,3<=k->Zap.l7 k k low high (IntKind.i64.wrap (IntKind.i32.wrap v1)) (IntKind.i64.wrap v1) 0=some (BI (IntKind.i64.wrap (IntKind.i32.wrap v1)) (IntKind.i64.wrap v1) low high):=fun k hk=>by
    obtain⟨m,rfl⟩:∃m,k=m+3:=⟨k-3,by omega⟩
    exact Kr _ m _ _ _ _
   exact this _ (by omega)
  ·rw[if_pos (show v2≠0 from h2),if_pos (show v2≠0 from h2)]
 ·rw[if_pos (show x≠0 from h1),if_pos (show x≠0 from h1)]
end Rv
namespace Rv
open Go
theorem OC{k o a b c:Int}{u:Bool}(h:bU k o a b c u):rg a/\rg b/\rg c:=by
 have z:rg 0:=⟨by decide,by decide⟩
 cases h<;>refine⟨?_,?_,?_⟩<;>assumption
def I0P(k o a b c:Int)(u:Bool):Prop:=
 (k=1/\0<o/\o<12/\(u=true->8<=o/\o<=10))\/(k=1/\o=0/\b=0/\u=false)\/(k=2/\0<o/\o<12/\c=0/\(u=true->8<=o/\o<=10))\/(k=2/\o=0/\b=0/\c=0) \/
 (k=3/\o=0/\b=0/\c=0/\u=false)\/(k=4/\o=0/\b=0/\c=0/\u=false)\/(k=5/\0<=o/\o<4/\c=0/\u=false)\/(k=6/\0<=o/\o<16/\a=0/\b=0)\/(k=7/\0<=o/\o<16/\a=0/\b=0/\c=0)
instance (k o a b c:Int) (u:Bool):Decidable (I0P k o a b c u):=by unfold I0P;infer_instance
theorem DU{k o a b c:Int}{u:Bool}(ha:rg a)(hb:rg b)(hc:rg c):bU k o a b c u↔I0P k o a b c u:=by
 constructor
 ·intro h;unfold I0P;cases h with
  |reg h1 h2 _ _ _ h3=>exact .inl ⟨rfl,h1,h2,h3⟩
  |mov _ _=>exact .inr (.inl ⟨rfl,rfl,rfl,rfl⟩)
  |imm h1 h2 _ _ h3=>exact .inr (.inr (.inl ⟨rfl,h1,h2,rfl,h3⟩))
  |movi _=>exact .inr (.inr (.inr (.inl ⟨rfl,rfl,rfl,rfl⟩)))
  |hi _=>exact .inr (.inr (.inr (.inr (.inl ⟨rfl,rfl,rfl,rfl,rfl⟩))))
  |fl _=>exact .inr (.inr (.inr (.inr (.inr (.inl ⟨rfl,rfl,rfl,rfl,rfl⟩)))))
  |mem h1 h2 _ _=>exact .inr (.inr (.inr (.inr (.inr (.inr (.inl ⟨rfl,h1,h2,rfl,rfl⟩))))))
  |br h _=>exact .inr (.inr (.inr (.inr (.inr (.inr (.inr (.inl ⟨rfl,h.1,h.2,rfl,rfl⟩)))))))
  |jmp h=>exact .inr (.inr (.inr (.inr (.inr (.inr (.inr (.inr ⟨rfl,h.1,h.2,rfl,rfl,rfl⟩)))))))
 ·intro h;unfold I0P at h;rcases h with⟨rfl,h1,h2,h3⟩|⟨rfl,rfl,rfl,rfl⟩|⟨rfl,h1,h2,rfl,h3⟩|⟨rfl,rfl,rfl,rfl⟩|⟨rfl,rfl,rfl,rfl,rfl⟩|⟨rfl,rfl,rfl,rfl,rfl⟩|⟨rfl,h1,h2,rfl,rfl⟩|⟨rfl,h1,h2,rfl,rfl⟩|⟨rfl,h1,h2,rfl,rfl,rfl⟩
  ·exact .reg h1 h2 ha hb hc h3
  ·exact .mov ha hc
  ·exact .imm h1 h2 ha hb h3
  ·exact .movi ha
  ·exact .hi ha
  ·exact .fl ha
  ·exact .mem h1 h2 ha hb
  ·exact .br ⟨h1,h2⟩ hc
  ·exact .jmp ⟨h1,h2⟩
end Rv
namespace Rv
open Go
def lg(k o i:Int)(u:Bool):Prop:=
 (k=2/\-65536<=i/\i<=65535/\(o=0->u=true->0<=i))\/(k=5/\-524288<=i/\i<=524287)\/(k=7/\-8388608<=i/\i<=8388607)\/(k≠2/\k≠5/\k≠7/\i=0)
instance (k o i:Int) (u:Bool):Decidable (lg k o i u):=by unfold lg;infer_instance
theorem yc(W:W32){n:Nat}(hn:n<=32):(fe W 0 n).toNat=W.toNat % 2 ^ n:=by
 refine Nat.eq_of_testBit_eq fun j=>?_
 rw[Nat.testBit_mod_two_pow];by_cases hj:j<32;·have:=fE W (a:=0) hn hj;rw[Nat.zero_add] at this;exact this
 ·have h1:(fe W 0 n).toNat.testBit j=false:=BitVec.getLsbD_of_ge _ _ (by omega);rw[h1,decide_eq_false (by omega),Bool.false_and]
theorem Bl(W:W32)(i:Int){n:Nat}(hn:n<=32):Gn (fI W (BitVec.ofInt 32 i) 0 n) 0 n=i % 2 ^ n:=by
 unfold Gn;rw[Bj W _ (by omega) (Px _) (Px _),Nat.sub_self,yc _ hn,BitVec.toNat_ofInt];have e:((2 ^ n:Nat):Int)=2 ^ n:=by rw[Int.natCast_pow];rfl
 have e2:((2 ^ 32:Nat):Int)=2 ^ 32:=rfl;rw[Int.natCast_emod,Int.toNat_of_nonneg (Int.emod_nonneg _ (by decide)),e];refine Int.emod_emod_of_dvd i ?_;obtain⟨d,hd⟩:=Nat.exists_eq_add_of_le hn;refine⟨2 ^ d,?_⟩;rw[e2,<- Int.pow_add,<- hd]
theorem Oc(W:W32):sgV W 20=if Gn W 0 20<524288 then Gn W 0 20 else Gn W 0 20-1048576:=by
 unfold sgV Gn;rw[yc W (by decide),BitVec.toNat_shiftLeft,Nat.shiftLeft_eq,Int.fdiv_eq_ediv_of_nonneg _ (by decide),IntKind.wrap_i32,IntKind.wrap_i64];have:=W.isLt;generalize W.toNat=q at *;show _=if((q % 1048576:Nat):Int)<524288 then((q % 1048576:Nat):Int) else((q % 1048576:Nat):Int)-1048576
 simp only[Nat.reducePow,Nat.reduceSub,Int.reducePow];split<;>omega
theorem Oe(W:W32):sgV W 24=if Gn W 0 24<8388608 then Gn W 0 24 else Gn W 0 24-16777216:=by
 unfold sgV Gn;rw[yc W (by decide),BitVec.toNat_shiftLeft,Nat.shiftLeft_eq,Int.fdiv_eq_ediv_of_nonneg _ (by decide),IntKind.wrap_i32,IntKind.wrap_i64];have:=W.isLt;generalize W.toNat=q at *;show _=if((q % 16777216:Nat):Int)<8388608 then((q % 16777216:Nat):Int) else((q % 16777216:Nat):Int)-16777216
 simp only[Nat.reducePow,Nat.reduceSub,Int.reducePow];split<;>omega
theorem zH{o a b i:Int}{u:Bool}(ho:rg o)(ha:rg a)(hb:rg b)(hi:-65536<=i/\i<=65535):bI (aS 2 o a b 0 i u)=(2,o,a,b,0,i,u,()):=by
 obtain⟨h1,h2,h3⟩:=lD 1 (by decide) u (decide (i<0));generalize hW:aS 2 o a b 0 i u=W;unfold aS fD at hW;rw[if_neg (by decide),if_neg (by decide),if_pos rfl] at hW;simp only[kr] at hW;have w1:Gn W 30 2=1:=by rw[<- hW,ah _ _ (by decide) (by decide) (by decide),ah _ _ (by decide) (by decide) (by decide),ah _ _ (by decide) (by decide) (by decide),ah _ _ (by decide) (by decide) (by decide),bz _ _ (by decide) (by decide) (by decide)];exact h1
 have w2:Gn W 29 1=if u then 1 else 0:=by rw[<- hW,ah _ _ (by decide) (by decide) (by decide),ah _ _ (by decide) (by decide) (by decide),ah _ _ (by decide) (by decide) (by decide),ah _ _ (by decide) (by decide) (by decide),bz _ _ (by decide) (by decide) (by decide)];exact h2
 have w7:Gn W 28 1=if decide (i<0) then 1 else 0:=by rw[<- hW,ah _ _ (by decide) (by decide) (by decide),ah _ _ (by decide) (by decide) (by decide),ah _ _ (by decide) (by decide) (by decide),ah _ _ (by decide) (by decide) (by decide),bz _ _ (by decide) (by decide) (by decide)];exact h3
 have w3:Gn W 24 4=a:=by rw[<- hW,ah _ _ (by decide) (by decide) (by decide),ah _ _ (by decide) (by decide) (by decide),ah _ _ (by decide) (by decide) (by decide),gG _ (by decide) ha]
 have w4:Gn W 20 4=b:=by rw[<- hW,ah _ _ (by decide) (by decide) (by decide),ah _ _ (by decide) (by decide) (by decide),gG _ (by decide) hb]
 have w5:Gn W 16 4=o:=by rw[<- hW,ah _ _ (by decide) (by decide) (by decide),gG _ (by decide) ho]
 have w6:Gn W 0 16=i % 65536:=by rw[<- hW];exact Bl _ i (by decide)
 unfold bI;rw[w1,w2,w3,w4,w5,w6,w7,if_neg (by decide),if_pos rfl];have e:i % 65536-(if decide (i<0) then 1 else 0)*65536=i:=by
  by_cases h:i<0;·rw[decide_eq_true h,if_pos rfl];omega
  ·rw[decide_eq_false h,if_neg (by decide)];omega
 rw[e];cases u<;>simp
theorem Ij{o a b i:Int}(ho:0<=o/\o<4)(ha:rg a)(hb:rg b)(hi:-524288<=i/\i<=524287):bI (aS 5 o a b 0 i false)=(5,o,a,b,0,i,false,()):=by
 obtain⟨h1,h2,h3⟩:=lD 2 (by decide) (decide (2<=o)) (decide (Int.tmod o 2=1));generalize hW:aS 5 o a b 0 i false=W;unfold aS fD at hW;rw[if_neg (by decide),if_neg (by decide),if_neg (by decide),if_pos rfl] at hW;simp only[kr] at hW;have w1:Gn W 30 2=2:=by rw[<- hW,ah _ _ (by decide) (by decide) (by decide),ah _ _ (by decide) (by decide) (by decide),ah _ _ (by decide) (by decide) (by decide),bz _ _ (by decide) (by decide) (by decide)];exact h1
 have w2:Gn W 29 1=if decide (2<=o) then 1 else 0:=by rw[<- hW,ah _ _ (by decide) (by decide) (by decide),ah _ _ (by decide) (by decide) (by decide),ah _ _ (by decide) (by decide) (by decide),bz _ _ (by decide) (by decide) (by decide)];exact h2
 have w7:Gn W 28 1=if decide (Int.tmod o 2=1) then 1 else 0:=by rw[<- hW,ah _ _ (by decide) (by decide) (by decide),ah _ _ (by decide) (by decide) (by decide),ah _ _ (by decide) (by decide) (by decide),bz _ _ (by decide) (by decide) (by decide)];exact h3
 have w3:Gn W 24 4=a:=by rw[<- hW,ah _ _ (by decide) (by decide) (by decide),ah _ _ (by decide) (by decide) (by decide),gG _ (by decide) ha]
 have w4:Gn W 20 4=b:=by rw[<- hW,ah _ _ (by decide) (by decide) (by decide),gG _ (by decide) hb]
 have w6:sgV W 20=i:=by
  have e:Gn W 0 20=i % 1048576:=by rw[<- hW];exact Bl _ i (by decide)
  rw[Oc,e];split<;>omega
 have:o=0\/o=1\/o=2\/o=3:=by omega
 unfold bI;rw[w1,w2,w3,w4,w6,w7,if_neg (by decide),if_neg (by decide),if_pos rfl];rcases this with rfl|rfl|rfl|rfl<;>rfl
theorem Ii{o i:Int}{u:Bool}(ho:rg o)(hi:-8388608<=i/\i<=8388607):bI (aS 7 o 0 0 0 i u)=(7,o,0,0,0,i,u,()):=by
 obtain⟨h1,h2,h3⟩:=lD 3 (by decide) true u;generalize hW:aS 7 o 0 0 0 i u=W;unfold aS fD at hW;rw[if_neg (by decide),if_neg (by decide),if_neg (by decide),if_neg (by decide),if_neg (by decide)] at hW;simp only[kr] at hW;have w1:Gn W 30 2=3:=by rw[<- hW,ah _ _ (by decide) (by decide) (by decide),ah _ _ (by decide) (by decide) (by decide),bz _ _ (by decide) (by decide) (by decide)];exact h1
 have w2:Gn W 29 1=1:=by rw[<- hW,ah _ _ (by decide) (by decide) (by decide),ah _ _ (by decide) (by decide) (by decide),bz _ _ (by decide) (by decide) (by decide)];exact h2
 have w7:Gn W 28 1=if u then 1 else 0:=by rw[<- hW,ah _ _ (by decide) (by decide) (by decide),ah _ _ (by decide) (by decide) (by decide),bz _ _ (by decide) (by decide) (by decide)];exact h3
 have w3:Gn W 24 4=o:=by rw[<- hW,ah _ _ (by decide) (by decide) (by decide),gG _ (by decide) ho]
 have w6:sgV W 24=i:=by
  have e:Gn W 0 24=i % 16777216:=by rw[<- hW];exact Bl _ i (by decide)
  rw[Oe,e];split<;>omega
 unfold bI;rw[w1,w2,w3,w6,w7,if_neg (by decide),if_neg (by decide),if_neg (by decide),if_pos rfl];cases u<;>simp
theorem FN{k o a b c i:Int}{u:Bool}(h:bU k o a b c u)(hi:lg k o i u):bI (aS k o a b c i u)=(k,o,a,b,c,i,u,()):=by
 have z:rg 0:=⟨by decide,by decide⟩
 unfold lg at hi;have i0:k≠2->k≠5->k≠7->i=0:=fun h2 h5 h7=>by
  rcases hi with⟨h,_⟩|⟨h,_⟩|⟨h,_⟩|⟨_,_,_,h⟩;·exact absurd h h2
  ·exact absurd h h5
  ·exact absurd h h7
  ·exact h
 have hg:=h;cases h with
 |imm h1 h2 ha hb hu=>exact zH ⟨by omega,by omega⟩ ha hb (by omega)
 |movi ha=>exact zH z ha z (by omega)
 |mem h1 h2 ha hb=>exact Ij ⟨h1,h2⟩ ha hb (by omega)
 |jmp ho=>exact Ii ho (by omega)
 |reg h1 h2 ha hb hc hu=>rw[i0 (by decide) (by decide) (by decide)];exact jA hg
 |mov ha hc=>rw[i0 (by decide) (by decide) (by decide)];exact jA hg
 |hi ha=>rw[i0 (by decide) (by decide) (by decide)];exact jA hg
 |fl ha=>rw[i0 (by decide) (by decide) (by decide)];exact jA hg
 |br ho hc=>rw[i0 (by decide) (by decide) (by decide)];exact jA hg
theorem GV{k o a b c i:Int}{u:Bool}(h:bU k o a b c u)(hi:lg k o i u):Zam.g k o a b c i u=some (true,()):=by
 have hr:=FN h hi;have hk:=mi h;unfold Zam.g;generalize 1000+k.toNat+o.toNat+a.toNat+b.toNat+c.toNat+i.toNat=n;unfold Zam.f;rw[bZ,Pn];dsimp only;rw[decide_eq_true hk.1,decide_eq_true hk.2.1,if_pos (by decide),bZ,Pn];dsimp only;rw[decide_eq_true hk.2.2.1,decide_eq_true hk.2.2.2,if_pos (by decide),mq,Pn];dsimp only;rw[p9,Pn,hr];dsimp only;rw[if_neg (by simp)];simp only[dt,df,Zam.j10,bZ,Pn];have i0:k=1->i=0:=fun h1=>by unfold lg at hi;omega
 cases h with
 |reg h1 h2 ha hb hc hu=>
  rw[if_pos rfl,if_pos rfl,if_neg (by omega),if_neg (by omega)];cases u with
  |false=>rfl
  |true=>simp[hu rfl]
 |mov ha hc=>rw[i0 rfl];rfl
 |imm h1 h2 ha hb hu=>
  rw[if_neg (by decide),if_pos rfl,if_neg (by omega),if_neg (by omega)];cases u with
  |false=>rfl
  |true=>simp[hu rfl]
 |movi ha=>
  cases u with
  |false=>rfl
  |true=>
   have:0<=i:=by unfold lg at hi;simp at hi;omega
   show some (decide (0<=i),())=_;rw[decide_eq_true this]
 |hi ha=>rfl
 |fl ha=>rfl
 |mem h1 h2 ha hb=>rfl
 |br ho hc=>rfl
 |jmp ho=>rfl
theorem GX{k o a b c i:Int}{u:Bool}(h:Zam.g k o a b c i u=some (true,())):bU k o a b c u/\lg k o i u:=by
 unfold Zam.g at h;generalize 1000+k.toNat+o.toNat+a.toNat+b.toNat+c.toNat+i.toNat=n at h;unfold Zam.f at h;rw[bZ,Pn] at h;dsimp only at h;by_cases hk:1<=k/\k<=7
 case neg=>rw[if_neg (by simp;omega)] at h;cases h
 rw[if_pos (by simp[hk]),bZ,Pn] at h;dsimp only at h;by_cases ho:0<=o/\o<=15
 case neg=>rw[if_neg (by simp;omega)] at h;cases h
 rw[if_pos (by simp[ho]),mq,Pn] at h;dsimp only at h;rw[p9,Pn] at h;have s20:=Oc (aS k o a b c i u);have s24:=Oe (aS k o a b c i u);have r20:=fF (aS k o a b c i u) 0 (n:=20) (by decide);have r24:=fF (aS k o a b c i u) 0 (n:=24) (by decide);have r16:=fF (aS k o a b c i u) 0 (n:=16) (by decide);generalize hW:aS k o a b c i u=W at h s20 s24 r20 r24 r16;have g4:∀p,rg (Gn W p 4):=fun p=>fF W p (n:=4) (by decide)
 have g1:∀p,0<=Gn W p 1/\Gn W p 1<2:=fun p=>fF W p (n:=1) (by decide)
 split at h;·cases h
 ·rename_i he;simp only[Bool.not_eq_true',Bool.not_eq_false,Ps,Pw,beq_iff_eq,and_true] at he;obtain⟨e1,e2,e3,e4,e5,e6,e7⟩:=he;simp only[dt,df,Zam.j10,bZ,Pn] at h;unfold bI at e1 e2 e3 e4 e5 e6 e7;split at e1
  ·rename_i f0;rw[if_pos f0] at e2 e3 e4 e5 e6 e7;split at e1
   ·rename_i f1;rw[if_pos f1] at e2 e3 e4 e5 e6 e7;dsimp only at e1 e2 e3 e4 e5 e6 e7;have:=g1 28;subst e2 e4 e5 e7;have hk3:k=3\/k=4:=by omega
    rcases hk3 with rfl|rfl;·exact⟨.hi (e3 ▸ g4 _),.inr (.inr (.inr ⟨by decide,by decide,by decide,e6⟩))⟩
    ·exact⟨.fl (e3 ▸ g4 _),.inr (.inr (.inr ⟨by decide,by decide,by decide,e6⟩))⟩
   ·rename_i f1;rw[if_neg f1] at e2 e3 e4 e5 e6 e7;dsimp only at e1 e2 e3 e4 e5 e6 e7;subst e1;rw[if_pos rfl,if_pos rfl] at h;by_cases ho0:o=0
    ·subst ho0;rw[if_pos rfl] at h;by_cases hb0:b=0
     ·subst hb0;rw[if_pos rfl,if_pos (by decide)] at h;cases u with
      |false=>exact⟨.mov (e3 ▸ g4 _) (e5 ▸ g4 _),.inr (.inr (.inr ⟨by decide,by decide,by decide,e6⟩))⟩
      |true=>rw[if_neg (by decide)] at h;cases h
     ·rw[if_neg hb0] at h;cases h
    ·rw[if_neg ho0] at h;by_cases h11:11<o
     ·rw[if_pos h11] at h;cases h
     ·rw[if_neg h11] at h;refine⟨.reg (by omega) (by omega) (e3 ▸ g4 _) (e4 ▸ g4 _) (e5 ▸ g4 _) fun hu=>?_,.inr (.inr (.inr ⟨by decide,by decide,by decide,e6⟩))⟩;subst hu;simp at h;exact h
  ·rename_i f0;rw[if_neg f0] at e2 e3 e4 e5 e6 e7;split at e1
   ·rename_i f1;rw[if_pos f1] at e2 e3 e4 e5 e6 e7;dsimp only at e1 e2 e3 e4 e5 e6 e7;subst e1 e5;rw[if_neg (by decide),if_pos rfl] at h;by_cases ho0:o=0
    ·subst ho0;rw[if_pos rfl] at h;by_cases hb0:b=0
     ·subst hb0;exact⟨.movi (e3 ▸ g4 _),.inl ⟨rfl,by have:=g1 28;omega,by have:=g1 28;omega,fun _ hu=>by subst hu;simpa using h⟩⟩
     ·rw[if_neg hb0] at h;cases h
    ·rw[if_neg ho0] at h;by_cases h11:11<o
     ·rw[if_pos h11] at h;cases h
     ·rw[if_neg h11] at h;refine⟨.imm (by omega) (by omega) (e3 ▸ g4 _) (e4 ▸ g4 _) fun hu=>?_,.inl ⟨rfl,by have:=g1 28;omega,by have:=g1 28;omega,fun h0=>absurd h0 ho0⟩⟩;subst hu;simp at h;exact h
   ·rename_i f1;rw[if_neg f1] at e2 e3 e4 e5 e6 e7;split at e1
    ·rename_i f2;rw[if_pos f2] at e2 e3 e4 e5 e6 e7;dsimp only at e1 e2 e3 e4 e5 e6 e7;have q1:=g1 29;have q2:=g1 28;subst e1 e5 e7;exact⟨.mem (by omega) (by omega) (e3 ▸ g4 _) (e4 ▸ g4 _),.inr (.inl ⟨rfl,by rw[e6,s20];split<;>omega,by rw[e6,s20];split<;>omega⟩)⟩
    ·rename_i f2;rw[if_neg f2] at e2 e3 e4 e5 e6 e7;split at e1
     ·rename_i f3;rw[if_pos f3] at e2 e3 e4 e5 e6 e7;dsimp only at e1 e2 e3 e4 e5 e6 e7;subst e1 e3 e4 e5;exact⟨.jmp (e2 ▸ g4 _),.inr (.inr (.inl ⟨rfl,by rw[e6,s24];split<;>omega,by rw[e6,s24];split<;>omega⟩))⟩
     ·rename_i f3;rw[if_neg f3] at e2 e3 e4 e5 e6 e7;dsimp only at e1 e2 e3 e4 e5 e6 e7;subst e1 e3 e4;exact⟨.br (e2 ▸ g4 _) (e5 ▸ g4 _),.inr (.inr (.inr ⟨by decide,by decide,by decide,e6⟩))⟩
end Rv
namespace Rv
open Go
end Rv
namespace Rv
open Go
section
variable{W X:W32}
end
def xV(k o a b c i:Int)(u:Bool):Int×Int×Unit:=if I0P k o a b c u/\lg k o i u/\(0<=a/\a<16)/\(0<=b/\b<16)/\(0<=c/\c<16) then(((aS k o a b c i u).toNat:Int),0,()) else(0,1,())
theorem Bp(k o a b c i:Int)(u:Bool):(bU k o a b c u/\lg k o i u)↔I0P k o a b c u/\lg k o i u/\(0<=a/\a<16)/\(0<=b/\b<16)/\(0<=c/\c<16):=by
 constructor;·rintro⟨h,hi⟩;obtain⟨ha,hb,hc⟩:=OC h;exact⟨(DU ha hb hc).1 h,hi,ha,hb,hc⟩
 ·rintro⟨h,hi,ha,hb,hc⟩;exact⟨(DU ha hb hc).2 h,hi⟩
theorem Mx(k o a b c i:Int)(u:Bool):Zcm.g k o a b c i u=some (xV k o a b c i u):=by
 unfold xV;by_cases h:I0P k o a b c u/\lg k o i u/\(0<=a/\a<16)/\(0<=b/\b<16)/\(0<=c/\c<16)
 ·rw[if_pos h];obtain⟨h1,h2⟩:=(Bp k o a b c i u).2 h;unfold Zcm.g Zcm.f;rw[GV h1 h2,Pn];dsimp only;rw[if_neg (by decide),mq,Pn]
 ·rw[if_neg h];obtain⟨r,hr,_⟩:=GY k o a b c i u;have:r=false:=by
   cases r with
   |false=>rfl
   |true=>exact absurd ((Bp k o a b c i u).1 (GX hr)) h
  subst this;unfold Zcm.g Zcm.f;rw[hr,Pn];rfl
end Rv
namespace Rv
open Go
def xW(k o a b c i:Int)(u:Bool):Except Int (Int×Bool):=if(xV k o a b c i u).2.1=0 then .ok ((xV k o a b c i u).1,false) else .error (xV k o a b c i u).2.1
def Fz(lb:List Sym)(e:List Item)(low high:Int):Int×Int×Unit:=
 if(vOf lb e).2.2.1≠0 then(0,(vOf lb e).2.2.1,()) else if(vOf lb e).2.1≠0 then(0,27,()) else BI (IntKind.i64.wrap (IntKind.i32.wrap (vOf lb e).1)) (IntKind.i64.wrap (vOf lb e).1) low high
def xY(v pl:Int):Int:=IntKind.i64.wrap (IntKind.i32.wrap (IntKind.u32.wrap (IntKind.u32.wrap (v-IntKind.u32.wrap pl)-4)))
def JI(v ad pl:Int):Int×Int×Unit:=
 if ad≠1 then(0,27,()) else if Int.tmod (xY v pl) 4≠0\/IntKind.i64.wrap (Int.tdiv (xY v pl) 4) < -8388608\/8388608<=IntKind.i64.wrap (Int.tdiv (xY v pl) 4) then(0,28,())
 else(IntKind.i64.wrap (Int.tdiv (xY v pl) 4),0,())
def xN(n ad words:Int):Int:=if ad<0\/1<ad then 27 else if ad=1/\IntKind.i64.wrap (4*words)<IntKind.i64.wrap n then 28 else 0
abbrev Snt:=Int×Int×Int×Int×Int×Bool×List Item×Str×Unit
def mf(k o a b c:Int)(r:Int×Int×Unit)(u:Bool):Except Int (Int×Bool):=if r.2.1≠0 then .error r.2.1 else xW k o a b c r.1 u
def AC(lb:List Sym)(q:List Val)(fr wd:Int)(s:Snt)(pl:Int):Except Int (Int×Bool):=
 if s.1=2 then mf s.1 s.2.1 s.2.2.1 s.2.2.2.1 s.2.2.2.2.1 (Fz lb s.2.2.2.2.2.2.1 (if s.2.1=0/\s.2.2.2.2.2.1=true then 0 else -65536) 65535) s.2.2.2.2.2.1
 else if s.1=5 then mf s.1 s.2.1 s.2.2.1 s.2.2.2.1 s.2.2.2.2.1 (Fz lb s.2.2.2.2.2.2.1 (-524288) 524287) s.2.2.2.2.2.1
 else if s.1=7 then
  (if(vOf lb s.2.2.2.2.2.2.1).2.2.1≠0 then .error (vOf lb s.2.2.2.2.2.2.1).2.2.1 else mf s.1 s.2.1 s.2.2.1 s.2.2.2.1 s.2.2.2.2.1 (JI (vOf lb s.2.2.2.2.2.2.1).1 (vOf lb s.2.2.2.2.2.2.1).2.1 pl) s.2.2.2.2.2.1)
 else if s.1=8 then
  (if(vOf lb s.2.2.2.2.2.2.1).2.2.1≠0 then .error (vOf lb s.2.2.2.2.2.2.1).2.2.1
  else mf 5 0 s.2.2.1 13 0 (IntKind.i64.wrap (fr+IntKind.i64.wrap (4*(vX ((vOf lb s.2.2.2.2.2.2.1).1,(vOf lb s.2.2.2.2.2.2.1).2.1,()) q:Int))),xN (vOf lb s.2.2.2.2.2.2.1).1 (vOf lb s.2.2.2.2.2.2.1).2.1 wd,()) false)
 else if s.1=9 then
  (if(vOf lb s.2.2.2.2.2.2.1).2.2.1≠0 then .error (vOf lb s.2.2.2.2.2.2.1).2.2.1
  else if xN (vOf lb s.2.2.2.2.2.2.1).1 (vOf lb s.2.2.2.2.2.2.1).2.1 wd≠0 then .error (xN (vOf lb s.2.2.2.2.2.2.1).1 (vOf lb s.2.2.2.2.2.2.1).2.1 wd)
  else .ok ((vOf lb s.2.2.2.2.2.2.1).1,decide ((vOf lb s.2.2.2.2.2.2.1).2.1=1)))
 else xW s.1 s.2.1 s.2.2.1 s.2.2.2.1 s.2.2.2.2.1 0 s.2.2.2.2.2.1
abbrev WrT:=List Int×List Int×List Sym
def mR(r:WrT)(w:Int)(st:Bool):WrT:=(r.1++[w],if st=true then r.2.1++[(r.1.length:Int)] else r.2.1,r.2.2)
def lQ(lb:List Sym)(nm:Str)(y:List Sym):Except Int (List Sym):=
 if dB nm=false then .error 9 else if(dI nm lb).isSome=false then .error 25 else if qa y nm=true then .error 26 else .ok (rV y (nm,(dI nm lb).getD 0,()))
def nA(lb:List Sym)(q:List Val)(fr wd:Int)(s:Snt)(pl:Int)(r:WrT):Except Int WrT:=
 if s.1=0 then .ok r
 else if s.1=10 then(match lQ lb s.2.2.2.2.2.2.2.1 r.2.2 with | .error x=>.error x | .ok y=>.ok (r.1,r.2.1,y))
 else match AC lb q fr wd s pl with | .error x=>.error x | .ok w=>.ok (mR r w.1 w.2)
abbrev OZ:=Int×List Int×List Sym×List Val×Int×Int×List Int×List Int×List Sym×Unit
def vV(t:List Int)(lb:List Sym)(q:List Val)(fr wd:Int)(r:WrT):Except Int WrT->OZ
 | .error x=>(x,t,lb,q,fr,wd,r.1,r.2.1,r.2.2,())
 | .ok r'=>(0,t,lb,q,fr,wd,r'.1,r'.2.1,r'.2.2,())
theorem DJ(k o a b c i:Int)(u:Bool){x:Int}(h:xW k o a b c i u=.error x):x≠0:=by
 unfold xW at h;split at h;·cases h
 ·rename_i h1;cases h;exact h1
section
variable(t:List Int)(lb:List Sym)(q:List Val)(fr wd:Int)(r:WrT)
theorem vC(h1:r.1.length<=1000000)(h2:r.2.1.length<=1000000)(v ad:Int) :
  Zbi.g v ad t lb q fr wd r.1 r.2.1 r.2.2=some (t,lb,q,fr,wd,(mR r v (decide (ad=1))).1,(mR r v (decide (ad=1))).2.1,(mR r v (decide (ad=1))).2.2,()):=by
 unfold Zbi.g Zbi.f Zbi.j3 mR;simp only[dt];by_cases h:ad=1;·rw[if_pos h,if_pos (by simp;omega),if_pos (by simp;omega),if_pos h]
 ·rw[if_neg h,if_pos (by simp;omega),if_neg h]
theorem Gi(h1:r.1.length<=1000000)(h2:r.2.1.length<=1000000)(k o a b c i:Int)(u:Bool) :
  Zdp.g k o a b c i u t lb q fr wd r.1 r.2.1 r.2.2=some (vV t lb q fr wd r (match xW k o a b c i u with | .error x=>.error x | .ok w=>.ok (mR r w.1 w.2))):=by
 unfold Zdp.g Zdp.f xW;rw[Mx,Pn];simp only[dt];by_cases h:(xV k o a b c i u).2.1=0;·rw[if_pos h,if_pos h,vC t lb q fr wd r h1 h2,Pn];dsimp only[vV];rw[h];rfl
 ·rw[if_neg h,if_neg h];rfl
theorem Dw(v ad:Int):Zda.g v ad t lb q fr wd r.1 r.2.1 r.2.2=some (xN v ad wd,t,lb,q,fr,wd,r.1,r.2.1,r.2.2,()):=by
 unfold Zda.g Zda.f xN;simp only[dt,df];by_cases h1:ad<0;·rw[if_neg (by omega),if_pos (.inl h1)]
 ·rw[if_pos (by omega)];by_cases h2:1<ad
  ·rw[if_pos h2,if_pos (.inr h2)]
  ·rw[if_neg h2,if_neg (show ¬(ad<0\/1<ad) by omega)];by_cases h3:ad=1
   ·rw[if_pos h3];by_cases h4:IntKind.i64.wrap (4*wd)<IntKind.i64.wrap v
    ·rw[if_pos h4,if_pos ⟨h3,h4⟩]
    ·rw[if_neg h4,if_neg (fun h=>h4 h.2)]
   ·rw[if_neg h3,if_neg (fun h=>h3 h.1)]
theorem LG(v ad pl:Int):Zdq.g v ad pl=some (JI v ad pl):=by
 unfold Zdq.g Zdq.f JI;simp only[dt,df];rw[show IntKind.i64.wrap (IntKind.i32.wrap (IntKind.u32.wrap (IntKind.u32.wrap (v-IntKind.u32.wrap pl)-4)))=xY v pl from rfl];generalize xY v pl=d;generalize IntKind.i64.wrap (Int.tdiv d 4)=n;by_cases h1:ad=1
 ·by_cases h2:Int.tmod d 4=0
  ·by_cases h3:n < -8388608
   ·simp[h1,h2,h3]
   ·by_cases h4:8388608<=n
    ·simp[h1,h2,h3,h4]
    ·simp[h1,h2,h3,h4]
  ·simp[h1,h2]
 ·simp[h1]
theorem EI(hy:ib r.2.2)(hl:r.2.2.length<=1000000)(hlb:lb.length<=1000000)(nm:Str) :
  Zdo.g nm t lb q fr wd r.1 r.2.1 r.2.2=some (vV t lb q fr wd r (match lQ lb nm r.2.2 with | .error x=>.error x | .ok y=>.ok (r.1,r.2.1,y))):=by
 unfold Zdo.g Zdo.f lQ;rw[xZ lb nm (by omega),Pn,Ow r.2.2 nm hy hl,Pn,si,Pn];dsimp only;cases dB nm with
 |false=>rfl
 |true=>
  cases(dI nm lb).isSome with
  |false=>rfl
  |true=>
   cases hi:qa r.2.2 nm with
   |true=>rfl
   |false=>
    have hk:=Fh r.2.2 nm;have e:L.insertO r.2.2 (kS r.2.2 nm:Int) [(nm,(dI nm lb).getD 0,())]=some (rV r.2.2 (nm,(dI nm lb).getD 0,()),()):=by
     unfold L.insertO;rw[if_pos ⟨by omega,by omega,rfl,by omega⟩];rfl
    simp only[Bool.not_true,Bool.false_eq_true,if_false];rw[e];rfl
theorem LJ(hlb:lb.length<=1000000)(e:List Item)(he:e.length<=4611686018427387904)(low high:Int):Zap.g e lb low high=some (Fz lb e low high):=by
 obtain⟨v1,v2,x,h⟩:=Ec lb e;rw[Gb e lb low high v1 v2 x (by rw[FB lb (by omega) e he,h])];unfold Fz vOf;rw[h];rfl
theorem Ny(hlb:lb.length<=1000000)(e:List Item)(he:e.length<=4611686018427387904):Zah.g e lb=some (vOf lb e):=by
 rw[FB lb (by omega) e he,Ed]
theorem Jc(h1:r.1.length<=1000000)(h2:r.2.1.length<=1000000)(hy:ib r.2.2)(hl:r.2.2.length<=1000000)(hlb:lb.length<=1000000)(hq:q.length<=1000000)(s:Snt)(he:s.2.2.2.2.2.2.1.length<=4611686018427387904)(pl:Int) :
  Zal.g s.1 s.2.1 s.2.2.1 s.2.2.2.1 s.2.2.2.2.1 s.2.2.2.2.2.1 s.2.2.2.2.2.2.1 s.2.2.2.2.2.2.2.1 pl t lb q fr wd r.1 r.2.1 r.2.2=some (vV t lb q fr wd r (nA lb q fr wd s pl r)):=by
 obtain⟨k,o,a,b,c,u,e,nm,z⟩:=s;dsimp only at he⊢;unfold Zal.g;generalize 1000+_+_+_+_+_+_+_+_+_+_+_+_+_+_+_+_=n;have J32:∀(x k o a b c i:Int) (u:Bool),Zal.j32 n t lb q fr wd r.1 r.2.1 r.2.2 x k o a b c i u=some (vV t lb q fr wd r (match mf k o a b c (i,x,()) u with | .error x=>.error x | .ok w=>.ok (mR r w.1 w.2))):=by
  intro x k o a b c i u;unfold Zal.j32 mf;simp only[dt];by_cases hx:x=0;·rw[if_neg (by simpa using hx),if_neg (by simpa using hx),Gi t lb q fr wd r h1 h2,Pn]
  ·rw[if_pos (by simpa using hx),if_pos (by simpa using hx)];rfl
 have hof:=Ny lb hlb e he;obtain⟨v1,v2,x,hv⟩:∃v1 v2 x,vOf lb e=(v1,v2,x,()):=⟨(vOf lb e).1,(vOf lb e).2.1,(vOf lb e).2.2.1,rfl⟩
 have J1:Zcq.g k o a b c u e nm 0 t lb q fr wd r.1 r.2.1 r.2.2=some (v1,v2,k,o,a,b,c,u,e,nm,(),x,t,lb,q,fr,wd,r.1,r.2.1,r.2.2,()):=by
  unfold Zcq.g Zcq.f;rw[hof,Pn,hv]
 unfold Zal.f nA AC;simp only[dt,Zal.j12,LJ lb hlb e he,Pn,J1,J32,hv];by_cases k0:k=0;·rw[if_pos k0,if_pos k0];rfl
 rw[if_neg k0,if_neg k0];by_cases k10:k=10;·rw[if_pos k10,if_pos k10,EI t lb q fr wd r hy hl hlb,Pn]
 rw[if_neg k10,if_neg k10];by_cases k2:k=2
 ·rw[if_pos k2,if_pos k2];by_cases o0:o=0
  ·rw[if_pos o0];cases u with
   |true=>rw[if_pos rfl,if_pos ⟨o0,rfl⟩]
   |false=>rw[if_neg (by decide),if_neg (fun h=>by cases h.2)]
  ·rw[if_neg o0,if_neg (fun h=>o0 h.1)]
 rw[if_neg k2,if_neg k2];by_cases k5:k=5;·rw[if_pos k5,if_pos k5]
 rw[if_neg k5,if_neg k5];by_cases k7:k=7
 ·rw[if_pos k7,if_pos k7];by_cases hx:x=0
  ·rw[if_pos hx,if_neg (by simpa using hx),LG,Pn]
  ·rw[if_neg hx,if_pos (by simpa using hx)];unfold mf;dsimp only;rw[if_pos (by simpa using hx)]
 rw[if_neg k7,if_neg k7];by_cases k8:k=8
 ·rw[if_pos k8,if_pos k8];by_cases hx:x=0
  ·rw[if_pos hx,if_neg (by simpa using hx),Eh q v1 v2 hq,Pn,Dw t lb q fr wd r,Pn,J32]
  ·rw[if_neg hx,if_pos (by simpa using hx)];unfold mf;dsimp only;rw[if_pos (by simpa using hx)]
 rw[if_neg k8,if_neg k8];by_cases k9:k=9
 ·rw[if_pos k9,if_pos k9];unfold Zal.j29 Zal.j31;simp only[dt];by_cases hx:x=0
  ·rw[if_pos hx,if_neg (by simpa using hx),Dw t lb q fr wd r,Pn];dsimp only;by_cases ha:xN v1 v2 wd=0
   ·rw[if_pos ha,if_neg (by simpa using ha),vC t lb q fr wd r h1 h2,Pn,ha];rfl
   ·rw[if_neg ha,if_pos (by simpa using ha)];rfl
  ·rw[if_neg hx,if_neg hx,if_pos (by simpa using hx)];rfl
 rw[if_neg k9,if_neg k9];unfold mf;dsimp only;rw[if_neg (by decide)]
end
end Rv
namespace Rv
open Go
theorem qB:∀(l:List Ln) (i:Nat) (a:List Int) (lb:List Sym) (c:Nat) {x:Nat×Int},dm l i a lb c=.error x->x.2=26/\i<x.1/\x.1<=i+l.length
 |[],_,_,_,_,_,h=>by(rw[dm] at h;cases h)
 |y::r,i,a,lb,c,x,h=>by
  rw[dm] at h;split at h;·have:=qB r _ _ _ _ h;simp;omega
  ·split at h
   ·cases h;exact⟨rfl,by show i<i+1;omega,by simp⟩
   ·have:=qB r _ _ _ _ h;simp;omega
theorem zt(lb:List Sym):∀(l:List Ln) (i:Nat) (p:List Val) {x:Nat×Int},ed lb l i p=.error x->x.2≠0/\i<x.1/\x.1<=i+l.length/\(l.getD (x.1-1-i) zL).2.1.1=8/\(x.2=27\/x.2=(vOf lb (eL (l.getD (x.1-1-i) zL))).2.2.1)
 |[],_,_,_,h=>by(rw[ed] at h;cases h)
 |y::r,i,p,x,h=>by
  have step:∀{q},ed lb r (i+1) q=.error x->x.2≠0/\i<x.1/\x.1<=i+(y::r).length/\((y::r).getD (x.1-1-i) zL).2.1.1=8/\(x.2=27\/x.2=(vOf lb (eL ((y::r).getD (x.1-1-i) zL))).2.2.1):=fun {q} hq=>by
   obtain⟨h1,h2,h3,h4,h5⟩:=zt lb r (i+1) q hq;have e:x.1-1-i=(x.1-1-(i+1))+1:=by omega
   rw[e,List.getD_cons_succ];exact⟨h1,by omega,by simp;omega,h4,h5⟩
  rw[ed] at h;split at h
  ·rename_i h8;split at h
   ·rename_i hne;cases h;have e:i+1-1-i=0:=by omega
    dsimp only;rw[e,List.getD_cons_zero];exact⟨hne,by omega,by simp,h8,.inr rfl⟩
   ·split at h
    ·cases h;have e:i+1-1-i=0:=by omega
     dsimp only;rw[e,List.getD_cons_zero];exact⟨by decide,by omega,by simp,h8,.inl rfl⟩
    ·exact step h
  ·exact step h
theorem FI(w:List Ln):(∃x:Nat×Int,cz w=xg x.1 x.2/\x.2≠0/\0<x.1/\x.1<=w.length/\((∃y,dm w 0 [] [] 0=.error y)\/∃r,dm w 0 [] [] 0=.ok r/\ed r.2.1 w 0 []=.error x)) \/
  ∃r p,dm w 0 [] [] 0=.ok r/\ed r.2.1 w 0 []=.ok p/\cz w=Ay r.1 r.2.1 r.2.2 (.ok p):=by
 unfold cz FH;cases hp:dm w 0 [] [] 0 with
 |error x=>
  have:=qB _ _ _ _ _ hp;exact .inl ⟨x,rfl,by omega,by omega,by omega,.inl ⟨x,rfl⟩⟩
 |ok r=>
  dsimp only;cases hq:ed r.2.1 w 0 [] with
  |error x=>
   obtain⟨h1,h2,h3,_⟩:=zt _ _ _ _ hq;exact .inl ⟨x,rfl,h1,by omega,by omega,.inr ⟨r,rfl,hq⟩⟩
  |ok p=>exact .inr ⟨r,p,rfl,hq,rfl⟩
end Rv
namespace Rv
open Go
end Rv
namespace Rv
open Go
end Rv
namespace Rv
open Go
end Rv
namespace Rv
open Go
end Rv
namespace Rv
open Go
def kY(lb:List Sym)(q:List Val)(fr wd:Int)(t:List Int):List Ln->Nat->WrT->Except (Nat×Int) WrT
 |[],_,r=>.ok r
 |x::l,i,r=>match nA lb q fr wd x.2.1 (t.getD i 0) r with
  | .error e=>.error (i+1,e)
  | .ok r'=>kY lb q fr wd t l (i+1) r'
def kQ:List Val->WrT->WrT
 |[],r=>r
 |v::l,r=>kQ l (mR r v.1 (decide (v.2.1=1)))
abbrev AO:=List Int×List Int×List Sym×Int×Int×Unit
def uu(i:Int)(e:Int):AO:=([],[],[],i,e,())
def Bd(r:WrT):AO:=if 64<r.2.2.length then uu 0 2 else(r.1,r.2.1,r.2.2,0,0,())
def Kt(p:wE)(l:List Ln):AO:=
 if p.2.2.2.2.2.2.1≠0 then uu p.2.2.2.2.2.1 p.2.2.2.2.2.2.1
 else match kY p.2.1 p.2.2.1 p.2.2.2.1 p.2.2.2.2.1 p.1 l 0 ([],[],[]) with
  | .error x=>uu (x.1:Int) x.2
  | .ok r=>Bd (kQ p.2.2.1 r)
def jP(l:List Ln):AO:=Kt (cz l) l
theorem JE{k o a b c:Int}{v:Int×Int×Unit}{u:Bool}{x:Int}(h:mf k o a b c v u=.error x):x≠0:=by
 unfold mf at h;split at h;·rename_i h1;cases h;exact h1
 ·exact DJ _ _ _ _ _ _ _ h
theorem Li{lb:List Sym}{q:List Val}{fr wd:Int}{s:Snt}{pl x:Int}(h:AC lb q fr wd s pl=.error x):x≠0:=by
 unfold AC at h
 repeat' split at h
 all_goals first
  |exact JE h
  |exact DJ _ _ _ _ _ _ _ h
  |(cases h;assumption)
  |cases h
structure WOk (r:WrT) (i:Nat):Prop where
 w:r.1.length<=i
 s:r.2.1.length<=i
 y:r.2.2.length<=i
 o:ib r.2.2
theorem yw{r:WrT}{i:Nat}(h:WOk r i)(v:Int)(b:Bool):WOk (mR r v b) (i+1):=by
 refine⟨by have:=h.w;simp[mR];omega,?_,by have:=h.y;show r.2.2.length<=_;omega,h.o⟩;have:=h.s;unfold mR;dsimp only;split;·simp;omega
 ·omega
theorem GI{lb:List Sym}{nm:Str}{y y':List Sym}(h:lQ lb nm y=.ok y'):dB nm=true/\(dI nm lb).isSome=true/\qa y nm=false/\y'=rV y (nm,(dI nm lb).getD 0,()):=by
 unfold lQ at h;split at h;·cases h
 ·split at h
  ·cases h
  ·split at h
   ·cases h
   ·rename_i h1 h2 h3;cases h;exact⟨by simpa using h1,(Bool.not_eq_false _).mp h2,by simpa using h3,rfl⟩
theorem DY{lb:List Sym}{q:List Val}{fr wd:Int}{s:Snt}{pl:Int}{r r':WrT}{i:Nat}(hr:WOk r i)(h:nA lb q fr wd s pl r=.ok r'):WOk r' (i+1):=by
 unfold nA at h;split at h;·cases h;exact⟨by have:=hr.w;omega,by have:=hr.s;omega,by have:=hr.y;omega,hr.o⟩
 ·split at h
  ·split at h
   ·cases h
   ·rename_i y hy;cases h;obtain⟨_,_,h3,rfl⟩:=GI hy;exact⟨by have:=hr.w;show r.1.length<=_;omega,by have:=hr.s;show r.2.1.length<=_;omega,by have:=hr.y;show(rV _ _).length<=_;rw[MC];omega,Fb hr.o h3⟩
  ·split at h
   ·cases h
   ·cases h;exact yw hr _ _
theorem J5{lb:List Sym}{q:List Val}{fr wd:Int}{s:Snt}{pl x:Int}{r:WrT}(h:nA lb q fr wd s pl r=.error x):x≠0:=by
 unfold nA at h;split at h;·cases h
 ·split at h
  ·split at h
   ·rename_i e he;cases h;unfold lQ at he;split at he
    ·cases he;decide
    ·split at he
     ·cases he;decide
     ·split at he
      ·cases he;decide
      ·cases he
   ·cases h
  ·split at h
   ·rename_i e he;cases h;exact Li he
   ·cases h
theorem BQ:∀(l:List Val) {r:WrT} {i:Nat},WOk r i->WOk (kQ l r) (i+l.length)
 |[],_,_,h=>h
 |v::l,r,i,h=>by
  have:=BQ l (yw h v.1 (decide (v.2.1=1)));rw[PG,show i+(l.length+1)=i+1+l.length by omega];exact this
theorem BA{lb:List Sym}{q:List Val}{fr wd:Int}{t:List Int}:∀{l:List Ln}{i j:Nat}{r r':WrT},WOk r j->kY lb q fr wd t l i r=.ok r'->WOk r' (j+l.length)
 |[],_,_,_,_,h,e=>by cases e;exact h
 |x::l,i,j,r,r',h,e=>by
  rw[kY] at e;split at e;·cases e
  ·rename_i r1 h1;have:=BA (DY h h1) e;rw[PG,show j+(l.length+1)=j+1+l.length by omega];exact this
section
variable(t:List Int)(lb:List Sym)(q:List Val)(fr wd:Int)
abbrev zV:Val:=((0:Int),((0:Int),()))
theorem Nz{q:List Val}{i:Nat}(h:i<q.length):q.drop i=q.getD i zV::q.drop (i+1):=by
 rw[P5 h,PM,PI h];rfl
theorem O1(hq:q.length<=1000000)(n:Nat)(d e:List Int)(y:List Sym):∀(m i j:Nat) (r:WrT),i<=q.length->q.length-i<m->WOk r j->j+q.length<=1000000+i ->
  Zay.l14 n m q (q.length:Int) (i:Int) d e y t lb q fr wd r.1 r.2.1 r.2.2=some (Bd (kQ (q.drop i) r)):=by
 intro m
 induction m with
 |zero=>intro i _ _ _ h;omega
 |succ m ih=>
  intro i j r hi hm hr hj;rw[Zay.l14];simp only[dt,PN];by_cases h:i<q.length;·have h1:=hr.w;have h2:=hr.s;rw[if_pos (by omega),if_pos (by omega),Nz h,kQ,vC t lb q fr wd r (by omega) (by omega),Pn];dsimp only;rw[w64 (by omega),show(i:Int)+1=((i+1:Nat):Int) by omega];exact ih (i+1) (j+1) _ (by omega) (by omega) (yw hr _ _) (by omega)
  ·obtain rfl:i=q.length:=by omega
   rw[if_neg (by omega),Qe,kQ];unfold Bd uu;by_cases h6:64<r.2.2.length;·rw[if_pos (by omega),if_pos h6]
   ·rw[if_neg (by omega),if_neg h6]
theorem al7(l:List Ln)(hl:l.length<=1000)(he:∀x∈l,(eL x).length<=4611686018427387904)(ht:t.length=l.length)(hlb:lb.length<=1000000)(hq:q.length<=1000)(n:Nat)(hn2:q.length<n)(d e:List Int)(y:List Sym) :
  ∀(m i:Nat) (r:WrT),i<=l.length->l.length-i<m->WOk r i ->
  Zay.l7 n m l (l.length:Int) (i:Int) d e y t lb q fr wd t lb q fr wd r.1 r.2.1 r.2.2=some (match kY lb q fr wd t (l.drop i) i r with | .error x=>uu (x.1:Int) x.2 | .ok r=>Bd (kQ q r)):=by
 intro m
 induction m with
 |zero=>intro i _ _ h;omega
 |succ m ih=>
  intro i r hi hm hr;rw[Zay.l7];simp only[dt,PN];by_cases h:i<l.length
  ·have h1:=hr.w;have h2:=hr.s;have h3:=hr.y;rw[if_pos (by omega),if_pos (by omega),if_pos (by omega),xU h,kY];have hx:=he _ (DR h);generalize l.getD i zL=x at hx⊢;rw[Jc t lb q fr wd r (by omega) (by omega) hr.o (by omega) hlb (by omega) x.2.1 hx,Pn];cases hA:nA lb q fr wd x.2.1 (t.getD i 0) r with
   |error e=>
    refine(if_pos (show(vV t lb q fr wd r (Except.error e)).1≠0 from J5 hA)).trans ?_;rw[w64 (by omega),show(i:Int)+1=((i+1:Nat):Int) by omega];rfl
   |ok r'=>
    refine(if_neg (show ¬((vV t lb q fr wd r (Except.ok r')).1≠0) from fun h=>h rfl)).trans ?_;rw[w64 (by omega),show(i:Int)+1=((i+1:Nat):Int) by omega];exact ih (i+1) r' (by omega) (by omega) (DY hr hA)
  ·obtain rfl:i=l.length:=by omega
   rw[if_neg (by omega),Qe,kY];have:=O1 t lb q fr wd (by omega) n d e y n 0 l.length r (by omega) (by omega) hr (by omega);rw[PZ] at this;exact this
end
theorem uW(l:List Ln)(h:(cz l).2.2.2.2.2.2.1=0):(cz l).1.length=l.length/\(cz l).2.1.length<=l.length/\(cz l).2.2.1.length<=l.length /\
  ∃r p,dm l 0 [] [] 0=.ok r/\ed r.2.1 l 0 []=.ok p/\r.2.2+p.length<=1024/\cz l=(r.1,r.2.1,p,((4*r.2.2:Nat):Int),((r.2.2+p.length:Nat):Int),0,0,()):=by
 rcases FI l with⟨x,hx,h0,_⟩|⟨r,p,h1,h2,h3⟩;·rw[hx] at h;exact absurd h h0
 ·have a:=lJ l 0 [] [] 0 h1;have b:=nC r.2.1 l 0 [] h2;unfold Ay at h3;dsimp only at h3;by_cases hc:1024<r.2.2+p.length
  ·rw[if_pos hc] at h3;rw[h3] at h;exact absurd h (by decide)
  ·rw[if_neg hc] at h3;rw[h3];simp only[P6,Nat.zero_add] at a b;exact⟨a.1,a.2.1,b,r,p,h1,h2,by omega,rfl⟩
theorem Gl(l:List Ln)(hl:l.length<=1000)(he:∀x∈l,(eL x).length<=4611686018427387904):Zay.g l=some (jP l):=by
 unfold Zay.g;generalize hn:1000+l.length=n;unfold Zay.f jP Kt;rw[M3 l (by omega) he,Pn];simp only[dt];by_cases h:(cz l).2.2.2.2.2.2.1=0;·obtain⟨h1,h2,h3,_⟩:=uW l h;rw[if_neg (by simpa using h),if_neg (by simpa using h)];have:=al7 (cz l).1 (cz l).2.1 (cz l).2.2.1 (cz l).2.2.2.1 (cz l).2.2.2.2.1 l hl he h1 (by omega) (by omega) n (by omega) [] [] [] n 0 ([],[],[]) (by omega) (by omega) ⟨Px _,Px _,Px _,List.Pairwise.nil⟩;rw[PZ] at this;exact this
 ·rw[if_pos (by simpa using h),if_pos (by simpa using h)];rfl
end Rv
namespace Rv
open Go
theorem Nb:Zdr.g=some (true,()):=by decide +kernel
end Rv
namespace Rv
open Go
theorem OA(s:Str)(hs:s.length<=9223372036854775807):Zcg.g s=some (s.take 500,()):=by
 unfold Zcg.g Zcg.f;have hmn:mn (s.length:Int) 500=((min s.length 500:Nat):Int):=by unfold mn;split<;>omega
 rw[hmn,if_pos (by omega),PN,PZ];rcases Nat.le_total s.length 500 with h|h;·rw[Nat.min_eq_left h,List.take_length,List.take_of_length_le h]
 ·rw[Nat.min_eq_right h]
theorem parsed(s:Str)(hs:s.length<=4096):(cO s).1.length<=s.length/\∀x∈(cO s).1,wW x:=by
 rw[sM hs];have hl:=(mG s).1;cases h:bB 0 (bV s) with
 |error e=>exact⟨Nat.zero_le _,fun x hx=>by cases hx⟩
 |ok l=>
  have:=vG _ _ _ h;refine⟨by show([]++l).length<=_;rw[Qg];omega,fun x hx=>pU _ _ _ h x (by simpa[sK] using hx)⟩
def lq(s:Str):AO:=if(cO s).2.2.1≠0 then uu (cO s).2.1 (cO s).2.2.1 else jP (cO s).1
theorem Es(s:Str)(hs:s.length<=1000000)(h1:(cO s).1.length<=1000)(h2:∀x∈(cO s).1,(eL x).length<=4611686018427387904):Zbj.g s=some (lq s):=by
 unfold Zbj.g Zbj.f lq;rw[zB s hs,Pn];simp only[dt];by_cases h:(cO s).2.2.1=0;·rw[if_neg (by simpa using h),if_neg (by simpa using h),Gl _ h1 h2,Pn]
 ·rw[if_pos (by simpa using h),if_pos (by simpa using h)];rfl
theorem NE{x:Ln}(h:wW x):(eL x).length<=4611686018427387904:=by
 obtain⟨_,t,ht⟩:=h;have:(eL x).length<=64:=(zg ht).1;omega
theorem II(s:Str)(hs:s.length<=600):Zbj.g s=some (lq s):=by
 obtain⟨h1,h2⟩:=parsed s (by omega);exact Es s (by omega) (by omega) fun x hx=>NE (h2 x hx)
theorem LK(l:List Ln)(hl:l.length<=1000):(jP l).1.length<=10000/\(jP l).2.1.length<=10000/\(jP l).2.2.1.length<=10000:=by
 unfold jP Kt;by_cases h:(cz l).2.2.2.2.2.2.1=0
 ·obtain⟨h1,h2,h3,_⟩:=uW l h;rw[if_neg (by simpa using h)];cases hw:kY (cz l).2.1 (cz l).2.2.1 (cz l).2.2.2.1 (cz l).2.2.2.2.1 (cz l).1 l 0 ([],[],[]) with
  |error x=>exact⟨Nat.zero_le _,Nat.zero_le _,Nat.zero_le _⟩
  |ok r=>
   have w1:=BA (j:=0) (r:=([],[],[])) ⟨Px _,Px _,Px _,List.Pairwise.nil⟩ hw;have w2:=BQ (cz l).2.2.1 w1;have a:=w2.w;have b:=w2.s;have c:=w2.y;unfold Bd;dsimp only;split;·exact⟨Nat.zero_le _,Nat.zero_le _,Nat.zero_le _⟩
   ·exact⟨by show(kQ _ r).1.length<=_;omega,by show(kQ _ r).2.1.length<=_;omega,by show(kQ _ r).2.2.length<=_;omega⟩
 ·rw[if_pos (by simpa using h)];exact⟨Nat.zero_le _,Nat.zero_le _,Nat.zero_le _⟩
end Rv
namespace Rv
open Go
theorem Oz(a:List Int)(ha:a.length<=1000000):Zbx.g a a=some (true,()):=by
 have loop:∀(n m i:Nat),i<=a.length->a.length-i<m->Zbx.l4 n m a a (a.length:Int) (i:Int)=some (true,()):=by
  intro n m
  induction m with
  |zero=>intro i _ h;omega
  |succ m ih=>
   intro i hi hm;rw[Zbx.l4];simp only[dt];by_cases h:i<a.length;·rw[if_pos (by omega),if_pos (by omega),if_pos (by omega),if_neg (by simp),w64 (by omega)];exact ih (i+1) (by omega) (by omega)
   ·rw[if_neg (by omega)]
 unfold Zbx.g Zbx.f;rw[if_neg (by simp)];exact loop _ _ 0 (by omega) (by omega)
theorem Ox(a:List Int)(ha:a.length<=1000000):Zby.g a a=some (true,()):=by
 have loop:∀(n m i:Nat),i<=a.length->a.length-i<m->Zby.l4 n m a a (a.length:Int) (i:Int)=some (true,()):=by
  intro n m
  induction m with
  |zero=>intro i _ h;omega
  |succ m ih=>
   intro i hi hm;rw[Zby.l4];simp only[dt];by_cases h:i<a.length;·rw[if_pos (by omega),if_pos (by omega),if_pos (by omega),if_neg (by simp),w64 (by omega)];exact ih (i+1) (by omega) (by omega)
   ·rw[if_neg (by omega)]
 unfold Zby.g Zby.f;rw[if_neg (by simp)];exact loop _ _ 0 (by omega) (by omega)
theorem Oy(a:List Sym)(ha:a.length<=1000000):Zbz.g a a=some (true,()):=by
 have loop:∀(n m i:Nat),i<=a.length->a.length-i<m->Zbz.l4 n m a a (a.length:Int) (i:Int)=some (true,()):=by
  intro n m
  induction m with
  |zero=>intro i _ h;omega
  |succ m ih=>
   intro i hi hm;rw[Zbz.l4];simp only[dt];by_cases h:i<a.length;·rw[if_pos (by omega),if_pos (by omega),if_pos (by omega),if_neg (by simp),w64 (by omega)];exact ih (i+1) (by omega) (by omega)
   ·rw[if_neg (by omega)]
 unfold Zbz.g Zbz.f;rw[if_neg (by simp)];exact loop _ _ 0 (by omega) (by omega)
theorem OJ(a b:List Int)(y:List Sym)(ha:a.length<=1000000)(hb:b.length<=1000000)(hy:y.length<=1000000):Zcr.g a b y a b y=some (true,()):=by
 unfold Zcr.g Zcr.f;rw[Oz a ha,Pn,if_pos rfl,Ox b hb,Pn,if_pos rfl,Oy y hy];rfl
end Rv
namespace Rv
open Go
theorem asame_wf{a:Str}(h:a.length<=maxLen/\True):rivetlaw21_AsmSame.g a=some (true,()):=by
 have hl:(a.take 500).length<=500:=by rw[PY];omega
 unfold rivetlaw21_AsmSame.g;generalize hN:1000+a.length=n;unfold rivetlaw21_AsmSame.f;rw[Nb,Pn,OA a (OW h.1),Pn];generalize a.take 500=s at hl;obtain⟨p1,p2⟩:=parsed s (by omega);dsimp only;rw[zB s (by omega),Pn];simp only[dt];by_cases he:(cO s).2.2.1=0
 ·obtain⟨r,hr,hrl,hb,hag⟩:=again s hl he;have hsrc:lq s=jP (r.map GLn.ln):=by unfold lq;rw[if_neg (by simpa using he),hr]
  have hgood:∀x∈r.map GLn.ln,(eL x).length<=4611686018427387904:=fun x hx=>by
   obtain⟨y,_,rfl⟩:=PQ.1 hx;have:(eL y.ln).length<=64:=(zg y.hg).1;omega
  obtain⟨q1,q2,q3⟩:=LK (r.map GLn.ln) (by rw[PU];omega);have hb2:Zbj.g (txL r)=some (lq (txL r)):=by
   refine Es _ (by omega) ?_ ?_
   ·rcases hag with g|⟨k,g⟩
    ·rw[g];simp;omega
    ·rw[g];exact Nat.zero_le _
   ·rcases hag with g|⟨k,g⟩
    ·rw[g];exact hgood
    ·rw[g];intro x hx;cases hx
  have hsame:=OJ (jP (r.map GLn.ln)).1 (jP (r.map GLn.ln)).2.1 (jP (r.map GLn.ln)).2.2.1 (by omega) (by omega) (by omega);rw[if_neg (by simpa using he),Pn];dsimp only;rw[II s (by omega),Pn,hr,Gl _ (by rw[PU];omega) hgood,Pn,yG r (by omega),Pn];dsimp only;rw[hb2,Pn,hsrc,if_pos trivial,hsame,Pn,if_pos rfl,if_pos rfl,if_pos rfl,if_pos rfl];rcases hag with g|⟨k,g⟩
  ·have e:lq (txL r)=jP (r.map GLn.ln):=by unfold lq;rw[g];rfl
   rw[e];by_cases h24:(jP (r.map GLn.ln)).2.2.2.2.1=24;·rw[if_neg (by simpa[df] using h24)]
   ·rw[if_pos (by simpa[df] using h24),if_pos rfl,if_pos rfl,hsame,Pn]
  ·have e:(lq (txL r)).2.2.2.2.1=24:=by unfold lq;rw[g];rfl
   rw[e,if_neg (by simp)]
 ·rw[if_pos (by simpa using he),Pn];dsimp only;rw[II s (by omega),Pn,if_pos trivial];have e:(lq s).2.2.2.2.1=(cO s).2.2.1:=by unfold lq;rw[if_pos (by simpa using he)];rfl
  rw[e];simp
end Rv
