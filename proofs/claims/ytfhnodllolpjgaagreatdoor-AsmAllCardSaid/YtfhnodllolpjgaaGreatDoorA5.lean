/- Texts put together. -/
import Derived.Test.YtfhnodllolpjgaaGreatDoorA4
import Derived.Test.YtfhnodllolpjgaaGreatDoorA1
import Derived.Test.YtfhnodllolpjgaaGreatDoorA2
import Derived.Test.YtfhnodllolpjgaaGreatDoorA3
set_option linter.all false
namespace Rv
open Go
def pk(kd:Int)(l:List az)(p:Nat)(e:Int):Str:=if e=0/\p<l.length/\(l.getD p aT).1=kd then(l.getD p aT).2.2.1 else[]
def chk(ok:Bool)(e:Int):Int:=if ok=false/\e=0 then 22 else e
theorem DV(kd:Int)(l:List az)(p:Nat)(e:Int):Zds.g kd l p e=some (pk kd l p e,l,(p:Int),e,()):=by
 unfold Zds.g Zds.f pk;simp only[dt,df,PG];by_cases h:e=0
 ·rw[if_pos (by simp[h])];by_cases hp:p<l.length
  ·rw[if_pos (by omega),if_pos (by omega)];by_cases hk:(l.getD p aT).1=kd
   ·rw[if_neg (by simpa using hk),if_pos (by omega),if_pos ⟨h,hp,hk⟩]
   ·rw[if_pos (by simpa using hk),if_neg (fun g=>hk g.2.2)]
  ·rw[if_neg (by omega),if_neg (fun g=>hp g.2.1)]
 ·rw[if_neg (by simp[h]),if_neg (fun g=>h g.1)]
theorem uE(kd:Int)(l:List az)(p:Nat)(e:Int)(hp:p<=9000000):Zck.g kd l p e=some (pk kd l p e,l,((p+1:Nat):Int),e,()):=by
 unfold Zck.g Zck.f;rw[DV,Pt];dsimp only;rw[w64 (by omega)];rfl
theorem fM(ok:Bool)(l:List az)(p:Int)(e:Int):Zbf.g ok l p e=some (l,p,chk ok e,()):=by
 unfold Zbf.g Zbf.f chk;cases ok
 ·by_cases h:e=0
  ·rw[if_pos (show(!false)=true from rfl),if_pos (by simp[h]),if_pos ⟨rfl,h⟩]
  ·rw[if_pos (show(!false)=true from rfl),if_neg (by simp[h]),if_neg (fun g=>h g.2)]
 ·rw[if_neg (by decide),if_neg (fun g=>by cases g.1)]
theorem Hg{l:List az}(hl:∀t∈l,t.2.2.1.length<=1000000)(kd:Int)(p:Nat)(e:Int):(pk kd l p e).length<=1000000:=by
 unfold pk;split;·rename_i h;exact hl _ (kY h.2.1)
 ·simp
def chK(l:List az)(p:Nat)(e:Int)(s:Sm):Int:=
 if s.k=1/\((aQ (pk 1 l p e)).2=false\/(s.u=true/\s.o=0)) then 2 else if s.k=7/\(aQ (pk 1 l p e)).2=true then 6 else s.k
abbrev smR(l:List az)(p:Nat)(e:Int)(s:Sm):List az×Int×Int×Int×Int×Int×Int×Int×Bool×List Item×Str×Unit:=(l,(p:Int),e,s.k,s.o,s.a,s.b,s.c,s.u,s.e,s.nm,())
theorem Gi{l:List az}(hl:∀t∈l,t.2.2.1.length<=1000000)(p:Nat)(e:Int)(s:Sm):Zel.g l p e s.k s.o s.a s.b s.c s.u s.e s.nm=some (smR l p e { s with k:=chK l p e s }):=by
 unfold Zel.g Zel.f chK;rw[DV,Pt];dsimp only;rw[H7 _ (Hg hl 1 p e),Pt];dsimp only;generalize (aQ (pk 1 l p e)).2=is;simp only[dt];by_cases h1:s.k=1
 ·rw[if_pos h1];cases is
  ·rw[if_neg (by decide),if_pos ⟨h1,.inl rfl⟩]
  ·rw[if_pos (by decide)];by_cases hu:s.u=true
   ·rw[if_pos hu];by_cases ho:s.o=0
    ·rw[if_pos ho,if_pos ⟨h1,.inr ⟨hu,ho⟩⟩]
    ·rw[if_neg ho,if_neg (by omega),if_neg (fun g=>by rcases g.2 with g|g;cases g;exact ho g.2),if_neg (fun g=>by omega)]
   ·rw[if_neg hu,if_neg (by omega),if_neg (fun g=>by rcases g.2 with g|g;cases g;exact hu g.1),if_neg (fun g=>by omega)]
 ·have hm:(if s.k=1/\(is=false\/(s.u=true/\s.o=0)) then(2:Int) else if s.k=7/\is=true then 6 else s.k)=if s.k=7/\is=true then 6 else s.k:=if_neg (fun g=>h1 g.1)
  rw[if_neg h1,hm];by_cases h7:s.k=7
  ·rw[if_pos h7];cases is
   ·rw[if_neg (by decide),if_neg (fun g=>by cases g.2)]
   ·rw[if_pos rfl,if_pos ⟨h7,rfl⟩]
  ·have hm2:(if s.k=7/\is=true then(6:Int) else s.k)=s.k:=if_neg (fun g=>h7 g.1);rw[if_neg h7,hm2]
def rdE(l:List az)(p:Nat)(e:Int)(s:Sm):Nat×Int×Sm:=if e=0 then((dM l p).2.1.toNat,(dM l p).2.2.1,{ s with e:=(dM l p).1 }) else(p,e,s)
def rd(l:List az)(p:Nat)(e:Int)(s:Sm):Od->Nat×Int×Sm
 | .A=>(p+1,chk (aQ (pk 1 l p e)).2 e,{ s with a:=(aQ (pk 1 l p e)).1 })
 | .B=>(p+1,chk (aQ (pk 1 l p e)).2 e,{ s with b:=(aQ (pk 1 l p e)).1 })
 | .C=>(p+1,chk (aQ (pk 1 l p e)).2 e,{ s with c:=(aQ (pk 1 l p e)).1 })
 | .E=>rdE l p e s
 | .Q=>rdE l (p+1) (chk (decide (pk 3 l p e=[61])) e) s
 | .N=>(p+1,chk (bW (pk 1 l p e)) e,{ s with nm:=pk 1 l p e })
abbrev smO(l:List az)(r:Nat×Int×Sm):=smR l r.1 r.2.1 r.2.2
theorem sU(l:List az)(p:Nat):(dM l p).2.1=((dM l p).2.1.toNat:Int)/\(dM l p).2.1.toNat<=l.length:=by
 unfold dM;have hg:=jB (bM l 9) p;cases hx:xS l (pF l 9) p with
 |error e=>exact⟨rfl,Nat.zero_le _⟩
 |ok r=>
  rw[hx] at hg;have:=hg.le;dsimp only;split;·exact⟨rfl,Nat.zero_le _⟩
  ·exact⟨by dsimp only;omega,by dsimp only;omega⟩
section
variable{l:List az}(hl0:l.length<=1000000)(hl:∀t∈l,t.2.2.1.length<=1000000)
include hl0 in
theorem Lj(n p:Nat)(e:Int)(s:Sm):Zby.j2 n l p e s.k s.o s.a s.b s.c s.u s.e s.nm=some (smO l (rdE l p e s)):=by
 unfold Zby.j2 rdE;simp only[dt];by_cases h:e=0;·rw[if_pos h,if_pos h,He l hl0 p,Pt];have:=(sU l p).1;show some (l,(dM l p).2.1,_)=some (l,((dM l p).2.1.toNat:Int),_);rw[<- this]
 ·rw[if_neg h,if_neg h]
include hl in
theorem ym(p:Nat)(hp:p<=9000000)(e:Int)(s:Sm)(d:Od)(f:Fn)(hd:(d=.A/\f=K.atA)\/(d=.B/\f=K.atB)\/(d=.C/\f=K.atC)):Zdt.g f l p e s.k s.o s.a s.b s.c s.u s.e s.nm=some (smO l (rd l p e s d)):=by
 unfold Zdt.g Zdt.f;rw[uE 1 l p e hp,Pt];dsimp only;rw[H7 _ (Hg hl 1 p e),Pt];dsimp only;rw[fM,Pt];dsimp only;rcases hd with⟨rfl,rfl⟩|⟨rfl,rfl⟩|⟨rfl,rfl⟩;·rw[if_pos rfl];rfl
 ·rw[if_neg (by decide),if_pos rfl];rfl
 ·rw[if_neg (by decide),if_neg (by decide),if_pos rfl];rfl
include hl0 in
theorem DL(p:Nat)(hp:p<=9000000)(e:Int)(s:Sm):Zby.g [] l p e s.k s.o s.a s.b s.c s.u s.e s.nm=some (smO l (rd l p e s .E))/\Zby.g [61] l p e s.k s.o s.a s.b s.c s.u s.e s.nm=some (smO l (rd l p e s .Q)):=by
 constructor;·unfold Zby.g Zby.f;rw[if_neg (by decide)];exact Lj hl0 _ p e s
 ·unfold Zby.g Zby.f;rw[if_pos (by decide),uE 3 l p e hp,Pt];dsimp only;rw[fM,Pt];exact Lj hl0 _ (p+1) _ s
theorem MK(p:Nat)(hp:p<=9000000)(e:Int)(s:Sm):Zem.g l p e s.k s.o s.a s.b s.c s.u s.e s.nm=some (smO l (rd l p e s .N)):=by
 unfold Zem.g Zem.f;rw[uE 1 l p e hp,Pt];dsimp only;rw[yU,Pt];dsimp only;rw[fM,Pt];rfl
def ak(l:List az)(op:Int)(many i p:Nat)(e:Int)(s:Sm):Nat×Int×Sm:=
 let p1:=if 0<i then p+1 else p
 let e1:=if 0<i then chk (decide (pk 3 l p e=[44])) e else e
 let s1:=if i+1=many then { s with k:=chK l p1 e1 s } else s
 match (odL s1.k op)[i]? with
 |some d=>rd l p1 e1 s1 d
 |none=>(p1,e1,s1)
def bQ(l:List az)(op:Int)(many:Nat):Nat->Nat->Nat×Int×Sm->Nat×Int×Sm
 |0,_,r=>r
 |m+1,i,r=>bQ l op many m (i+1) (ak l op many i r.1 r.2.1 r.2.2)
abbrev PR:=Str×Int×Int×Int×Int×Int×Bool×List Item×Str×Int×Unit
def ni(lb:Str)(e:Int)(s:Sm):PR:=if e≠0 then([],0,0,0,0,0,false,[],[],e,()) else(lb,s.k,s.o,s.a,s.b,s.c,s.u,s.e,s.nm,0,())
def iO(l:List az)(lb:Str)(r:Nat×Int×Sm):PR:=ni lb (chk (decide (l.length<=r.1)) r.2.1) r.2.2
theorem oH(p:Nat)(e:Int)(s:Sm)(op:Int):(odL (chK l p e s) op).length=(odL s.k op).length:=by
 unfold chK;split;·rename_i h;rw[h.1];unfold odL;split<;>(first|contradiction|skip)<;>simp<;>split<;>rfl
 ·split
  ·rename_i h;rw[h.1];rfl
  ·rfl
theorem Pn(p:Nat)(e:Int)(s:Sm)(d:Od):(rd l p e s d).2.2.k=s.k:=by
 have h:∀p e,(rdE l p e s).2.2.k=s.k:=fun p e=>by unfold rdE;split<;>rfl
 cases d<;>first|rfl|exact h _ _
theorem Po(p:Nat)(e:Int)(s:Sm)(d:Od):(rd l p e s d).1<=max (p+1) l.length:=by
 have h:∀p e,(rdE l p e s).1<=max p l.length:=fun p e=>by
  unfold rdE;have:=(sU l p).2;split<;>dsimp only<;>omega
 cases d with
 |A=>show p+1<=_;omega
 |B=>show p+1<=_;omega
 |C=>show p+1<=_;omega
 |N=>show p+1<=_;omega
 |E=>have:=h p e;show(rdE l p e s).1<=_;omega
 |Q=>exact h (p+1) _
theorem Ox(op:Int)(many i p:Nat)(e:Int)(s:Sm):(odL (ak l op many i p e s).2.2.k op).length=(odL s.k op).length:=by
 unfold ak;dsimp only;split
 ·rw[Pn];split
  ·exact oH _ _ s op
  ·rfl
 ·dsimp only;split
  ·exact oH _ _ s op
  ·rfl
theorem Oy(op:Int)(many i p:Nat)(e:Int)(s:Sm):(ak l op many i p e s).1<=max (p+2) l.length:=by
 unfold ak;dsimp only;generalize hp1:(if 0<i then p+1 else p)=p1;have h1:p1<=p+1:=by rw[<- hp1];split<;>omega
 generalize (if 0<i then chk (decide (pk 3 l p e=[44])) e else e)=e1;split;·have:=Po (l:=l) p1 e1 (if i+1=many then { s with k:=chK l p1 e1 s } else s) ‹Od›;omega
 ·dsimp only;omega
include hl0 hl in
theorem NQ(n:Nat)(rl)(lb:Str)(op:Int)(many i:Nat)(p:Nat)(hp:p<=9000000)(e:Int)(s:Sm)(d:Od)(hd:(odL s.k op)[i]?=some d) :
  Zac.j19 n rl l lb op (many:Int) (i:Int) (many:Int) (i:Int) s.k s.o s.a s.b s.c s.u s.e s.nm l p e =
   Zac.j20 n rl l lb op (many:Int) (many:Int) (i:Int) (rd l p e s d).2.2.k (rd l p e s d).2.2.o (rd l p e s d).2.2.a (rd l p e s d).2.2.b (rd l p e s d).2.2.c (rd l p e s d).2.2.u (rd l p e s d).2.2.e (rd l p e s d).2.2.nm l (rd l p e s d).1 (rd l p e s d).2.1:=by
 unfold Zac.j19;have hi:i<(odL s.k op).length:=by
  rcases Nat.lt_or_ge i (odL s.k op).length with h|h;·exact h
  ·rw[List.getElem?_eq_none h] at hd;cases hd
 have hg:((odL s.k op).map odF).getD ((i:Int)).toNat (((0,[]):Fn),(((0,[]):Fn),()))=odF d:=by
  rw[PG,PD,Qt,hd];rfl
 rw[DU,hg,if_pos (by rw[Qj];omega)];cases d with
 |A=>
  show(if K.rdA=K.rdA then _ else _)=_;rw[if_pos rfl,ym hl p hp e s .A _ (.inl ⟨rfl,rfl⟩),Pt]
 |B=>
  show(if K.rdB=K.rdA then _ else if K.rdB=K.rdB then _ else _)=_;rw[if_neg (by decide),if_pos rfl,ym hl p hp e s .B _ (.inr (.inl ⟨rfl,rfl⟩)),Pt]
 |C=>
  show(if K.rdC=K.rdA then _ else if K.rdC=K.rdB then _ else if K.rdC=K.rdC then _ else _)=_;rw[if_neg (by decide),if_neg (by decide),if_pos rfl,ym hl p hp e s .C _ (.inr (.inr ⟨rfl,rfl⟩)),Pt]
 |E=>
  show(if K.rdE=K.rdA then _ else if K.rdE=K.rdB then _ else if K.rdE=K.rdC then _ else if K.rdE=K.rdE then _ else _)=_;rw[if_neg (by decide),if_neg (by decide),if_neg (by decide),if_pos rfl,(DL hl0 p hp e s).1,Pt]
 |Q=>
  show(if K.rdQ=K.rdA then _ else if K.rdQ=K.rdB then _ else if K.rdQ=K.rdC then _ else if K.rdQ=K.rdE then _ else if K.rdQ=K.rdQ then _ else _)=_;rw[if_neg (by decide),if_neg (by decide),if_neg (by decide),if_neg (by decide),if_pos rfl,(DL hl0 p hp e s).2,Pt]
 |N=>
  show(if K.rdN=K.rdA then _ else if K.rdN=K.rdB then _ else if K.rdN=K.rdC then _ else if K.rdN=K.rdE then _ else if K.rdN=K.rdQ then _ else if K.rdN=K.rdN then _ else _)=_;rw[if_neg (by decide),if_neg (by decide),if_neg (by decide),if_neg (by decide),if_neg (by decide),if_pos rfl,MK p hp e s,Pt]
include hl0 hl in
theorem Fh(n:Nat)(lb:Str)(op:Int)(many:Nat)(h3:many<=3):∀(M m i:Nat) (p:Nat) (e:Int) (s:Sm),i+m=many->m<M->p<=8000000+10*i->(odL s.k op).length=many ->
  Zac.l13 n M l lb op (many:Int) (many:Int) (i:Int) s.k s.o s.a s.b s.c s.u s.e s.nm l p e=some (iO l lb (bQ l op many m i (p,e,s))):=by
 intro M
 induction M with
 |zero=>intro m i p e s _ h;omega
 |succ M ih=>
  intro m i p e s him hm hp hk;rw[Zac.l13];simp only[dt];cases m with
  |zero=>
   rw[if_neg (by omega),fM,Pt];dsimp only[bQ];unfold Zac.j22 iO ni;simp only[dt];have:decide ((l.length:Int)<=(p:Int))=decide (l.length<=p):=by
    rw[Bool.eq_iff_iff,Px,Px];omega
   rw[this];split<;>rfl
  |succ m=>
   rw[if_pos (by omega)];dsimp only[bQ];have hsk:=Ox (l:=l) op many i p e s;have hsp:=Oy (l:=l) op many i p e s;have nxt:=fun h=>ih m (i+1) (ak l op many i p e s).1 (ak l op many i p e s).2.1 (ak l op many i p e s).2.2 (by omega) (by omega) (by omega) h
   rw[hsk] at nxt;have nxt:=nxt hk;have J:∀(p1:Nat) (e1:Int),p1<=9000000->p1=(if 0<i then p+1 else p)->e1=(if 0<i then chk (decide (pk 3 l p e=[44])) e else e) ->
     Zac.j17 n (Zac.l13 n M) l lb op (many:Int) (i:Int) (many:Int) (i:Int) s.k s.o s.a s.b s.c s.u s.e s.nm l p1 e1=some (iO l lb (bQ l op many m (i+1) (ak l op many i p e s))):=by
    intro p1 e1 hp1 hp1' he1';have fin:∀s1:Sm,s1=(if i+1=many then { s with k:=chK l p1 e1 s } else s)->Zac.j19 n (Zac.l13 n M) l lb op (many:Int) (i:Int) (many:Int) (i:Int) s1.k s1.o s1.a s1.b s1.c s1.u s1.e s1.nm l p1 e1=some (iO l lb (bQ l op many m (i+1) (ak l op many i p e s))):=by
     intro s1 hs1;have hlen:(odL s1.k op).length=many:=by
      rw[hs1];split;·rw[<- hk];exact oH _ _ s op
      ·exact hk
     obtain⟨d,hd⟩:∃d,(odL s1.k op)[i]?=some d:=⟨_,PH (by omega)⟩
     have hst:ak l op many i p e s=rd l p1 e1 s1 d:=by
      unfold ak;dsimp only;rw[<- hp1',<- he1',<- hs1,hd]
     rw[NQ hl0 hl n _ lb op many i p1 hp1 e1 s1 d hd,<- hst];unfold Zac.j20;rw[w64 (by omega),show(i:Int)+1=((i+1:Nat):Int) by omega];exact nxt
    unfold Zac.j17;simp only[dt];have hw:IntKind.i64.wrap ((many:Int)-1)=(many:Int)-1:=w64 (by omega);rw[hw];by_cases hlast:i+1=many;·rw[if_pos (by omega),Gi hl p1 e1 s,Pt];exact fin { s with k:=chK l p1 e1 s } (by rw[if_pos hlast])
    ·rw[if_neg (by omega)];exact fin s (by rw[if_neg hlast])
   by_cases h0:0<i;·rw[if_pos (by omega),uE 3 l p e (by omega),Pt];dsimp only;rw[fM,Pt];exact J (p+1) _ (by omega) (by rw[if_pos h0]) (by rw[if_pos h0])
   ·rw[if_neg (by omega)];exact J p e (by omega) (by rw[if_neg h0]) (by rw[if_neg h0])
def kN(l:List az)(lb:Str)(p:Nat)(e:Int):PR:=
 if e=0/\p<l.length then
  let t:=l.getD p aT
  let w:=L.ofR t.2.2.1
  let ok:=w.2.2.2.1&&(decide (t.1=4) == decide (w.1=9\/w.1=10))&&(decide (t.1=4)||decide (t.1=1))
  iO l lb (bQ l w.2.1 (odL w.1 w.2.1).length (odL w.1 w.2.1).length 0 (p+1,chk ok e,⟨w.1,w.2.1,0,0,0,w.2.2.1,[],[]⟩))
 else ni lb e ⟨0,0,0,0,0,false,[],[]⟩
def ig(l:List az):PR:=
 if 1<l.length/\(l.getD 0 aT).1=1/\dR l 1 58=true then kN l (l.getD 0 aT).2.2.1 2 (chk (aK (l.getD 0 aT).2.2.1) 0) else kN l [] 0 0
include hl0 hl in
theorem Mr(n:Nat)(hn:10<=n)(lb:Str)(p:Nat)(hp:p<=2)(e:Int):Zac.j5 n l lb 0 0 0 0 0 false [] [] l p e=some (kN l lb p e):=by
 unfold Zac.j5 kN;simp only[dt];by_cases he:e=0
 ·rw[if_pos he];by_cases hp':p<l.length
  ·rw[if_pos (by omega),if_pos (by omega),if_pos ⟨he,hp'⟩,PG];unfold L.nameOfO;rw[Pt];generalize l.getD p aT=t;generalize L.ofR t.2.2.1=w;have J9:∀ok:Bool,Zac.j9 n l lb w.1 w.2.1 w.2.2.1 0 0 0 0 0 false [] [] l (p:Int) (chk ok e)=some (iO l lb (bQ l w.2.1 (odL w.1 w.2.1).length (odL w.1 w.2.1).length 0 (p+1,chk ok e,⟨w.1,w.2.1,0,0,0,w.2.2.1,[],[]⟩))):=fun ok=>by
    unfold Zac.j9;have hlen:((L.opsR w.1 w.2.1).length:Int)=((odL w.1 w.2.1).length:Int):=by rw[DU,Qj]
    rw[hlen,w64 (by omega)];have h3:=MO w.1 w.2.1;exact Fh hl0 hl n lb w.2.1 (odL w.1 w.2.1).length h3 n (odL w.1 w.2.1).length 0 (p+1) (chk ok e) ⟨w.1,w.2.1,0,0,0,w.2.2.1,[],[]⟩ (by omega) (by omega) (by omega) rfl
   cases hok:w.2.2.2.1 with
   |false=>
    rw[if_neg (by decide),fM,Pt];exact J9 false
   |true=>
    rw[if_pos rfl,Gm,Pt];dsimp only;cases hq:(decide (t.1=4) == decide (w.1=9\/w.1=10)) with
    |false=>
     rw[if_neg (by decide),fM,Pt];exact J9 false
    |true=>
     rw[if_pos rfl];by_cases h4:t.1=4;·rw[if_neg (by simp[h4]),fM,Pt,decide_eq_true h4];exact J9 true
     ·rw[if_pos (by simp[h4]),fM,Pt,decide_eq_false h4];exact J9 _
  ·rw[if_neg (by omega),if_neg (fun g=>hp' g.2)];unfold Zac.j22 ni;simp only[dt];split<;>rfl
 ·rw[if_neg he,if_neg (fun g=>he g.1)];unfold Zac.j22 ni;simp only[dt];split<;>rfl
include hl0 hl in
theorem Hf:Zac.g l=some (ig l):=by
 unfold Zac.g;have hn:10<=1000+l.length:=by omega
 generalize 1000+l.length=n at hn;unfold Zac.f ig;have H:=Mr hl0 hl n hn;have H0:=H [] 0 (by decide) 0;rw[show((0:Nat):Int)=0 from rfl] at H0;simp only[dt];have t0:((0:Int)).toNat=0:=rfl;have t1:((1:Int)).toNat=1:=rfl;rw[t0,t1];by_cases h1:1<l.length
 ·rw[if_pos (by omega),if_pos (by omega)];by_cases k0:(l.getD 0 aT).1=1
  ·rw[if_pos k0,if_pos (by omega)];by_cases k1:(l.getD 1 aT).1=3
   ·rw[if_pos k1,if_pos (by omega)];by_cases k2:(l.getD 1 aT).2.2.1=[58]
    ·rw[if_pos k2,if_pos (by omega),vP,Pt];dsimp only;rw[fM,Pt,if_pos ⟨h1,k0,bC.2 ⟨h1,k1,k2⟩⟩];exact H _ 2 (by decide) _
    ·rw[if_neg k2,if_neg (fun g=>k2 (bC.1 g.2.2).2.2)];exact H0
   ·rw[if_neg k1,if_neg (fun g=>k1 (bC.1 g.2.2).2.1)];exact H0
  ·rw[if_neg k0,if_neg (fun g=>k0 g.2.1)];exact H0
 ·rw[if_neg (by omega),if_neg (fun g=>h1 g.1)];exact H0
end
end Rv
namespace Rv
open Go
theorem K3{l:List az}{op:Int}{many p:Nat}{s:Sm}{d:Od}(hm:many≠1)(hd:(odL s.k op)[0]?=some d):ak l op many 0 p 0 s=rd l p 0 s d:=by
 unfold ak;dsimp only;rw[if_neg (by omega),if_neg (by omega),if_neg (by omega),hd]
theorem Nq{l:List az}{op:Int}{many p:Nat}{s:Sm}{d:Od}{K:Int}(hm:many=1)(hK:chK l p 0 s=K)(hd:(odL K op)[0]?=some d):ak l op many 0 p 0 s=rd l p 0 { s with k:=K } d:=by
 subst hm;unfold ak;dsimp only;rw[if_neg (show ¬0<0 by decide),if_neg (show ¬0<0 by decide),if_pos (show 0+1=1 from rfl),hK];dsimp only;rw[hd]
theorem iN{l:List az}{p:Nat}{e:Int}{s:Sm}(h1:s.k≠1)(h7:s.k≠7):chK l p e s=s.k:=by
 unfold chK;rw[if_neg (fun g=>h1 g.1),if_neg (fun g=>h7 g.1)]
end Rv
namespace Rv
open Go
def smP(lb:Str)(s:Sm):PR:=(lb,s.k,s.o,s.a,s.b,s.c,s.u,s.e,s.nm,0,())
def noP(e:Int):PR:=([],0,0,0,0,0,false,[],[],e,())
theorem nG{b:Bool}{e:Int}(h:e≠0):chk b e=e:=by unfold chk;rw[if_neg (fun g=>h g.2)]
theorem Kw{l:List az}{p:Nat}{e:Int}{s:Sm}(h:e≠0)(d:Od):(rd l p e s d).2.1=e:=by
 have hE:∀p,(rdE l p e s).2.1=e:=fun p=>by unfold rdE;rw[if_neg h]
 cases d with
 |E=>exact hE p
 |Q=>
  show(rdE l (p+1) (chk (decide (pk 3 l p e=[61])) e) s).2.1=e;rw[nG h];exact hE _
 |_=>exact nG h
theorem FX{l:List az}{op:Int}{many i p:Nat}{e:Int}{s:Sm}(h:e≠0):(ak l op many i p e s).2.1=e:=by
 unfold ak;dsimp only;have:(if 0<i then chk (decide (pk 3 l p e=[44])) e else e)=e:=by
  split;·exact nG h
  ·rfl
 rw[this];split;·exact Kw h _
 ·rfl
theorem w9{l:List az}{op:Int}{many:Nat}{e:Int}(h:e≠0):∀(m i:Nat) (r:Nat×Int×Sm),r.2.1=e->(bQ l op many m i r).2.1=e
 |0,_,_,hr=>hr
 |m+1,i,r,hr=>w9 h m (i+1) _ (by rw[hr];exact FX h)
theorem Gy{l:List az}{lb:Str}{r:Nat×Int×Sm}{e:Int}(h:e≠0)(hr:r.2.1=e):iO l lb r=noP e:=by
 unfold iO ni;rw[hr,nG h,if_pos h];rfl
end Rv
namespace Rv
open Go
theorem fq{b:Bool}{e:Int}(h:chk b e=0):e=0/\b=true:=by
 unfold chk at h;split at h;·exact absurd h (by decide)
 ·rename_i g;refine⟨h,?_⟩;cases b
  ·exact absurd ⟨rfl,h⟩ g
  ·rfl
def iJ(e:Int):Prop:=e=0\/e=22\/e=23\/e=24
theorem gL{b:Bool}{e:Int}(h:iJ e):iJ (chk b e):=by
 unfold chk;split;·exact .inr (.inl rfl)
 ·exact h
theorem vZ{s:Str}(h:(aQ s).2=true):rg (aQ s).1:=by
 unfold aQ at h⊢;cases hf:(List.range 16).find? (fun k=>iH k == s) with
 |none=>rw[hf] at h;cases h
 |some k=>have:=(lX hf).1;exact⟨by dsimp only;omega,by dsimp only;omega⟩
section
variable{l:List az}(hw:∀t∈l,0<=t.2.2.2.1/\t.2.2.2.1<=4294967295)
theorem Fg(p:Nat):iJ (dM l p).2.2.1:=by
 unfold dM;have hg:=jB (bM l 9) p;cases hx:xS l (pF l 9) p with
 |error e=>rw[hx] at hg;rcases hg with rfl|rfl;exact .inr (.inr (.inl rfl));exact .inr (.inr (.inr rfl))
 |ok r=>dsimp only;split;exact .inr (.inr (.inr rfl));exact .inl rfl
include hw in
theorem CU{p:Nat}(h:(dM l p).2.2.1=0):∃t,sQ t/\(dM l p).1=t.post:=by
 unfold dM at h⊢;have hg:=jB (bM l 9) p;cases hx:xS l (pF l 9) p with
 |error e=>
  rw[hx] at h hg;have h:e=0:=h;rcases hg with rfl|rfl<;>cases h
 |ok r=>
  rw[hx] at h hg;dsimp only at h⊢;split at h;·cases h
  ·rename_i h64;rw[if_neg h64];obtain⟨t,h1,h2,h3⟩:=yw hg.well (hg.good hw);exact⟨t,⟨h2,h3,by rw[h1];exact hg.well,by rw[h1];omega⟩,h1.symm⟩
theorem Bp{p:Nat}{e:Int}{s:Sm}{d:Od}(h:(rd l p e s d).2.1=0):e=0:=by
 have hE:∀p e,(rdE l p e s).2.1=0->e=0:=fun p e h=>by
  unfold rdE at h;split at h;·assumption
  ·exact h
 cases d with
 |A=>exact(fq h).1
 |B=>exact(fq h).1
 |C=>exact(fq h).1
 |N=>exact(fq h).1
 |E=>exact hE _ _ h
 |Q=>exact(fq (hE _ _ h)).1
theorem OW{p:Nat}{e:Int}{s:Sm}{d:Od}(h:iJ e):iJ (rd l p e s d).2.1:=by
 have hE:∀p e,iJ e->iJ (rdE l p e s).2.1:=fun p e h=>by
  unfold rdE;split;·exact Fg p
  ·exact h
 cases d with
 |A=>exact gL h
 |B=>exact gL h
 |C=>exact gL h
 |N=>exact gL h
 |E=>exact hE _ _ h
 |Q=>exact hE _ _ (gL h)
theorem step_ok{op:Int}{many i p:Nat}{e:Int}{s:Sm}(h:iJ e):iJ (ak l op many i p e s).2.1:=by
 unfold ak;dsimp only;have h1:iJ (if 0<i then chk (decide (pk 3 l p e=[44])) e else e):=by split;exact gL h;exact h
 split;·exact OW h1
 ·exact h1
theorem yf{op:Int}{many:Nat}:∀(m i:Nat) (r:Nat×Int×Sm),iJ r.2.1->iJ (bQ l op many m i r).2.1
 |0,_,_,h=>h
 |m+1,i,r,h=>yf m (i+1) _ (step_ok h)
theorem bN{op:Int}{many i p:Nat}{e:Int}{s:Sm}(h:(ak l op many i p e s).2.1=0):e=0:=by
 unfold ak at h;dsimp only at h;have h1:(if 0<i then chk (decide (pk 3 l p e=[44])) e else e)=0->e=0:=fun h=>by
  split at h;·exact(fq h).1
  ·exact h
 split at h;·exact h1 (Bp h)
 ·exact h1 h
theorem o6{p:Nat}{s:Sm}(h:(rd l p 0 s .A).2.1=0):∃a,rg a/\(rd l p 0 s .A).2.2={ s with a:=a }:=⟨_,vZ (fq h).2,rfl⟩
theorem HV{p:Nat}{s:Sm}(h:(rd l p 0 s .B).2.1=0):∃a,rg a/\(rd l p 0 s .B).2.2={ s with b:=a }:=⟨_,vZ (fq h).2,rfl⟩
theorem Bo{p:Nat}{e:Int}{s:Sm}(h:(rd l p e s .C).2.1=0):∃a,rg a/\(rd l p e s .C).2.2={ s with c:=a }:=⟨_,vZ (fq h).2,rfl⟩
theorem Oe{p:Nat}{s:Sm}(h:(rd l p 0 s .N).2.1=0):∃a,bW a=true/\(rd l p 0 s .N).2.2={ s with nm:=a }:=⟨_,(fq h).2,rfl⟩
include hw in
theorem o7{p:Nat}{e:Int}{s:Sm}(h:(rdE l p e s).2.1=0):∃t,sQ t/\(rdE l p e s).2.2={ s with e:=t.post }:=by
 unfold rdE at h⊢;split at h;·rename_i he;rw[if_pos he];obtain⟨t,h1,h2⟩:=CU hw h;exact⟨t,h1,by dsimp only;rw[h2]⟩
 ·rename_i he;exact absurd h he
theorem qM{op:Int}{many p:Nat}{s:Sm}{d:Od}(hm:many≠1)(hd:(odL s.k op)[0]?=some d):ak l op many 0 p 0 s=rd l p 0 s d:=K3 hm hd
theorem Iw{op:Int}{many i p:Nat}{s:Sm}{d:Od}(h0:0<i)(hm:i+1≠many)(hd:(odL s.k op)[i]?=some d)(h:(ak l op many i p 0 s).2.1=0):ak l op many i p 0 s=rd l (p+1) 0 s d:=by
 have key:ak l op many i p 0 s=rd l (p+1) (chk (decide (pk 3 l p 0=[44])) 0) s d:=by
  unfold ak;dsimp only;rw[if_pos h0,if_pos h0,if_neg hm,hd]
 rw[key] at h⊢;rw[Bp h]
theorem uD{op:Int}{many i p:Nat}{s:Sm}(h0:0<i)(hm:i+1=many)(hl:i<(odL s.k op).length)(h:(ak l op many i p 0 s).2.1=0):∃K d,chK l (p+1) 0 s=K/\(odL K op)[i]?=some d/\ak l op many i p 0 s=rd l (p+1) 0 { s with k:=K } d:=by
 obtain⟨d,hd⟩:∃d,(odL (chK l (p+1) (chk (decide (pk 3 l p 0=[44])) 0) s) op)[i]?=some d:=⟨_,PH (by rw[oH];exact hl)⟩
 have key:ak l op many i p 0 s=rd l (p+1) (chk (decide (pk 3 l p 0=[44])) 0) { s with k:=chK l (p+1) (chk (decide (pk 3 l p 0=[44])) 0) s } d:=by
  unfold ak;dsimp only;rw[if_pos h0,if_pos h0,if_pos hm];dsimp only;rw[hd]
 have he:chk (decide (pk 3 l p 0=[44])) 0=0:=by rw[key] at h;exact Bp h
 rw[he] at key hd;exact⟨_,d,rfl,hd,key⟩
theorem pg{op:Int}{p:Nat}{s:Sm}(hl:0<(odL s.k op).length):∃K d,chK l p 0 s=K/\(odL K op)[0]?=some d/\ak l op 1 0 p 0 s=rd l p 0 { s with k:=K } d:=by
 obtain⟨d,hd⟩:∃d,(odL (chK l p 0 s) op)[0]?=some d:=⟨_,PH (by rw[oH];exact hl)⟩
 exact⟨_,d,rfl,hd,Nq rfl rfl hd⟩
theorem Dk{p:Nat}{s:Sm}(h:s.k=1):chK l p 0 s=2\/(chK l p 0 s=1/\¬(s.u=true/\s.o=0)):=by
 unfold chK;split;·exact .inl rfl
 ·rename_i g;rw[if_neg (fun q=>by omega)];exact .inr ⟨h,fun q=>g ⟨h,.inr q⟩⟩
theorem Gh{p:Nat}{s:Sm}(h:s.k=7):chK l p 0 s=6\/chK l p 0 s=7:=by
 unfold chK;rw[if_neg (fun q=>by omega)];split;·exact .inl rfl
 ·exact .inr h
theorem MM:∀e∈L.nameTbl,(e.2.1.1=1/\0<=e.2.1.2.1/\e.2.1.2.1<12/\(e.2.1.2.2=true->e.2.1.2.1=0\/8<=e.2.1.2.1/\e.2.1.2.1<=10))\/((e.2.1.1=3\/e.2.1.1=4\/e.2.1.1=8\/e.2.1.1=9\/e.2.1.1=10)/\e.2.1.2.1=0/\e.2.1.2.2=false)\/(e.2.1.1=5/\0<=e.2.1.2.1/\e.2.1.2.1<4/\e.2.1.2.2=false)\/(e.2.1.1=7/\0<=e.2.1.2.1/\e.2.1.2.1<16):=by decide +kernel
theorem Bc{s:Str}(h:(L.ofR s).2.2.2.1=true):∃k o u,L.ofR s=(k,o,u,true,())/\((k=1/\0<=o/\o<12/\(u=true->o=0\/8<=o/\o<=10))\/((k=3\/k=4\/k=8\/k=9\/k=10)/\o=0/\u=false)\/(k=5/\0<=o/\o<4/\u=false)\/(k=7/\0<=o/\o<16)):=by
 unfold L.ofR at h⊢;cases hf:L.nameTbl.find? fun e=>e.2.2 == s with
 |none=>rw[hf] at h;cases h
 |some e=>exact⟨e.2.1.1,e.2.1.2.1,e.2.1.2.2,rfl,MM e (List.mem_of_find?_eq_some hf)⟩
include hw in
theorem FZ{k o:Int}{u:Bool}(hk:(k=1/\0<=o/\o<12/\(u=true->o=0\/8<=o/\o<=10))\/((k=3\/k=4\/k=8\/k=9\/k=10)/\o=0/\u=false)\/(k=5/\0<=o/\o<4/\u=false)\/(k=7/\0<=o/\o<16))(p:Nat){e:Int}
  (h:(bQ l o (odL k o).length (odL k o).length 0 (p,e,⟨k,o,0,0,0,u,[],[]⟩)).2.1=0):∃t,GoodS (bQ l o (odL k o).length (odL k o).length 0 (p,e,⟨k,o,0,0,0,u,[],[]⟩)).2.2 t:=by
 have hnil:∀{α:Type}{x:α}{i:Nat},([]:List α)[i]?=some x->False:=fun h=>by simp at h
 rcases hk with⟨rfl,ho,ho2,hu⟩|⟨hk,rfl,rfl⟩|⟨rfl,ho,ho2,rfl⟩|⟨rfl,ho,ho2⟩
 ·by_cases h0:o=0
  ·subst h0;have e1:(odL 1 0).length=2:=rfl;rw[e1] at h⊢;simp only[bQ] at h⊢;generalize hr0:ak l 0 2 0 p e ⟨1,0,0,0,0,u,[],[]⟩=r0 at h⊢;generalize hr1:ak l 0 2 1 r0.1 r0.2.1 r0.2.2=r1 at h⊢;have z0:r0.2.1=0:=by rw[<- hr1] at h;exact bN h
   have ze:e=0:=by rw[<- hr0] at z0;exact bN z0
   subst ze;rw[qM (d:=.A) (by decide) rfl] at hr0;obtain⟨a,ha,hs⟩:=o6 (l:=l) (p:=p) (s:=⟨1,0,0,0,0,u,[],[]⟩) (by rw[hr0];exact z0);rw[hr0] at hs;rw[z0,hs] at hr1;obtain⟨K,d,hK,hd,hst⟩:=uD (l:=l) (op:=0) (many:=2) (i:=1) (p:=r0.1) (s:=⟨1,0,a,0,0,u,[],[]⟩) (by decide) rfl (by show 1<2;decide) (by rw[hr1];exact h);rw[hst] at hr1;rcases Dk (l:=l) (p:=r0.1+1) (s:=⟨1,0,a,0,0,u,[],[]⟩) rfl with c|⟨c,hn⟩
   ·rw[hK] at c;subst c;obtain rfl:d=.E:=by have hd:some Od.E=some d:=hd;exact(Pw hd).symm
    obtain⟨t,ht,hs2⟩:=o7 hw (p:=r0.1+1) (e:=0) (s:=⟨2,0,a,0,0,u,[],[]⟩) (by show(rd l (r0.1+1) 0 _ .E).2.1=0;rw[hr1];exact h);have hs2:(rd l (r0.1+1) 0 ⟨2,0,a,0,0,u,[],[]⟩ .E).2.2=_:=hs2;rw[hr1] at hs2;rw[hs2];exact⟨some t,.ins1 (.movi ha) (.inl rfl) ht⟩
   ·rw[hK] at c;subst c;obtain rfl:d=.C:=by have hd:some Od.C=some d:=hd;exact(Pw hd).symm
    obtain⟨c,hc,hs2⟩:=Bo (l:=l) (p:=r0.1+1) (e:=0) (s:=⟨1,0,a,0,0,u,[],[]⟩) (by rw[hr1];exact h);rw[hr1] at hs2;rw[hs2];have:u=false:=by cases u;rfl;exact absurd ⟨rfl,rfl⟩ hn
    subst this;exact⟨none,.ins0 (.mov ha hc) (.inl rfl)⟩
  ·have hop:0<o:=by omega
   have e1:(odL 1 o).length=3:=by rw[uw hop];rfl
   rw[e1] at h⊢;simp only[bQ] at h⊢;generalize hr0:ak l o 3 0 p e ⟨1,o,0,0,0,u,[],[]⟩=r0 at h⊢;generalize hr1:ak l o 3 1 r0.1 r0.2.1 r0.2.2=r1 at h⊢;generalize hr2:ak l o 3 2 r1.1 r1.2.1 r1.2.2=r2 at h⊢;have z1:r1.2.1=0:=by rw[<- hr2] at h;exact bN h
   have z0:r0.2.1=0:=by rw[<- hr1] at z1;exact bN z1
   have ze:e=0:=by rw[<- hr0] at z0;exact bN z0
   subst ze;rw[qM (d:=.A) (by decide) (by rw[uw hop];rfl)] at hr0;obtain⟨a,ha,hs⟩:=o6 (l:=l) (p:=p) (s:=⟨1,o,0,0,0,u,[],[]⟩) (by rw[hr0];exact z0);rw[hr0] at hs;rw[z0,hs] at hr1;rw[Iw (d:=.B) (by decide) (by decide) (by rw[uw hop];rfl) (by rw[hr1];exact z1)] at hr1;obtain⟨b,hb,hs1⟩:=HV (l:=l) (p:=r0.1+1) (s:=⟨1,o,a,0,0,u,[],[]⟩) (by rw[hr1];exact z1);rw[hr1] at hs1;rw[z1,hs1] at hr2;obtain⟨K,d,hK,hd,hst⟩:=uD (l:=l) (op:=o) (many:=3) (i:=2) (p:=r1.1) (s:=⟨1,o,a,b,0,u,[],[]⟩) (by decide) rfl (by show 2<(odL 1 o).length;rw[e1];decide) (by rw[hr2];exact h);rw[hst] at hr2;have hu':u=true->8<=o/\o<=10:=fun q=>(hu q).resolve_left h0
   rcases Dk (l:=l) (p:=r1.1+1) (s:=⟨1,o,a,b,0,u,[],[]⟩) rfl with c|⟨c,hn⟩
   ·rw[hK] at c;subst c;rw[MN hop] at hd;obtain rfl:d=.E:=by have hd:some Od.E=some d:=hd;exact(Pw hd).symm
    obtain⟨t,ht,hs2⟩:=o7 hw (p:=r1.1+1) (e:=0) (s:=⟨2,o,a,b,0,u,[],[]⟩) (by show(rd l (r1.1+1) 0 _ .E).2.1=0;rw[hr2];exact h);have hs2:(rd l (r1.1+1) 0 ⟨2,o,a,b,0,u,[],[]⟩ .E).2.2=_:=hs2;rw[hr2] at hs2;rw[hs2];exact⟨some t,.ins1 (.imm hop ho2 ha hb hu') (.inl rfl) ht⟩
   ·rw[hK] at c;subst c;rw[uw hop] at hd;obtain rfl:d=.C:=by have hd:some Od.C=some d:=hd;exact(Pw hd).symm
    obtain⟨c,hc,hs2⟩:=Bo (l:=l) (p:=r1.1+1) (e:=0) (s:=⟨1,o,a,b,0,u,[],[]⟩) (by rw[hr2];exact h);rw[hr2] at hs2;rw[hs2];exact⟨none,.ins0 (.reg hop ho2 ha hb hc hu') (.inl rfl)⟩
 ·rcases hk with rfl|rfl|rfl|rfl|rfl
  ·have e1:(odL 3 0).length=1:=rfl;rw[e1] at h⊢;simp only[bQ] at h⊢;have ze:e=0:=bN h;subst ze;obtain⟨K,d,hK,hd,hst⟩:=pg (l:=l) (op:=0) (p:=p) (s:=⟨3,0,0,0,0,false,[],[]⟩) (by show 0<1;decide);rw[iN (show(3:Int)≠1 by decide) (show(3:Int)≠7 by decide)] at hK;have hK:3=K:=hK;subst hK;obtain rfl:d=.A:=by have hd:some Od.A=some d:=hd;exact(Pw hd).symm
   rw[hst] at h⊢;obtain⟨a,ha,hs⟩:=o6 h;rw[hs];exact⟨none,.ins0 (.hi ha) (.inr (.inl rfl))⟩
  ·have e1:(odL 4 0).length=1:=rfl;rw[e1] at h⊢;simp only[bQ] at h⊢;have ze:e=0:=bN h;subst ze;obtain⟨K,d,hK,hd,hst⟩:=pg (l:=l) (op:=0) (p:=p) (s:=⟨4,0,0,0,0,false,[],[]⟩) (by show 0<1;decide);rw[iN (show(4:Int)≠1 by decide) (show(4:Int)≠7 by decide)] at hK;have hK:4=K:=hK;subst hK;obtain rfl:d=.A:=by have hd:some Od.A=some d:=hd;exact(Pw hd).symm
   rw[hst] at h⊢;obtain⟨a,ha,hs⟩:=o6 h;rw[hs];exact⟨none,.ins0 (.fl ha) (.inr (.inr (.inl rfl)))⟩
  ·have e1:(odL 8 0).length=2:=rfl;rw[e1] at h⊢;simp only[bQ] at h⊢;generalize hr0:ak l 0 2 0 p e ⟨8,0,0,0,0,false,[],[]⟩=r0 at h⊢;generalize hr1:ak l 0 2 1 r0.1 r0.2.1 r0.2.2=r1 at h⊢;have z0:r0.2.1=0:=by rw[<- hr1] at h;exact bN h
   have ze:e=0:=by rw[<- hr0] at z0;exact bN z0
   subst ze;rw[qM (d:=.A) (by decide) rfl] at hr0;obtain⟨a,ha,hs⟩:=o6 (l:=l) (p:=p) (s:=⟨8,0,0,0,0,false,[],[]⟩) (by rw[hr0];exact z0);rw[hr0] at hs;rw[z0,hs] at hr1;obtain⟨K,d,hK,hd,hst⟩:=uD (l:=l) (op:=0) (many:=2) (i:=1) (p:=r0.1) (s:=⟨8,0,a,0,0,false,[],[]⟩) (by decide) rfl (by show 1<2;decide) (by rw[hr1];exact h);rw[hst] at hr1;rw[iN (show(8:Int)≠1 by decide) (show(8:Int)≠7 by decide)] at hK;have hK:8=K:=hK;subst hK;obtain rfl:d=.Q:=by have hd:some Od.Q=some d:=hd;exact(Pw hd).symm
   obtain⟨t,ht,hs2⟩:=o7 hw (p:=r0.1+1+1) (e:=chk (decide (pk 3 l (r0.1+1) 0=[61])) 0) (s:=⟨8,0,a,0,0,false,[],[]⟩) (by show(rd l (r0.1+1) 0 _ .Q).2.1=0;rw[hr1];exact h);have hs2:(rd l (r0.1+1) 0 ⟨8,0,a,0,0,false,[],[]⟩ .Q).2.2=_:=hs2;rw[hr1] at hs2;rw[hs2];exact⟨some t,.load ha ht⟩
  ·have e1:(odL 9 0).length=1:=rfl;rw[e1] at h⊢;simp only[bQ] at h⊢;have ze:e=0:=bN h;subst ze;obtain⟨K,d,hK,hd,hst⟩:=pg (l:=l) (op:=0) (p:=p) (s:=⟨9,0,0,0,0,false,[],[]⟩) (by show 0<1;decide);rw[iN (show(9:Int)≠1 by decide) (show(9:Int)≠7 by decide)] at hK;have hK:9=K:=hK;subst hK;obtain rfl:d=.E:=by have hd:some Od.E=some d:=hd;exact(Pw hd).symm
   rw[hst] at h⊢;obtain⟨t,ht,hs⟩:=o7 hw (p:=p) (e:=0) (s:=⟨9,0,0,0,0,false,[],[]⟩) h;have hs:(rd l p 0 ⟨9,0,0,0,0,false,[],[]⟩ .E).2.2=_:=hs;rw[hs];exact⟨some t,.word ht⟩
  ·have e1:(odL 10 0).length=1:=rfl;rw[e1] at h⊢;simp only[bQ] at h⊢;have ze:e=0:=bN h;subst ze;obtain⟨K,d,hK,hd,hst⟩:=pg (l:=l) (op:=0) (p:=p) (s:=⟨10,0,0,0,0,false,[],[]⟩) (by show 0<1;decide);rw[iN (show(10:Int)≠1 by decide) (show(10:Int)≠7 by decide)] at hK;have hK:10=K:=hK;subst hK;obtain rfl:d=.N:=by have hd:some Od.N=some d:=hd;exact(Pw hd).symm
   rw[hst] at h⊢;obtain⟨a,ha,hs⟩:=Oe h;rw[hs];exact⟨none,.exp ha⟩
 ·have e1:(odL 5 o).length=3:=rfl;rw[e1] at h⊢;simp only[bQ] at h⊢;generalize hr0:ak l o 3 0 p e ⟨5,o,0,0,0,false,[],[]⟩=r0 at h⊢;generalize hr1:ak l o 3 1 r0.1 r0.2.1 r0.2.2=r1 at h⊢;generalize hr2:ak l o 3 2 r1.1 r1.2.1 r1.2.2=r2 at h⊢;have z1:r1.2.1=0:=by rw[<- hr2] at h;exact bN h
  have z0:r0.2.1=0:=by rw[<- hr1] at z1;exact bN z1
  have ze:e=0:=by rw[<- hr0] at z0;exact bN z0
  subst ze;rw[qM (d:=.A) (by decide) rfl] at hr0;obtain⟨a,ha,hs⟩:=o6 (l:=l) (p:=p) (s:=⟨5,o,0,0,0,false,[],[]⟩) (by rw[hr0];exact z0);rw[hr0] at hs;rw[z0,hs] at hr1;rw[Iw (d:=.B) (by decide) (by decide) rfl (by rw[hr1];exact z1)] at hr1;obtain⟨b,hb,hs1⟩:=HV (l:=l) (p:=r0.1+1) (s:=⟨5,o,a,0,0,false,[],[]⟩) (by rw[hr1];exact z1);rw[hr1] at hs1;rw[z1,hs1] at hr2;obtain⟨K,d,hK,hd,hst⟩:=uD (l:=l) (op:=o) (many:=3) (i:=2) (p:=r1.1) (s:=⟨5,o,a,b,0,false,[],[]⟩) (by decide) rfl (by show 2<(odL 5 o).length;rw[e1];decide) (by rw[hr2];exact h);rw[hst] at hr2;rw[iN (show(5:Int)≠1 by decide) (show(5:Int)≠7 by decide)] at hK;have hK:5=K:=hK;subst hK;obtain rfl:d=.E:=by have hd:some Od.E=some d:=hd;exact(Pw hd).symm
  obtain⟨t,ht,hs2⟩:=o7 hw (p:=r1.1+1) (e:=0) (s:=⟨5,o,a,b,0,false,[],[]⟩) (by show(rd l (r1.1+1) 0 _ .E).2.1=0;rw[hr2];exact h);have hs2:(rd l (r1.1+1) 0 ⟨5,o,a,b,0,false,[],[]⟩ .E).2.2=_:=hs2;rw[hr2] at hs2;rw[hs2];exact⟨some t,.ins1 (.mem ho ho2 ha hb) (.inr (.inl rfl)) ht⟩
 ·have e1:(odL 7 o).length=1:=rfl;rw[e1] at h⊢;simp only[bQ] at h⊢;have ze:e=0:=bN h;subst ze;obtain⟨K,d,hK,hd,hst⟩:=pg (l:=l) (op:=o) (p:=p) (s:=⟨7,o,0,0,0,u,[],[]⟩) (by show 0<1;decide);rw[hst] at h⊢;rcases Gh (l:=l) (p:=p) (s:=⟨7,o,0,0,0,u,[],[]⟩) rfl with c|c
  ·rw[hK] at c;subst c;obtain rfl:d=.C:=by have hd:some Od.C=some d:=hd;exact(Pw hd).symm
   obtain⟨c,hc,hs⟩:=Bo h;rw[hs];exact⟨none,.ins0 (.br ⟨ho,ho2⟩ hc) (.inr (.inr (.inr rfl)))⟩
  ·rw[hK] at c;subst c;obtain rfl:d=.E:=by have hd:some Od.E=some d:=hd;exact(Pw hd).symm
   obtain⟨t,ht,hs⟩:=o7 hw (p:=p) (e:=0) (s:=⟨7,o,0,0,0,u,[],[]⟩) h;have hs:(rd l p 0 ⟨7,o,0,0,0,u,[],[]⟩ .E).2.2=_:=hs;rw[hs];exact⟨some t,.ins1 (.jmp ⟨ho,ho2⟩) (.inr (.inr rfl)) ht⟩
end
end Rv
namespace Rv
open Go
abbrev wfT(l:List az):Prop:=∀t∈l,0<=t.2.2.2.1/\t.2.2.2.1<=4294967295
theorem yJ{l:List az}{lb:Str}{r:Nat×Int×Sm}(he:iJ r.2.1):(∃e,(e=22\/e=23\/e=24)/\iO l lb r=noP e)\/(r.2.1=0/\iO l lb r=smP lb r.2.2):=by
 unfold iO ni;have h:=gL (b:=decide (l.length<=r.1)) he;generalize hx:chk (decide (l.length<=r.1)) r.2.1=e' at h;by_cases h0:e'=0;·subst h0;rw[if_neg (by decide)];exact .inr ⟨(fq hx).1,rfl⟩
 ·rw[if_pos h0];exact .inl ⟨e',h.resolve_left h0,rfl⟩
theorem qc{l:List az}(hw:wfT l){lb:Str}{p:Nat}{e:Int}(he:e=0\/e=22):(∃x,(x=22\/x=23\/x=24)/\kN l lb p e=noP x)\/(e=0/\∃s t,GoodS s t/\kN l lb p e=smP lb s):=by
 unfold kN;by_cases h:e=0/\p<l.length
 ·rw[if_pos h];obtain⟨rfl,hp⟩:=h;dsimp only;generalize l.getD p aT=t;by_cases hf:(L.ofR t.2.2.1).2.2.2.1=true
  ·obtain⟨k,o,u,e1,hk⟩:=Bc hf;rw[e1];dsimp only;generalize hq:chk (true&&(decide (t.1=4) == decide (k=9\/k=10))&&(decide (t.1=4)||decide (t.1=1))) 0=q;have hqe:iJ q:=by rw[<- hq];exact gL (.inl rfl)
   rcases yJ (l:=l) (lb:=lb) (yf (l:=l) (op:=o) (many:=(odL k o).length) (odL k o).length 0 (p+1,q,⟨k,o,0,0,0,u,[],[]⟩) hqe) with h|⟨h1,h2⟩;·exact .inl h
   ·obtain⟨t',ht⟩:=FZ hw hk (p+1) h1;exact .inr ⟨rfl,_,t',ht,h2⟩
  ·have hf:(L.ofR t.2.2.1).2.2.2.1=false:=by simpa using hf
   rw[hf];have hq:chk (false&&(decide (t.1=4) == decide ((L.ofR t.2.2.1).1=9\/(L.ofR t.2.2.1).1=10))&&(decide (t.1=4)||decide (t.1=1))) 0=22:=rfl;rw[hq];rcases yJ (l:=l) (lb:=lb) (yf (l:=l) (op:=(L.ofR t.2.2.1).2.1) (many:=(odL (L.ofR t.2.2.1).1 (L.ofR t.2.2.1).2.1).length) (odL (L.ofR t.2.2.1).1 (L.ofR t.2.2.1).2.1).length 0 (p+1,22,⟨(L.ofR t.2.2.1).1,(L.ofR t.2.2.1).2.1,0,0,0,(L.ofR t.2.2.1).2.2.1,[],[]⟩) (.inr (.inl rfl))) with h|⟨h1,_⟩;·exact .inl h
   ·exfalso;have sticky:∀(m i:Nat) (r:Nat×Int×Sm) (op:Int) (many:Nat),(bQ l op many m i r).2.1=0->r.2.1=0:=by
     intro m
     induction m with
     |zero=>intro i r op many h;exact h
     |succ m ih=>intro i r op many h;exact bN (ih (i+1) _ op many h)
    have h9:(22:Int)=0:=sticky _ _ _ _ _ h1;exact absurd h9 (by decide)
 ·rw[if_neg h];unfold ni;rcases he with rfl|rfl
  ·rw[if_neg (by decide)];exact .inr ⟨rfl,_,_,.none,rfl⟩
  ·rw[if_pos (by decide)];exact .inl ⟨22,.inl rfl,rfl⟩
theorem CW{l:List az}(hw:wfT l):(∃e,(e=22\/e=23\/e=24)/\ig l=noP e)\/(∃lb s t,(lb=[]\/aK lb=true)/\GoodS s t/\ig l=smP lb s):=by
 unfold ig;split
 ·cases hL:aK (l.getD 0 aT).2.2.1 with
  |true=>
   rcases qc hw (lb:=(l.getD 0 aT).2.2.1) (p:=2) (e:=chk true 0) (.inl rfl) with h|⟨_,s,t,h1,h2⟩;·exact .inl h
   ·exact .inr ⟨_,s,t,.inr hL,h1,h2⟩
  |false=>
   rcases qc hw (lb:=(l.getD 0 aT).2.2.1) (p:=2) (e:=chk false 0) (.inr rfl) with h|⟨h,_⟩;·exact .inl h
   ·exact absurd h (by decide)
 ·rcases qc hw (lb:=[]) (p:=0) (e:=0) (.inl rfl) with h|⟨_,s,t,h1,h2⟩
  ·exact .inl h
  ·exact .inr ⟨_,s,t,.inl rfl,h1,h2⟩
end Rv
namespace Rv
open Go
def bK:Str->List Str
 |[]=>[]
 |b::s=>if b=10 then[]::bK s else match bK s with
  |[]=>[[b]]
  |l::r=>(b::l)::r
theorem BS(c:UInt8):∀s,L.splitR c s≠[]
 |[]=>by simp[L.splitR]
 |b::s=>by
  rw[L.splitR];split;·simp
  ·split<;>simp
def lZ(l:List Str):List Str:=if l.getD (l.length-1) []=[] then l.take (l.length-1) else l
theorem uh(x:Str){l:List Str}(h:l≠[]):lZ (x::l)=x::lZ l:=by
 obtain⟨y,r,rfl⟩:=List.exists_cons_of_ne_nil h;unfold lZ;have e:(x::y::r).getD ((x::y::r).length-1) []=(y::r).getD ((y::r).length-1) []:=rfl;rw[e];split;·rfl
 ·rfl
theorem uP:∀s:Str,lZ (L.splitR 10 s)=bK s
 |[]=>rfl
 |b::s=>by
  have ih:=uP s;have hne:=BS 10 s;rw[L.splitR,bK];by_cases h:b=10;·rw[if_pos h,if_pos h,uh _ hne,ih]
  ·rw[if_neg h,if_neg h,<- ih];obtain⟨y,r,hs⟩:=List.exists_cons_of_ne_nil hne;rw[hs];dsimp only;cases r with
   |nil=>
    have h1:lZ [b::y]=[b::y]:=by unfold lZ;rw[if_neg (by simp)]
    rw[h1];unfold lZ;cases y with
    |nil=>rfl
    |cons c t=>rw[if_neg (by simp)]
   |cons z r=>
    rw[uh (b::y) (l:=z::r) (by simp),uh y (l:=z::r) (by simp)]
theorem mW:∀s:Str,(bK s).length<=s.length/\∀l∈bK s,l.length<=s.length
 |[]=>⟨PI _,fun l h=>by cases h⟩
 |b::s=>by
  obtain⟨h1,h2⟩:=mW s;rw[bK];split
  ·refine⟨by simp;omega,fun l hl=>?_⟩;rcases PM.1 hl with rfl|hl
   ·simp
   ·have:=h2 l hl;simp;omega
  ·split
   ·refine⟨by simp,fun l hl=>?_⟩;rw[PS] at hl;subst hl;simp
   ·rename_i x r hx;rw[hx] at h1 h2;refine⟨by simp at h1⊢;omega,fun l hl=>?_⟩;rcases PM.1 hl with rfl|hl
    ·have:=h2 x (Qr ..);simp;omega
    ·have:=h2 l (PQ _ hl);simp;omega
theorem lJ:∀(n:Nat) (k:Int) (s:Str) (l:List Tok),s.length<=n->aX k s=.ok l->∀t∈l,t.2.2.1.length<=s.length
 |_,k,[],l,_,h=>by rw[lg] at h;cases h;intro t ht;cases ht
 |0,k,c::r,l,hn,_=>by simp at hn
 |n+1,k,c::r,l,hn,h=>by
  simp only[P9] at hn⊢;rw[jQ] at h;split at h;·cases h;intro t ht;cases ht
  ·split at h
   ·intro t ht;have:=lJ n (k+1) r l (by omega) h t ht;omega
   ·split at h
    ·cases h
    ·rename_i d q tx v hT;obtain⟨h1,h2,_⟩:=Lb hT;split at h
     ·cases h
     ·rename_i l' hl;cases h;intro t ht;rcases PM.1 ht with rfl|ht
      ·simp only;omega
      ·have:=lJ n _ _ l' (by simp;omega) hl t ht;simp at this;omega
def mZ(s:Str):PR:=let y:=aH [] (aX 0 s);if y.2.1≠0 then noP y.2.1 else ig y.1
abbrev vH(p:PR):Int:=p.2.2.2.2.2.2.2.2.2.1
abbrev lnP(p:PR):Ln:=(p.1,(p.2.1,p.2.2.1,p.2.2.2.1,p.2.2.2.2.1,p.2.2.2.2.2.1,p.2.2.2.2.2.2.1,p.2.2.2.2.2.2.2.1,p.2.2.2.2.2.2.2.2.1,()),())
theorem xG{k:Int}{s:Str}(hs:s.length<=1000000):(aH [] (aX k s)).1.length<=1000000:=Qd CE hs
theorem G7(s:Str)(hs:s.length<=1000000):Zac.g (aH [] (aX 0 s)).1=some (ig (aH [] (aX 0 s)).1):=by
 refine Hf (xG hs) fun t ht=>?_
 have h:∀t∈(aH [] (aX 0 s)).1,t.2.2.1.length<=s.length:=by
  cases h:aX 0 s with
  |error e=>intro t ht;cases ht
  |ok l=>
   intro t ht;have ht:t∈l:=by simpa[aH] using ht
   exact lJ s.length 0 s l (PI _) h t ht
 exact Qd (h t ht) hs
theorem N9(s:Str)(hs:s.length<=1000000):Zes.g s=some (mZ s):=by
 unfold Zes.g Zes.f mZ;rw[MH s hs,Pt];generalize hy:aH [] (aX 0 s)=y;have hp:=G7 s hs;rw[hy] at hp;by_cases h:y.2.1≠0;·rw[if_pos (by simpa using h)];show _=some (if _ then _ else _);rw[if_pos h];rfl
 ·rw[if_neg (by simpa using h),hp,Pt];show _=some (if _ then _ else _);rw[if_neg h]
def dL:Nat->List Str->Except (Nat×Int) (List Ln)
 |_,[]=>.ok []
 |i,s::r=>if vH (mZ s)≠0 then .error (i+1,vH (mZ s)) else match dL (i+1) r with
  | .error x=>.error x
  | .ok l=>.ok (lnP (mZ s)::l)
def qy(out:List Ln):Except (Nat×Int) (List Ln)->List Ln×Int×Int×Unit
 | .ok l=>(out++l,0,0,())
 | .error x=>([],(x.1:Int),x.2,())
theorem Gq(l:List Str)(hl:l.length<=1000000)(hs:∀s∈l,s.length<=1000000)(n:Nat):∀(m i:Nat) (out:List Ln),i<=l.length->l.length-i<m->out.length=i ->
  Zda.l5 n m out l (l.length:Int) (i:Int)=some (qy out (dL i (l.drop i))):=by
 intro m
 induction m with
 |zero=>intro i out _ h;omega
 |succ m ih=>
  intro i out hi hm ho;rw[Zda.l5];simp only[dt,PG];by_cases h:i<l.length
  ·have hd:l.drop i=l.getD i []::l.drop (i+1):=by
    rw[P6 h,PD,PH h];rfl
   have hg:l.getD i []∈l:=by rw[PD,PH h];exact Qf h
   have W1:IntKind.i64.wrap ((i:Int)+1)=((i+1:Nat):Int):=by rw[w64 (by omega)];omega
   rw[if_pos (by omega),if_pos (by omega),N9 _ (hs _ hg),Pt,hd,dL,W1];by_cases he:vH (mZ (l.getD i []))≠0;·rw[if_pos he,if_pos he];rfl
   ·rw[if_neg he,if_neg he,if_pos (by simp;omega),ih (i+1) _ (by omega) (by omega) (by simp[ho])];cases dL (i+1) (l.drop (i+1)) with
    |error x=>rfl
    |ok r=>show some (_++r,_)=some (_++_,_);rw[PU];rfl
  ·obtain rfl:i=l.length:=by omega
   rw[if_neg (by omega),PZ,dL];simp[qy]
def eG(s:Str):List Ln×Int×Int×Unit:=
 if 262144<s.length then([],0,2,()) else if 4096<(bK s).length then([],0,2,()) else qy [] (dL 0 (bK s))
theorem Jw(l:List Str)(hl:l.length<=1000000)(hs:∀s∈l,s.length<=1000000):Zda.g l=some (if 4096<l.length then([],0,2,()) else qy [] (dL 0 l)):=by
 unfold Zda.g Zda.f;by_cases h:4096<l.length;·rw[if_pos (by simp;omega),if_pos h]
 ·rw[if_neg (by simp;omega),if_neg h];have:=Gq l hl hs (1000+l.length) (1000+l.length) 0 [] (by omega) (by omega) rfl;rw[PV] at this;exact this
theorem zu:∀s:Str,(L.splitR 10 s).length<=s.length+1
 |[]=>PI _
 |b::s=>by
  have:=zu s;rw[L.splitR];split;·simp;omega
  ·split
   ·simp
   ·rename_i x r hx;rw[hx] at this;simp at this⊢;omega
theorem Hd(s:Str)(hs:s.length<=1000000):Zdb.g s=some (eG s):=by
 unfold Zdb.g Zdb.f eG;by_cases h:262144<s.length;·rw[if_pos (by simp;omega),if_pos h]
 ·rw[if_neg (by simp;omega),if_neg h];have hO:L.splitO s [10]=some (L.splitR 10 s,()):=by unfold L.splitO;dsimp only;rw[if_pos (by omega)]
  have h1:=zu s;have h2:=List.length_pos_iff.2 (BS 10 s);have ht:=uP s;obtain⟨g1,g2⟩:=mW s;rw[hO,Pt];dsimp only;generalize L.splitR 10 s=S at h1 h2 ht;have W:IntKind.i64.wrap ((S.length:Int)-1)=((S.length-1:Nat):Int):=by rw[w64 (by omega)];omega
  have fin:Zdb.j7 (1000+s.length) (lZ S)=some (if 4096<(bK s).length then([],0,2,()) else qy [] (dL 0 (bK s))):=by
   rw[ht];unfold Zdb.j7;rw[Jw _ (by omega) (fun l hl=>by have:=g2 l hl;omega),Pt]
  simp only[dt];rw[W,PG,if_pos (by omega)];unfold lZ at fin;by_cases he:S.getD (S.length-1) []=[]
  ·rw[if_pos he] at fin;rw[if_pos he,if_pos (by omega),PV];exact fin
  ·rw[if_neg he] at fin;rw[if_neg he];exact fin
theorem Am:∀(l:List Str) (i:Nat) (r:List Ln),dL i l=.ok r->r.length=l.length
 |[],i,r,h=>by rw[dL] at h;cases h;rfl
 |s::l,i,r,h=>by
  rw[dL] at h;split at h;·cases h
  ·cases hr:dL (i+1) l with
   |error x=>rw[hr] at h;cases h
   |ok q=>rw[hr] at h;cases h;simp[Am l (i+1) q hr]
theorem Bf{s:Str}(hs:s.length<=4096):eG s=qy [] (dL 0 (bK s)):=by
 unfold eG;have:=(mW s).1;rw[if_neg (by omega),if_neg (by omega)]
end Rv
namespace Rv
open Go
theorem II{c:UInt8}{r:Str}{d:Nat}{q:Int}{t:Str}{v:Int}(h:nU c r=.ok (d,q,t,v)):0<=v/\v<=4294967295:=by
 unfold nU at h;split at h;·cases h;exact⟨by decide,by decide⟩
 ·split at h
  ·split at h
   ·rename_i v' hv;cases h;have:=N7 hv;exact⟨by omega,by omega⟩
   ·cases h
  ·split at h
   ·cases h;exact⟨by decide,by decide⟩
   ·split at h
    ·cases h;exact⟨by decide,by decide⟩
    ·cases h
theorem sF:∀(n:Nat) (k:Int) (s:Str) (l:List Tok),s.length<=n->aX k s=.ok l->wfT l
 |_,k,[],l,_,h=>by rw[lg] at h;cases h;intro t ht;cases ht
 |0,k,c::r,l,hn,_=>by simp at hn
 |n+1,k,c::r,l,hn,h=>by
  simp only[P9] at hn;rw[jQ] at h;split at h;·cases h;intro t ht;cases ht
  ·split at h
   ·exact sF n (k+1) r l (by omega) h
   ·split at h
    ·cases h
    ·rename_i d q tx v hT;have hv:=II hT;split at h
     ·cases h
     ·rename_i l' hl;cases h;intro t ht;rcases PM.1 ht with rfl|ht
      ·exact hv
      ·exact sF n _ _ l' (by simp;omega) hl t ht
theorem CF(s:Str):wfT (aH [] (aX 0 s)).1:=by
 cases h:aX 0 s with
 |error e=>intro t ht;cases ht
 |ok l=>intro t ht;exact sF s.length 0 s l (PI _) h t (by simpa[aH] using ht)
theorem G9(s:Str)(h:vH (mZ s)=0):∃lb m t,(lb=[]\/aK lb=true)/\GoodS m t/\mZ s=smP lb m:=by
 unfold mZ at h⊢;dsimp only at h⊢;by_cases hy:(aH [] (aX 0 s)).2.1≠0;·rw[if_pos hy] at h;exact absurd h hy
 ·rw[if_neg hy] at h⊢;rcases CW (CF s) with⟨e,he,hp⟩|hp
  ·rw[hp] at h;have h:e=0:=h;omega
  ·exact hp
def AA(x:Ln):Prop:=(x.1=[]\/aK x.1=true)/\∃t,GoodS ⟨x.2.1.1,x.2.1.2.1,x.2.1.2.2.1,x.2.1.2.2.2.1,x.2.1.2.2.2.2.1,x.2.1.2.2.2.2.2.1,x.2.1.2.2.2.2.2.2.1,x.2.1.2.2.2.2.2.2.2.1⟩ t
theorem wG:∀(l:List Str) (i:Nat) (r:List Ln),dL i l=.ok r->∀x∈r,AA x
 |[],i,r,h=>by rw[dL] at h;cases h;intro x hx;cases hx
 |s::l,i,r,h=>by
  rw[dL] at h;split at h;·cases h
  ·rename_i he;have he:vH (mZ s)=0:=by simpa using he
   cases hr:dL (i+1) l with
   |error x=>rw[hr] at h;cases h
   |ok q=>
    rw[hr] at h;cases h;intro x hx;rcases PM.1 hx with rfl|hx;·obtain⟨lb,m,t,h1,h2,h3⟩:=G9 s he;rw[h3];exact⟨h1,t,h2⟩
    ·exact wG l (i+1) q hr x hx
end Rv
namespace Rv
open Go
theorem Nj:Zez.g=some (true,()):=by decide +kernel
theorem Ol(a:List Int)(ha:a.length<=1000000):Zcq.g a a=some (true,()):=by
 have loop:∀(n m i:Nat),i<=a.length->a.length-i<m->Zcq.l4 n m a a (i:Int)=some (true,()):=by
  intro n m
  induction m with
  |zero=>intro i _ h;omega
  |succ m ih=>
   intro i hi hm;rw[Zcq.l4];simp only[dt];by_cases h:i<a.length;·rw[if_pos (by omega),if_pos (by omega),if_pos (by omega),if_neg (by simp),w64 (by omega)];exact ih (i+1) (by omega) (by omega)
   ·rw[if_neg (by omega)]
 unfold Zcq.g Zcq.f;rw[if_neg (by simp)];exact loop _ _ 0 (by omega) (by omega)
end Rv
namespace Rv
open Go
theorem OG(s:Str)(hs:s.length<=9223372036854775807):Zdz.g s=some (s.take 500,()):=by
 unfold Zdz.g Zdz.f;have hmn:mn (s.length:Int) 500=((min s.length 500:Nat):Int):=by unfold mn;split<;>omega
 rw[hmn,if_pos (by omega),PG,PV];rcases Nat.le_total s.length 500 with h|h;·rw[Nat.min_eq_left h,List.take_length,List.take_of_length_le h]
 ·rw[Nat.min_eq_right h]
theorem Mq{s:Sm}{t:Option Tr}(h:GoodS s t):s.nm.length<=12:=by
 cases h with
 |exp hn=>
  unfold bW at hn;simp only[Pz,Px] at hn;exact hn.1.1.1.2
 |_=>exact Nat.zero_le _
theorem JM{x:Item}(h:aZ x):x.2.2.1.length<=12:=by
 have h3:=h.2.2;unfold aj at h3;split at h3;·simp only[Px] at h3;rw[h3];simp
 ·split at h3
  ·simp only[Pz,Px] at h3;have:=h3.2;unfold aK at this;simp only[Pz,Px] at this;exact this.1.1.1.2
  ·split at h3
   ·simp only[Pz,Px] at h3;rw[h3.2];simp
   ·split at h3
    ·simp only[Pz,Px] at h3;rw[h3.2];simp
    ·cases h3
theorem parsed(s:Str)(hs:s.length<=4096):(eG s).1.length<=s.length/\∀x∈(eG s).1,AA x:=by
 rw[Bf hs];have hl:=(mW s).1;cases h:dL 0 (bK s) with
 |error e=>exact⟨Nat.zero_le _,fun x hx=>by cases hx⟩
 |ok l=>
  have:=Am _ _ _ h;refine⟨by show([]++l).length<=_;rw[Qi];omega,fun x hx=>wG _ _ _ h x (by simpa[qy] using hx)⟩
def qO(s:Str):Ab:=if(eG s).2.2.1≠0 then lM (eG s).2.1 (eG s).2.2.1 else pJ (eG s).1
theorem Nn(s:Str)(hs:s.length<=1000000)(h1:(eG s).1.length<=1000)(h2:∀x∈(eG s).1,(eL x).length<=4611686018427387904):Zde.g s=some (qO s):=by
 unfold Zde.g Zde.f qO;rw[Hd s hs,Pt];simp only[dt];by_cases h:(eG s).2.2.1=0;·rw[if_neg (by simpa using h),if_neg (by simpa using h),Ag _ h1 h2,Pt]
 ·rw[if_pos (by simpa using h),if_pos (by simpa using h)];rfl
theorem NN{x:Ln}(h:AA x):(eL x).length<=4611686018427387904:=by
 obtain⟨_,t,ht⟩:=h;have:(eL x).length<=64:=(kZ ht).1;omega
theorem Ow(s:Str)(hs:s.length<=600):Zde.g s=some (qO s):=by
 obtain⟨h1,h2⟩:=parsed s (by omega);exact Nn s (by omega) (by omega) fun x hx=>NN (h2 x hx)
theorem xN(l:List Ln)(hl:l.length<=1000):(pJ l).1.length<=10000/\(pJ l).2.1.length<=10000/\(pJ l).2.2.1.length<=10000:=by
 unfold pJ Fb;by_cases h:(bG l).2.2.2.2.2.2.1=0
 ·obtain⟨h1,h2,h3,_⟩:=oq l h;rw[if_neg (by simpa using h)];cases hw:ic (bG l).2.1 (bG l).2.2.1 (bG l).2.2.2.1 (bG l).2.2.2.2.1 (bG l).1 l 0 ([],[],[]) with
  |error x=>exact⟨Nat.zero_le _,Nat.zero_le _,Nat.zero_le _⟩
  |ok r=>
   have w1:=AU (j:=0) (r:=([],[],[])) ⟨PI _,PI _,PI _,List.Pairwise.nil⟩ hw;have w2:=Bj (bG l).2.2.1 w1;have a:=w2.w;have b:=w2.s;have c:=w2.y;unfold pY;dsimp only;split;·exact⟨Nat.zero_le _,Nat.zero_le _,Nat.zero_le _⟩
   ·exact⟨by show(gV _ r).1.length<=_;omega,by show(gV _ r).2.1.length<=_;omega,by show(gV _ r).2.2.length<=_;omega⟩
 ·rw[if_pos (by simpa using h)];exact⟨Nat.zero_le _,Nat.zero_le _,Nat.zero_le _⟩
theorem Np(s:Str)(hs:s.length<=600):(qO s).1.length<=10000/\(qO s).2.1.length<=10000/\(qO s).2.2.1.length<=10000:=by
 unfold qO;split;·exact⟨Nat.zero_le _,Nat.zero_le _,Nat.zero_le _⟩
 ·exact xN _ (by have:=(parsed s (by omega)).1;omega)
end Rv
namespace Rv
open Go
abbrev RX(q:Nat):=au q
theorem jG(c:UInt8)(l:List az)(p:Nat)(hl:l.length<=1000000)(e:Int):Zbq.g [c] l p e=if dR l p c=true then some (true,l,((p+1:Nat):Int),e,()) else some (false,l,(p:Int),e,()):=by
 unfold Zbq.g Zbq.f;simp only[dt,PG];rw[if_pos (by omega)];by_cases h:dR l p c=true;·obtain⟨h1,h2,h3⟩:=bC.1 h;rw[if_pos h,if_pos (by omega),if_pos (by omega),if_pos h2,if_pos (by omega),if_pos h3,w64 (by omega)];rfl
 ·rw[if_neg h];by_cases h1:p<l.length
  ·rw[if_pos (by omega),if_pos (by omega)];by_cases h2:(l.getD p aT).1=3
   ·rw[if_pos h2,if_pos (by omega),if_neg (fun h3=>h (bC.2 ⟨h1,h2,h3⟩))]
   ·rw[if_neg h2]
  ·rw[if_neg (by omega)]
def vg(l:List az)(B:Nat)(r:Option (List Item×List az×Int×Int×Unit)):XR->Prop
 | .ok x=>r=some (x.1,l,(x.2:Int),0,())
 | .error e=>∃it p',r=some (it,l,p',e,())/\it.length<=B
def rFq(l:List az)(q:Nat):Prop:=∀(p Q:Nat),p<=3000000->3*q+1<=Q->vg l (4000000*q+10) ((RX Q).rivetref15_parser_factor ((9-q:Nat):Int) l p 0) (pF l q p)
def rTq(l:List az)(q:Nat):Prop:=∀(p Q:Nat),p<=2000000->3*q+2<=Q->vg l (4000000*q+1000100) ((RX Q).rivetref15_parser_term ((9-q:Nat):Int) l p 0) (xT l (pF l q) p)
def rSq(l:List az)(q:Nat):Prop:=∀(p Q:Nat),p<=2000000->3*q+3<=Q->vg l (4000000*q+2000300) ((RX Q).rivetref15_parser_sum ((9-q:Nat):Int) l p 0) (xS l (pF l q) p)
theorem M4{l:List az}(hl:l.length<=1000000){q:Nat}(hq9:q<=9)(hF:rFq l q)(n Q:Nat)(hQ:3*q+1<=Q):∀(m M:Nat) (it:List Item) (p:Nat),l.length-p<m->l.length-p<M->p<=l.length->it.length<=p ->
  vg l (4000000*q+1000100) (rivetref15_parser_term.l2 n (RX Q) M ((9-q:Nat):Int) it l p 0) (lT l (pF l q) m it p):=by
 intro m
 induction m with
 |zero=>intro M it p h;omega
 |succ m ih=>
  intro M it p hm hM hp hit;obtain⟨M,rfl⟩:∃M',M=M'+1:=⟨M-1,by omega⟩
  rw[rivetref15_parser_term.l2,jG 42 l p hl,lT,if_pos (by decide)];by_cases hs:dR l p 42=true
  ·have hlt:=mq hs;rw[if_pos hs,if_pos hs,Pt];dsimp only;rw[if_pos rfl];have hg:=bM l q (p+1);have hr:=hF (p+1) Q (by omega) hQ;cases hx:pF l q (p+1) with
   |error e=>
    rw[hx] at hr;obtain⟨it',p',h1,h2⟩:=hr;have hne:=gZ hg hx;rw[h1,Pt];dsimp only;rw[if_pos (by omega),if_pos (by simp;omega)];obtain⟨M,rfl⟩:∃M',M=M'+1:=⟨M-1,by omega⟩
    rw[rivetref15_parser_term.l2,if_neg (by simpa using hne)];exact⟨_,p',rfl,by simp;omega⟩
   |ok r=>
    rw[hx] at hr hg;have hr:(RX Q).rivetref15_parser_factor ((9-q:Nat):Int) l ((p+1:Nat):Int) 0=some (r.1,l,(r.2:Int),0,()):=hr;have g1:=hg.lt;have g2:=hg.len;have g3:=hg.le;rw[hr,Pt];dsimp only;rw[if_pos (by omega),if_pos (by simp;omega)];exact ih M (it++r.1++[(6,0,[],())]) r.2 (by omega) (by omega) g3 (by simp;omega)
  ·rw[if_neg hs,if_neg hs,Pt];rfl
theorem Lx{l:List az}(hl:l.length<=1000000){q:Nat}(hq9:q<=9)(hF:rFq l q):rTq l q:=by
 intro p Q hp hQ;obtain⟨Q,rfl⟩:∃Q',Q=Q'+1:=⟨Q-1,by omega⟩
 have e:(RX (Q+1)).rivetref15_parser_term ((9-q:Nat):Int) l (p:Int) 0=rivetref15_parser_term.h (RX Q) ((9-q:Nat):Int) l (p:Int) 0:=rfl;rw[e];unfold rivetref15_parser_term.h rivetref15_parser_term.f;obtain⟨N,hN⟩:∃N,1000+(((9-q:Nat):Int)).toNat+l.length+(p:Int).toNat+(0:Int).toNat=N:=⟨_,rfl⟩
 rw[hN];have hg:=bM l q p;have hr:=hF p Q (by omega) (by omega);unfold xT;cases hx:pF l q p with
 |error e=>
  rw[hx] at hr;obtain⟨it',p',h1,h2⟩:=hr;have hne:=gZ hg hx;rw[h1,Pt];dsimp only;obtain⟨M,rfl⟩:∃M',N=M'+1:=⟨N-1,by omega⟩
  rw[rivetref15_parser_term.l2,if_neg (by simpa using hne)];exact⟨it',p',rfl,by omega⟩
 |ok r=>
  rw[hx] at hr hg;have hr:(RX Q).rivetref15_parser_factor ((9-q:Nat):Int) l (p:Int) 0=some (r.1,l,(r.2:Int),0,()):=hr;have g1:=hg.lt;have g2:=hg.len;have g3:=hg.le;rw[hr,Pt];exact M4 hl hq9 hF N Q (by omega) (l.length+1) N r.1 r.2 (by omega) (by omega) g3 (by omega)
theorem M3{l:List az}(hl:l.length<=1000000){q:Nat}(hq9:q<=9)(hT:rTq l q)(n Q:Nat)(hQ:3*q+2<=Q):∀(m M:Nat) (it:List Item) (p:Nat),l.length-p<m->l.length-p<M->p<=l.length->it.length<=p ->
  vg l (4000000*q+2000300) (rivetref15_parser_sum.l2 n (RX Q) M ((9-q:Nat):Int) it l p 0) (lS l (xT l (pF l q)) m it p):=by
 intro m
 induction m with
 |zero=>intro M it p h;omega
 |succ m ih=>
  intro M it p hm hM hp hit;obtain⟨M,rfl⟩:∃M',M=M'+1:=⟨M-1,by omega⟩
  rw[rivetref15_parser_sum.l2,jG 43 l p hl,lS,if_pos (by decide)];have step:∀K:Int,p<l.length->vg l (4000000*q+2000300) (rivetref15_parser_sum.j8 n (RX Q) (rivetref15_parser_sum.l2 n (RX Q) M) ((9-q:Nat):Int) it K l ((p+1:Nat):Int) 0)
    (match xT l (pF l q) (p+1) with | .error e=>.error e | .ok r=>lS l (xT l (pF l q)) m (it++r.1++[(K,0,[],())]) r.2):=by
   intro K hlt;unfold rivetref15_parser_sum.j8;have hg:=mh (bM l q) (p+1);have hr:=hT (p+1) Q (by omega) hQ;cases hx:xT l (pF l q) (p+1) with
   |error e=>
    rw[hx] at hr;obtain⟨it',p',h1,h2⟩:=hr;have hne:=gZ hg hx;rw[h1,Pt];dsimp only;rw[if_pos (by omega),if_pos (by simp;omega)];obtain⟨M,rfl⟩:∃M',M=M'+1:=⟨M-1,by omega⟩
    rw[rivetref15_parser_sum.l2,if_neg (by simpa using hne)];exact⟨_,p',rfl,by simp;omega⟩
   |ok r=>
    rw[hx] at hr hg;have hr:(RX Q).rivetref15_parser_term ((9-q:Nat):Int) l ((p+1:Nat):Int) 0=some (r.1,l,(r.2:Int),0,()):=hr;have g1:=hg.lt;have g2:=hg.len;have g3:=hg.le;rw[hr,Pt];dsimp only;rw[if_pos (by omega),if_pos (by simp;omega)];exact ih M (it++r.1++[(K,0,[],())]) r.2 (by omega) (by omega) g3 (by simp;omega)
  by_cases hs:dR l p 43=true;·rw[if_pos hs,if_pos hs,Pt];dsimp only;rw[if_neg (by decide)];exact step 4 (mq hs)
  ·rw[if_neg hs,if_neg hs,Pt];dsimp only;rw[if_pos (by decide),jG 45 l p hl];by_cases hs2:dR l p 45=true
   ·rw[if_pos hs2,if_pos hs2,Pt];dsimp only;rw[if_neg (by decide)];exact step 5 (mq hs2)
   ·rw[if_neg hs2,if_neg hs2,Pt];rfl
theorem Lv{l:List az}(hl:l.length<=1000000){q:Nat}(hq9:q<=9)(hT:rTq l q):rSq l q:=by
 intro p Q hp hQ;obtain⟨Q,rfl⟩:∃Q',Q=Q'+1:=⟨Q-1,by omega⟩
 have e:(RX (Q+1)).rivetref15_parser_sum ((9-q:Nat):Int) l (p:Int) 0=rivetref15_parser_sum.h (RX Q) ((9-q:Nat):Int) l (p:Int) 0:=rfl;rw[e];unfold rivetref15_parser_sum.h rivetref15_parser_sum.f;obtain⟨N,hN⟩:∃N,1000+(((9-q:Nat):Int)).toNat+l.length+(p:Int).toNat+(0:Int).toNat=N:=⟨_,rfl⟩
 rw[hN];have hg:=mh (bM l q) p;have hr:=hT p Q (by omega) (by omega);unfold xS;cases hx:xT l (pF l q) p with
 |error e=>
  rw[hx] at hr;obtain⟨it',p',h1,h2⟩:=hr;have hne:=gZ hg hx;rw[h1,Pt];dsimp only;obtain⟨M,rfl⟩:∃M',N=M'+1:=⟨N-1,by omega⟩
  rw[rivetref15_parser_sum.l2,if_neg (by simpa using hne)];exact⟨it',p',rfl,by omega⟩
 |ok r=>
  rw[hx] at hr hg;have hr:(RX Q).rivetref15_parser_term ((9-q:Nat):Int) l (p:Int) 0=some (r.1,l,(r.2:Int),0,()):=hr;have g1:=hg.lt;have g2:=hg.len;have g3:=hg.le;rw[hr,Pt];exact M3 hl hq9 hT N Q (by omega) (l.length+1) N r.1 r.2 (by omega) (by omega) g3 (by omega)
theorem OV{l:List az}(hl:l.length<=1000000)(hlen:∀t∈l,t.2.2.1.length<=100000){q:Nat}(hq9:q+1<=9)(hF:rFq l q)(hS:rSq l q):rFq l (q+1):=by
 intro p Q hp hQ;obtain⟨Q,rfl⟩:∃Q',Q=Q'+1:=⟨Q-1,by omega⟩
 have e:(RX (Q+1)).rivetref15_parser_factor ((9-(q+1):Nat):Int) l (p:Int) 0=rivetref15_parser_factor.h (RX Q) ((9-(q+1):Nat):Int) l (p:Int) 0:=rfl;rw[e];unfold rivetref15_parser_factor.h rivetref15_parser_factor.f;have hd:IntKind.i64.wrap (((9-(q+1):Nat):Int)+1)=((9-q:Nat):Int):=by rw[w64 (by omega)];omega
 rw[if_neg (by simp;omega),jG 45 l p hl,hd];show vg l _ _ (xF l (xS l (pF l q)) (pF l q) p);unfold xF;by_cases h1:dR l p 45=true
 ·have hlt:=mq h1;rw[if_pos h1,if_pos h1,Pt];dsimp only;rw[if_pos rfl];have hg:=bM l q (p+1);have hr:=hF (p+1) Q (by omega) (by omega);cases hx:pF l q (p+1) with
  |error e=>
   rw[hx] at hr;obtain⟨it',p',g1,g2⟩:=hr;rw[g1,Pt];dsimp only;rw[if_pos (by simp;omega)];exact⟨_,p',rfl,by simp;omega⟩
  |ok r=>
   rw[hx] at hr hg;have hr:(RX Q).rivetref15_parser_factor ((9-q:Nat):Int) l ((p+1:Nat):Int) 0=some (r.1,l,(r.2:Int),0,()):=hr;have g1:=hg.lt;have g2:=hg.len;have g3:=hg.le;rw[hr,Pt];dsimp only;rw[if_pos (by simp;omega)];rfl
 ·rw[if_neg h1,if_neg h1,Pt];dsimp only;rw[if_neg (by decide),jG 40 l p hl];by_cases h2:dR l p 40=true
  ·have hlt:=mq h2;rw[if_pos h2,if_pos h2,Pt];dsimp only;rw[if_pos rfl];have hg:=jB (bM l q) (p+1);have hr:=hS (p+1) Q (by omega) (by omega);cases hx:xS l (pF l q) (p+1) with
   |error e=>
    rw[hx] at hr;obtain⟨it',p',g1,g2⟩:=hr;have hne:=gZ hg hx;rw[g1,Pt];dsimp only;rw[if_neg (by simpa using hne)];exact⟨_,p',rfl,by omega⟩
   |ok r=>
    rw[hx] at hr hg;have hr:(RX Q).rivetref15_parser_sum ((9-q:Nat):Int) l ((p+1:Nat):Int) 0=some (r.1,l,(r.2:Int),0,()):=hr;have g1:=hg.lt;have g2:=hg.len;have g3:=hg.le;rw[hr,Pt];dsimp only;rw[if_pos (show decide ((0:Int)=0)=true by decide),jG 41 l r.2 hl];by_cases h3:dR l r.2 41=true;·rw[if_pos h3,if_pos h3,Pt];rfl
    ·rw[if_neg h3,if_neg h3,Pt];exact⟨r.1,(r.2:Int),rfl,by omega⟩
  ·rw[if_neg h2,if_neg h2,Pt];dsimp only;rw[if_neg (by decide),if_pos (by simp)];by_cases hp':p<l.length
   ·rw[if_neg (by simp;omega),if_pos (by omega),PG];have hmem:=hlen _ (kY hp');have W1:IntKind.i64.wrap ((p:Int)+1)=((p+1:Nat):Int):=by rw[w64 (by omega)];omega
    rw[W1];have hz:∀t:az,l.getD p t=l.getD p aT:=fun t=>by rw[PD,PD,PH hp'];rfl
    rw[hz];generalize l.getD p aT=t at hmem;by_cases k2:t.1=2;·rw[if_pos (by simpa using k2),if_pos ⟨hp',k2⟩];rfl
    ·rw[if_neg (show ¬decide (t.1=2)=true by simpa using k2),if_neg (show ¬(p<l.length/\t.1=2) from fun g=>k2 g.2)];by_cases k1:t.1=1
     ·rw[if_pos (show decide (t.1=1)=true by simpa using k1),tN _ hmem,Pt];cases hL:aK t.2.2.1 with
      |true=>
       rw[if_pos rfl,if_pos ⟨hp',k1,rfl⟩];rfl
      |false=>
       rw[if_neg (by decide),if_neg (fun g=>by cases g.2.2)];exact⟨[],_,rfl,by simp⟩
     ·rw[if_neg (show ¬decide (t.1=1)=true by simpa using k1),if_neg (show ¬(p<l.length/\t.1=1/\aK t.2.2.1=true) from fun g=>k1 g.2.1)];exact⟨[],_,rfl,by simp⟩
   ·rw[if_pos (by simp;omega),if_neg (fun g=>hp' g.1),if_neg (fun g=>hp' g.1)];exact⟨[],_,rfl,by simp⟩
theorem M0(l:List az):rFq l 0:=by
 intro p Q _ hQ;obtain⟨Q,rfl⟩:∃Q',Q=Q'+1:=⟨Q-1,by omega⟩
 exact⟨[],(p:Int),rfl,by simp⟩
theorem Hy{l:List az}(hl:l.length<=1000000)(hlen:∀t∈l,t.2.2.1.length<=100000):∀q,q<=9->rFq l q
 |0,_=>M0 l
 |q+1,h=>by
  have hF:=Hy hl hlen q (by omega);exact OV hl hlen h hF (Lv hl (by omega) (Lx hl (by omega) hF))
theorem FK{l:List az}(hl:l.length<=1000000)(hlen:∀t∈l,t.2.2.1.length<=100000)(p:Nat)(hp:p<=2000000):Zei.g l p=some (dM l p):=by
 unfold Zei.g Zei.f rivetref15_parser_sum.g dM;have hF:=Hy hl hlen 9 (by decide);have hr:=Lv hl (q:=9) (by decide) (Lx hl (by decide) hF) p (1000+(0:Int).toNat+l.length+(p:Int).toNat+(0:Int).toNat) hp (by omega);have hg:=jB (bM l 9) p;rw[show((9-9:Nat):Int)=0 from rfl] at hr;cases hx:xS l (pF l 9) p with
 |error e=>
  rw[hx] at hr;obtain⟨it',p',g1,g2⟩:=hr;have hne:=gZ hg hx;rw[g1,Pt];dsimp only;rw[if_pos (by simpa using hne)]
 |ok r=>
  rw[hx] at hr;have hr:(RX (1000+(0:Int).toNat+l.length+(p:Int).toNat+(0:Int).toNat)).rivetref15_parser_sum 0 l (p:Int) 0=some (r.1,l,(r.2:Int),0,()):=hr;rw[hr,Pt];dsimp only;rw[if_neg (show ¬decide ((0:Int)≠0)=true by decide)];by_cases h:64<r.1.length;·rw[if_pos (by simp;omega),if_pos h]
  ·rw[if_neg (by simp;omega),if_neg h]
end Rv
namespace Rv
open Go
theorem FL:((List.range 16).all fun k=>decide (Zfd.g (k:Int)=some (iH k,())))=true:=by decide +kernel
theorem Ii(k:Nat)(hk:k<16):Zfd.g (k:Int)=some (iH k,()):=by
 have:=PX.1 FL k (List.mem_range.2 hk);simpa using this
theorem Ij(s:Str)(n:Nat):∀(m i:Nat),i<=16->16-i<m->(∀k,k<i->iH k≠s)->Zcj.l2 n m s (i:Int)=some ((aQ s).1,(aQ s).2,()):=by
 intro m
 induction m with
 |zero=>intro i _ h;omega
 |succ m ih=>
  intro i hi hm hno;unfold Zcj.l2;by_cases hlt:i<16
  ·rw[if_pos (by simp;omega),Ii i hlt,Pt];dsimp only;by_cases e:iH i=s
   ·rw[if_pos (by simp[e])];have:aQ s=((i:Int),true):=by
     unfold aQ;cases hf:(List.range 16).find? (fun k=>iH k == s) with
     |none=>exact absurd e (by have:=List.find?_eq_none.1 hf i (List.mem_range.2 hlt);simpa using this)
     |some k=>
      obtain⟨h1,h2⟩:=lX hf;have hge:¬k<i:=fun h=>hno k h h2
      have hle:¬i<k:=fun h=>by
       rw[List.find?_eq_some_iff_getElem] at hf;obtain⟨_,j,hj,hjk,hb⟩:=hf;have hjk':j=k:=by simpa using hjk
       have:=hb i (by omega);simp[e] at this
      have:k=i:=by omega
      rw[this]
    rw[this]
   ·rw[if_neg (by simp[e])];have w1:IntKind.i64.wrap ((i:Int)+1)=((i+1:Nat):Int):=by rw[w64 (by omega)];omega
    rw[w1];exact ih (i+1) (by omega) (by omega) fun k hk=>by
     by_cases h:k=i;·rw[h];exact e
     ·exact hno k (by omega)
  ·rw[if_neg (by simp;omega)];have:aQ s=(0,false):=by
    unfold aQ;cases hf:(List.range 16).find? (fun k=>iH k == s) with
    |none=>rfl
    |some k=>
     obtain⟨h1,h2⟩:=lX hf;exact absurd h2 (hno k (by omega))
   rw[this]
theorem D8(s:Str):Zcj.g s=some ((aQ s).1,(aQ s).2,()):=by
 unfold Zcj.g Zcj.f;exact Ij s _ _ 0 (by omega) (by omega) fun k hk=>by omega
def LA(k:Nat):Bool:=(List.range 16).all fun o=>[true,false].all fun u=>decide (Zag.g (k:Int) (o:Int) u=some (L.mnemR (k:Int) (o:Int) u,()))
theorem Na:((List.range 11).all LA)=true:=by decide +kernel
theorem GZ{k o:Int}{u:Bool}(h:k<0\/10<k\/o<0\/15<o):L.mnemR k o u=[]:=by
 by_cases e:L.mnemR k o u=[]
 ·exact e
 ·have:=(uu e).2;omega
theorem BF(k o:Int)(u:Bool):Zag.g k o u=some (L.mnemR k o u,()):=by
 by_cases h:k<0\/10<k\/o<0\/15<o
 ·rw[GZ h];unfold Zag.g;generalize 1000+k.toNat+o.toNat=n;have h23:Zag.j23 n k o=some ([],()):=by
   unfold Zag.j23;by_cases h0:o=0;·rw[if_neg (by simp[h0]),if_neg (by simp;omega),if_neg (by simp;omega),if_neg (by simp;omega),if_neg (by simp;omega),if_neg (by simp;omega)]
   ·rw[if_pos (by simp[h0])]
  have h21:Zag.j21 n k o=some ([],()):=by
   unfold Zag.j21;by_cases h0:k=5
   ·rw[if_pos (by simp[h0])];by_cases h1:0<=o
    ·rw[if_pos (by simpa using h1),if_neg (by simp;omega)];exact h23
    ·rw[if_neg (by simpa using h1)];exact h23
   ·rw[if_neg (by simp[h0])];exact h23
  have h17:Zag.j17 n k o u=some ([],()):=by
   unfold Zag.j17;cases u with
   |true=>rw[if_pos rfl]
   |false=>
    rw[if_neg (by decide)];by_cases h0:k=1
    ·rw[if_pos (by simp[h0])];by_cases h1:0<=o
     ·rw[if_pos (by simpa using h1),if_neg (by simp;omega)];exact h21
     ·rw[if_neg (by simpa using h1)];exact h21
    ·rw[if_neg (by simp[h0])];exact h21
  have st:∀(c:Int) (x y:Option (Str×Unit)),(0<=c/\c<=15)->y=some ([],())->(if(decide (k=1))=true then(if u=true then(if(decide (o=c))=true then x else y) else y) else y)=some ([],()):=by
   intro c x y hc hy;by_cases h0:k=1
   ·rw[if_pos (by simp[h0])];split
    ·rw[if_neg (by simp;omega)];exact hy
    ·exact hy
   ·rw[if_neg (by simp[h0])];exact hy
  have h9:Zag.j9 n k o u=some ([],()):=by
   unfold Zag.j9;refine st 0 _ _ (by omega) ?_;unfold Zag.j11;refine st 8 _ _ (by omega) ?_;unfold Zag.j13;refine st 9 _ _ (by omega) ?_;unfold Zag.j15;exact st 10 _ _ (by omega) h17
  unfold Zag.f;by_cases h0:k=7
  ·rw[if_pos (by simp[h0])];by_cases h1:0<=o
   ·rw[if_pos (by simpa using h1),if_neg (by simp;omega)];exact h9
   ·rw[if_neg (by simpa using h1)];exact h9
  ·rw[if_neg (by simp[h0])];exact h9
 ·obtain⟨a,rfl⟩:∃a:Nat,k=(a:Int):=⟨k.toNat,by omega⟩
  obtain⟨b,rfl⟩:∃b:Nat,o=(b:Int):=⟨o.toNat,by omega⟩
  have h1:=PX.1 Na a (List.mem_range.2 (by omega));unfold LA at h1;have h2:=PX.1 h1 b (List.mem_range.2 (by omega));have h3:=PX.1 h2 u (by cases u<;>simp);simpa using h3
theorem Ic(s:Str)(rl:Str->Int->Option (Int×Int×Bool×Bool×Unit))(k:Nat)(hk:k<11)(n:Nat):∀(m i:Nat),i<=16->16-i<m ->
  (∀(j:Nat) u,j<i->L.mnemR k j u≠s) ->
  (∃o u,L.mnemR k o u=s/\s≠[]/\Zba.l7 n rl m s (k:Int) (i:Int)=some ((k:Int),o,u,true,()))\/((s≠[]->∀o u,L.mnemR k o u≠s)/\(s≠[]->Zba.l7 n rl m s (k:Int) (i:Int)=rl s (IntKind.i64.wrap ((k:Int)+1))))\/s=[]:=by
 intro m
 induction m with
 |zero=>intro i _ h;omega
 |succ m ih=>
  intro i hi hm hno;by_cases hs:s=[]
  ·exact Or.inr (Or.inr hs)
  unfold Zba.l7;by_cases hlt:i<16
  ·rw[if_pos (by simp;omega),BF,Pt];dsimp only;by_cases e1:L.mnemR (k:Int) (i:Int) false=s
   ·rw[if_pos (by simp[e1])];exact Or.inl ⟨_,_,e1,hs,rfl⟩
   ·rw[if_neg (by simp[e1]),BF,Pt];dsimp only;by_cases e2:L.mnemR (k:Int) (i:Int) true=s
    ·rw[if_pos (by simp[e2])];exact Or.inl ⟨_,_,e2,hs,rfl⟩
    ·rw[if_neg (by simp[e2])];have w1:IntKind.i64.wrap ((i:Int)+1)=((i+1:Nat):Int):=by rw[w64 (by omega)];omega
     rw[w1];exact ih (i+1) (by omega) (by omega) fun j u hj=>by
      by_cases h:j=i;·subst h;cases u<;>assumption
      ·exact hno j u (by omega)
  ·rw[if_neg (by simp;omega)];refine Or.inr (Or.inl ⟨fun _ o u e=>?_,fun _=>rfl⟩);have hr:=(uu (e ▸ hs:L.mnemR (k:Int) o u≠[])).2;obtain⟨j,rfl⟩:∃j:Nat,o=(j:Int):=⟨o.toNat,by omega⟩
   exact hno j u (by omega) e
theorem FB(s:Str)(hs:s≠[])(n:Nat)(hn:16<n):∀(m k:Nat),k<=11->11-k<m->(∀(j:Nat) o u,j<k->L.mnemR j o u≠s)->Zba.l4 n m s (k:Int)=some (L.ofR s):=by
 intro m
 induction m with
 |zero=>intro k _ h;omega
 |succ m ih=>
  intro k hk hm hno;unfold Zba.l4;by_cases hlt:k<11
  ·rw[if_pos (by simp;omega)];rcases Ic s (Zba.l4 n m) k hlt n n 0 (by omega) (by omega) (fun j u hj=>by omega) with⟨o,u,e,_,h⟩|⟨h1,h2⟩|h
   ·have h':Zba.l7 n (Zba.l4 n m) n s (k:Int) 0=some ((k:Int),o,u,true,()):=h;rw[h',<- e,(uu (e ▸ hs:L.mnemR (k:Int) o u≠[])).1]
   ·have h':Zba.l7 n (Zba.l4 n m) n s (k:Int) 0=Zba.l4 n m s (IntKind.i64.wrap ((k:Int)+1)):=h2 hs;rw[h'];have w1:IntKind.i64.wrap ((k:Int)+1)=((k+1:Nat):Int):=by rw[w64 (by omega)];omega
    rw[w1];exact ih (k+1) (by omega) (by omega) fun j o u hj=>by
     by_cases h:j=k;·subst h;exact h1 hs o u
     ·exact hno j o u (by omega)
   ·exact absurd h hs
  ·rw[if_neg (by simp;omega)];rw[Ki fun k' o' u' e=>by
    by_cases h0:s=[]
    ·exact h0
    ·exfalso;have hr:=(uu (e ▸ h0:L.mnemR k' o' u'≠[])).2;obtain⟨j,rfl⟩:∃j:Nat,k'=(j:Int):=⟨k'.toNat,by omega⟩
     exact hno j o' u' (by omega) e]
theorem KH(s:Str):Zba.g s=some (L.ofR s):=by
 unfold Zba.g Zba.f;by_cases h:s=[]
 ·rw[if_pos (by simp[h]),h];rfl
 ·rw[if_neg (by simp[h])];exact FB s h _ (by omega) _ 0 (by omega) (by omega) fun j o u hj=>by omega
end Rv
namespace Rv
open Go
section
variable{l:List az}(hl:l.length<=1000000)(hlen:∀t∈l,t.2.2.1.length<=100000)
theorem qH(kd:Int)(l:List az)(p:Nat)(e:Int):Zcd.g kd l p e=some (pk kd l p e,l,(p:Int),e,()):=by
 unfold Zcd.g Zcd.f pk;simp only[dt,PG];by_cases h:e=0
 ·rw[if_pos h];by_cases hp:p<l.length
  ·rw[if_pos (by omega),if_pos (by omega)];by_cases hk:(l.getD p aT).1=kd
   ·rw[if_pos hk,if_pos (by omega),if_pos ⟨h,hp,hk⟩]
   ·rw[if_neg hk,if_neg (fun g=>hk g.2.2)]
  ·rw[if_neg (by omega),if_neg (fun g=>hp g.2.1)]
 ·rw[if_neg h,if_neg (fun g=>h g.1)]
theorem dW(l:List az)(p:Nat)(hp:p<=9000000)(e:Int):Zbd.g l p e=some ((aQ (pk 1 l p e)).1,l,((p+1:Nat):Int),chk (aQ (pk 1 l p e)).2 e,()):=by
 unfold Zbd.g Zbd.f;rw[qH,Pt];dsimp only;rw[D8,Pt];unfold Zbd.j4 chk;dsimp only;rw[w64 (by omega),show(p:Int)+1=((p+1:Nat):Int) by omega];cases(aQ (pk 1 l p e)).2
 ·by_cases h:e=0
  ·rw[if_pos (by decide),if_pos (by simpa using h),if_pos ⟨rfl,h⟩]
  ·rw[if_pos (by decide),if_neg (by simpa using h),if_neg (fun g=>h g.2)]
 ·rw[if_neg (by decide),if_neg (fun g=>by cases g.1)]
theorem kG(s:Str)(l:List az)(p:Nat)(hp:p<=9000000)(e:Int):Zbt.g s l p e=some (l,((p+1:Nat):Int),chk (decide (pk 3 l p e=s)) e,()):=by
 unfold Zbt.g Zbt.f;rw[qH,Pt];unfold Zbt.j2 chk;dsimp only;rw[w64 (by omega),show(p:Int)+1=((p+1:Nat):Int) by omega];by_cases hs:pk 3 l p e=s;·rw[decide_eq_true hs,if_neg (by decide),if_neg (fun g=>by cases g.1)]
 ·rw[decide_eq_false hs,if_pos (by decide)];by_cases h:e=0
  ·rw[if_pos (by simpa using h),if_pos ⟨rfl,h⟩]
  ·rw[if_neg (by simpa using h),if_neg (fun g=>h g.2)]
include hl hlen in
theorem qI(p:Nat)(hp:p<=2000000)(e:Int)(s:Sm)(hs:s.e=[]):Zce.g l p e=some ((rdE l p e s).2.2.e,l,((rdE l p e s).1:Int),(rdE l p e s).2.1,()):=by
 unfold Zce.g Zce.f rdE;by_cases h:e=0;·rw[if_neg (by simpa using h),FK hl hlen p hp,Pt,if_pos h];dsimp only;rw[<- (sU l p).1]
 ·rw[if_pos (by simpa using h),if_neg h,hs]
abbrev smQ(l:List az)(r:Nat×Int×Sm):Int×Int×Int×Int×Int×Bool×List Item×Str×List az×Int×Int×Unit:=(r.2.2.k,r.2.2.o,r.2.2.a,r.2.2.b,r.2.2.c,r.2.2.u,r.2.2.e,r.2.2.nm,l,(r.1:Int),r.2.1,())
theorem vY(p:Nat)(e:Int)(s:Sm):(rdE l p e s).2.2={ s with e:=(rdE l p e s).2.2.e }:=by unfold rdE;split<;>rfl
include hl hlen in
theorem xA(s:Sm)(hs:s.e=[])(rk nk:Int)(p:Nat)(hp:p<=2000000)(e:Int) :
  Zcm.g s.k s.o s.a s.b s.c s.u s.e s.nm rk nk l p e=some (smQ l (if(aQ (pk 1 l p e)).2=true then rd l p e { s with k:=rk } .C else rd l p e { s with k:=nk } .E)):=by
 unfold Zcm.g Zcm.f Zcm.j7;rw[qH,Pt];dsimp only;rw[D8,Pt];dsimp only;cases hr:(aQ (pk 1 l p e)).2 with
 |true=>
  rw[if_pos rfl,if_pos rfl,dW l p (by omega),Pt];rfl
 |false=>
  rw[if_neg (by decide),if_neg (by decide),qI hl hlen p hp e { s with k:=nk } hs,Pt];show _=some (smQ l (rdE l p e { s with k:=nk }));have hk:=vY (l:=l) p e { s with k:=nk };unfold smQ;rw[hk]
theorem dS{op:Int}{many i p:Nat}{e:Int}{s:Sm}{d:Od}{p1:Nat}{e1:Int}{s1:Sm}(h1:p1=if 0<i then p+1 else p)(h2:e1=if 0<i then chk (decide (pk 3 l p e=[44])) e else e)(h3:s1=if i+1=many then { s with k:=chK l p1 e1 s } else s)(hd:(odL s1.k op)[i]?=some d):ak l op many i p e s=rd l p1 e1 s1 d:=by
 unfold ak;dsimp only;rw[<- h1,<- h2,<- h3,hd]
def oV(l:List az)(k o:Int)(u:Bool)(p:Nat)(e:Int):Nat×Int×Sm:=bQ l o (odL k o).length (odL k o).length 0 (p,e,⟨k,o,0,0,0,u,[],[]⟩)
include hl hlen in
theorem Nb{k o:Int}{u:Bool}(hk:k=1\/k=3\/k=4\/k=5\/k=7\/k=8\/k=9\/k=10)(p:Nat)(hp:p<=1500000)(e:Int) :
  Zaj.g k o 0 0 0 u [] [] l p e=some (smQ l (oV l k o u p e)):=by
 have J35:∀(n:Nat) (p:Nat) (e:Int) (s:Sm) (q r t v w:Int) (x:Bool) (y:List Item) (z:Str),Zaj.j35 n l (p:Int) e s.k s.o s.a s.b s.c s.u s.e s.nm q r t v w x y z=some (smQ l (p,e,s)):=fun _ _ _ _ _ _ _ _ _ _ _ _=>rfl
 have jE:∀(n:Nat) (p:Nat) (e:Int) (s:Sm) (q r t v w:Int) (x:Bool) (y:List Item) (z:Str),s.e=[]->p<=2000000->((Zce.g l p e).bind fun y1=>Zaj.j35 n y1.2.1 y1.2.2.1 y1.2.2.2.1 s.k s.o s.a s.b s.c s.u y1.1 s.nm q r t v w x y z)=some (smQ l (rdE l p e s)):=fun n p e s q r t v w x y z hs hp=>by
  rw[qI hl hlen p hp e s hs,Pt];dsimp only;have hk:=vY (l:=l) p e s;rw[J35 n _ _ { s with e:=(rdE l p e s).2.2.e }];unfold smQ;rw[hk]
 unfold Zaj.g Zaj.f oV;simp only[dt];rcases hk with rfl|rfl|rfl|rfl|rfl|rfl|rfl|rfl
 ·
  rw[if_pos rfl,dW l p (by omega),Pt];dsimp only;rw[kG [44] l (p+1) (by omega),Pt];dsimp only;have J12:∀(n p:Nat) (e:Int) (s:Sm),s.k=1->s.e=[]->p<=2000000->Zaj.j12 n l (p:Int) e s.k s.o s.a s.b s.c s.u s.e s.nm 0 0 0 0 0 false [] []=some (smQ l (rd l p e { s with k:=chK l p e s } (if chK l p e s=1 then .C else .E))):=by
   intro n p e s h1 he hp;unfold Zaj.j12 Zaj.j16;have hch:chK l p e s=if(aQ (pk 1 l p e)).2=false\/(s.u=true/\s.o=0) then 2 else 1:=by
    unfold chK;by_cases hc:(aQ (pk 1 l p e)).2=false\/(s.u=true/\s.o=0)
    ·rw[if_pos ⟨h1,hc⟩,if_pos hc]
    ·rw[if_neg (fun g=>hc g.2),if_neg hc,if_neg (fun g=>by omega),h1]
   have E16:¬(s.u=true/\s.o=0)->((Zcm.g s.k s.o s.a s.b s.c s.u s.e s.nm 1 2 l (p:Int) e).bind fun y1=>some (y1.1,y1.2.1,y1.2.2.1,y1.2.2.2.1,y1.2.2.2.2.1,y1.2.2.2.2.2.1,y1.2.2.2.2.2.2.1,y1.2.2.2.2.2.2.2.1,y1.2.2.2.2.2.2.2.2.1,y1.2.2.2.2.2.2.2.2.2.1,y1.2.2.2.2.2.2.2.2.2.2.1,()))=some (smQ l (rd l p e { s with k:=chK l p e s } (if chK l p e s=1 then .C else .E))):=fun hno=>by
    rw[xA hl hlen s he 1 2 p hp e,Pt];cases hr:(aQ (pk 1 l p e)).2 with
    |true=>
     have:chK l p e s=1:=by rw[hch,if_neg (by rintro(g|g);rw[hr] at g;cases g;exact hno g)]
     rw[this,if_pos rfl,if_pos rfl]
    |false=>
     have:chK l p e s=2:=by rw[hch,if_pos (.inl hr)]
     rw[this,if_neg (by decide),if_neg (by decide)]
   by_cases ho:s.o=0
   ·rw[if_pos (by simpa using ho)];by_cases hu:s.u=true
    ·have:chK l p e s=2:=by rw[hch,if_pos (.inr ⟨hu,ho⟩)]
     rw[if_pos hu,this,if_neg (show ¬(2:Int)=1 by decide),qI hl hlen p hp e { s with k:=2 } he,Pt];dsimp only;show _=some (smQ l (rdE l p e { s with k:=2 }));have hk:=vY (l:=l) p e { s with k:=2 };unfold smQ;rw[hk]
    ·rw[if_neg hu];exact E16 (fun g=>hu g.1)
   ·rw[if_neg (by simpa using ho)];exact E16 (fun g=>ho g.2)
  have last:∀(i p:Nat) (e:Int) (s:Sm),0<i->i+1=(odL 1 o).length->s.k=1->s.o=o->s.e=[]->p<=1900000->∀n,Zaj.j12 n l ((p+1:Nat):Int) (chk (decide (pk 3 l p e=[44])) e) s.k s.o s.a s.b s.c s.u s.e s.nm 0 0 0 0 0 false [] []=some (smQ l (ak l o (odL 1 o).length i p e s)):=by
   intro i p e s hi hm h1 ho he hp n;rw[J12 n (p+1) (chk (decide (pk 3 l p e=[44])) e) s h1 he (by omega)];rw[dS (d:=if chK l (p+1) (chk (decide (pk 3 l p e=[44])) e) s=1 then .C else .E) (p1:=p+1) (by rw[if_pos hi]) (by rw[if_pos hi]) (by rw[if_pos hm])];have hor:chK l (p+1) (chk (decide (pk 3 l p e=[44])) e) s=1\/chK l (p+1) (chk (decide (pk 3 l p e=[44])) e) s=2:=by
    unfold chK;split;·exact .inr rfl
    ·rw[if_neg (fun g=>by omega)];exact .inl h1
   have hi2:(o=0/\i=1)\/(o≠0/\i=2):=by
    unfold odL at hm;rw[if_pos rfl] at hm;split at hm;·left;simp at hm;omega
    ·right;simp at hm;omega
   dsimp only;rcases hor with h|h<;>rw[h]<;>rcases hi2 with⟨rfl,rfl⟩|⟨h0,rfl⟩
   ·rfl
   ·unfold odL;rw[if_pos rfl,if_neg h0];rfl
   ·rfl
   ·unfold odL;rw[if_neg (by decide),if_pos rfl,if_neg h0];rfl
  by_cases ho:o=0;·subst ho;rw[if_neg (by decide)];have s0:ak l 0 2 0 p e ⟨1,0,0,0,0,u,[],[]⟩=rd l p e ⟨1,0,0,0,0,u,[],[]⟩ .A:=dS (p1:=p) (e1:=e) (s1:=⟨1,0,0,0,0,u,[],[]⟩) rfl rfl rfl rfl;show _=some (smQ l (ak l 0 2 1 (ak l 0 2 0 p e ⟨1,0,0,0,0,u,[],[]⟩).1 (ak l 0 2 0 p e ⟨1,0,0,0,0,u,[],[]⟩).2.1 (ak l 0 2 0 p e ⟨1,0,0,0,0,u,[],[]⟩).2.2));rw[s0];exact last 1 (p+1) _ ⟨1,0,_,0,0,u,[],[]⟩ (by decide) rfl rfl rfl rfl (by omega) _
  ·have h3:odL 1 o=[.A,.B,.C]:=by unfold odL;rw[if_pos rfl,if_neg ho]
   rw[if_pos (by simpa using ho),dW l (p+1+1) (by omega),Pt];dsimp only;rw[kG [44] l (p+1+1+1) (by omega),Pt,h3];dsimp only;have s0:ak l o 3 0 p e ⟨1,o,0,0,0,u,[],[]⟩=rd l p e ⟨1,o,0,0,0,u,[],[]⟩ .A:=dS (p1:=p) (e1:=e) (s1:=⟨1,o,0,0,0,u,[],[]⟩) rfl rfl rfl (by dsimp only;rw[h3];rfl);show _=some (smQ l (ak l o 3 2 (ak l o 3 1 (ak l o 3 0 p e ⟨1,o,0,0,0,u,[],[]⟩).1 (ak l o 3 0 p e ⟨1,o,0,0,0,u,[],[]⟩).2.1 (ak l o 3 0 p e ⟨1,o,0,0,0,u,[],[]⟩).2.2).1 (ak l o 3 1 (ak l o 3 0 p e ⟨1,o,0,0,0,u,[],[]⟩).1 (ak l o 3 0 p e ⟨1,o,0,0,0,u,[],[]⟩).2.1 (ak l o 3 0 p e ⟨1,o,0,0,0,u,[],[]⟩).2.2).2.1 (ak l o 3 1 (ak l o 3 0 p e ⟨1,o,0,0,0,u,[],[]⟩).1 (ak l o 3 0 p e ⟨1,o,0,0,0,u,[],[]⟩).2.1 (ak l o 3 0 p e ⟨1,o,0,0,0,u,[],[]⟩).2.2).2.2));rw[s0];have s1:∀(a:Int) (p:Nat) (e:Int),ak l o 3 1 p e ⟨1,o,a,0,0,u,[],[]⟩=rd l (p+1) (chk (decide (pk 3 l p e=[44])) e) ⟨1,o,a,0,0,u,[],[]⟩ .B:=fun a p e=>dS (p1:=p+1) (e1:=chk (decide (pk 3 l p e=[44])) e) (s1:=⟨1,o,a,0,0,u,[],[]⟩) rfl rfl rfl (by dsimp only;rw[h3];rfl)
   have e0:rd l p e ⟨1,o,0,0,0,u,[],[]⟩ .A=(p+1,chk (aQ (pk 1 l p e)).2 e,⟨1,o,(aQ (pk 1 l p e)).1,0,0,u,[],[]⟩):=rfl;rw[e0];dsimp only;rw[s1];have:=last 2 (p+1+1+1) (chk (aQ (pk 1 l (p+1+1) (chk (decide (pk 3 l (p+1) (chk (aQ (pk 1 l p e)).2 e)=[44])) (chk (aQ (pk 1 l p e)).2 e)))).2 (chk (decide (pk 3 l (p+1) (chk (aQ (pk 1 l p e)).2 e)=[44])) (chk (aQ (pk 1 l p e)).2 e)))
    ⟨1,o,(aQ (pk 1 l p e)).1,(aQ (pk 1 l (p+1+1) (chk (decide (pk 3 l (p+1) (chk (aQ (pk 1 l p e)).2 e)=[44])) (chk (aQ (pk 1 l p e)).2 e)))).1,0,u,[],[]⟩ (by decide) (by rw[h3];rfl) rfl rfl rfl (by omega)
   rw[h3] at this;exact this _
 ·
  rw[if_neg (by decide),if_pos rfl,if_pos rfl,dW l p (by omega),Pt];have s0:ak l o 1 0 p e ⟨3,o,0,0,0,u,[],[]⟩=rd l p e ⟨3,o,0,0,0,u,[],[]⟩ .A:=dS (p1:=p) (e1:=e) (s1:=⟨3,o,0,0,0,u,[],[]⟩) rfl rfl rfl rfl;show _=some (smQ l (ak l o 1 0 p e ⟨3,o,0,0,0,u,[],[]⟩));rw[s0];rfl
 ·
  rw[if_neg (by decide),if_neg (by decide),if_pos rfl,dW l p (by omega),Pt];have s0:ak l o 1 0 p e ⟨4,o,0,0,0,u,[],[]⟩=rd l p e ⟨4,o,0,0,0,u,[],[]⟩ .A:=dS (p1:=p) (e1:=e) (s1:=⟨4,o,0,0,0,u,[],[]⟩) rfl rfl rfl rfl;show _=some (smQ l (ak l o 1 0 p e ⟨4,o,0,0,0,u,[],[]⟩));rw[s0];rfl
 ·
  rw[if_neg (by decide),if_neg (by decide),if_neg (by decide),if_pos rfl,dW l p (by omega),Pt];unfold Zaj.j22;dsimp only;rw[kG [44] l (p+1) (by omega),Pt];dsimp only;rw[dW l (p+1+1) (by omega),Pt];dsimp only;rw[kG [44] l (p+1+1+1) (by omega),Pt];dsimp only;have s0:ak l o 3 0 p e ⟨5,o,0,0,0,u,[],[]⟩=rd l p e ⟨5,o,0,0,0,u,[],[]⟩ .A:=dS (p1:=p) (e1:=e) (s1:=⟨5,o,0,0,0,u,[],[]⟩) rfl rfl rfl rfl;have s1:∀(a:Int) (p:Nat) (e:Int),ak l o 3 1 p e ⟨5,o,a,0,0,u,[],[]⟩=rd l (p+1) (chk (decide (pk 3 l p e=[44])) e) ⟨5,o,a,0,0,u,[],[]⟩ .B:=fun a p e=>dS (p1:=p+1) (e1:=chk (decide (pk 3 l p e=[44])) e) (s1:=⟨5,o,a,0,0,u,[],[]⟩) rfl rfl rfl rfl
  have s2:∀(a b:Int) (p:Nat) (e:Int),ak l o 3 2 p e ⟨5,o,a,b,0,u,[],[]⟩=rd l (p+1) (chk (decide (pk 3 l p e=[44])) e) ⟨5,o,a,b,0,u,[],[]⟩ .E:=fun a b p e=>dS (p1:=p+1) (e1:=chk (decide (pk 3 l p e=[44])) e) (s1:=⟨5,o,a,b,0,u,[],[]⟩) rfl rfl (by rw[if_pos rfl];rw[iN (show(5:Int)≠1 by decide) (show(5:Int)≠7 by decide)]) rfl
  have e0:rd l p e ⟨5,o,0,0,0,u,[],[]⟩ .A=(p+1,chk (aQ (pk 1 l p e)).2 e,⟨5,o,(aQ (pk 1 l p e)).1,0,0,u,[],[]⟩):=rfl;have e1:∀(a:Int) (p:Nat) (e:Int),rd l p e ⟨5,o,a,0,0,u,[],[]⟩ .B=(p+1,chk (aQ (pk 1 l p e)).2 e,⟨5,o,a,(aQ (pk 1 l p e)).1,0,u,[],[]⟩):=fun _ _ _=>rfl
  have hLp:bQ l o (odL 5 o).length (odL 5 o).length 0 (p,e,⟨5,o,0,0,0,u,[],[]⟩)=ak l o 3 2 (ak l o 3 1 (ak l o 3 0 p e ⟨5,o,0,0,0,u,[],[]⟩).1 (ak l o 3 0 p e ⟨5,o,0,0,0,u,[],[]⟩).2.1 (ak l o 3 0 p e ⟨5,o,0,0,0,u,[],[]⟩).2.2).1 (ak l o 3 1 (ak l o 3 0 p e ⟨5,o,0,0,0,u,[],[]⟩).1 (ak l o 3 0 p e ⟨5,o,0,0,0,u,[],[]⟩).2.1 (ak l o 3 0 p e ⟨5,o,0,0,0,u,[],[]⟩).2.2).2.1 (ak l o 3 1 (ak l o 3 0 p e ⟨5,o,0,0,0,u,[],[]⟩).1 (ak l o 3 0 p e ⟨5,o,0,0,0,u,[],[]⟩).2.1 (ak l o 3 0 p e ⟨5,o,0,0,0,u,[],[]⟩).2.2).2.2:=rfl;rw[hLp,s0,e0];dsimp only;rw[s1,e1];dsimp only;rw[s2];exact jE _ _ _ ⟨5,o,_,_,0,u,[],[]⟩ _ _ _ _ _ _ _ _ rfl (by omega)
 ·
  rw[if_neg (by decide),if_neg (by decide),if_neg (by decide),if_neg (by decide),if_pos rfl];have hE:=xA hl hlen ⟨7,o,0,0,0,u,[],[]⟩ rfl 6 7 p (by omega) e;dsimp only at hE;rw[hE,Pt];show _=some (smQ l (ak l o 1 0 p e ⟨7,o,0,0,0,u,[],[]⟩));have hch:chK l p e ⟨7,o,0,0,0,u,[],[]⟩=if(aQ (pk 1 l p e)).2=true then 6 else 7:=by
   unfold chK;rw[if_neg (fun g=>absurd g.1 (show ¬(7:Int)=1 by decide))];by_cases hr:(aQ (pk 1 l p e)).2=true;·rw[if_pos ⟨rfl,hr⟩,if_pos hr]
   ·rw[if_neg (fun g=>hr g.2),if_neg hr]
  cases hr:(aQ (pk 1 l p e)).2 with
  |true=>
   rw[hr,if_pos rfl] at hch;rw[dS (d:=.C) (p1:=p) (e1:=e) (s1:=⟨6,o,0,0,0,u,[],[]⟩) rfl rfl (by rw[if_pos rfl,hch]) rfl,if_pos rfl]
  |false=>
   rw[hr,if_neg (by decide)] at hch;rw[dS (d:=.E) (p1:=p) (e1:=e) (s1:=⟨7,o,0,0,0,u,[],[]⟩) rfl rfl (by rw[if_pos rfl,hch]) rfl,if_neg (by decide)]
 ·
  rw[if_neg (by decide),if_neg (by decide),if_neg (by decide),if_neg (by decide),if_neg (by decide),if_pos rfl,dW l p (by omega),Pt];unfold Zaj.j30;dsimp only;rw[kG [44] l (p+1) (by omega),Pt];dsimp only;rw[kG [61] l (p+1+1) (by omega),Pt];dsimp only;have s0:ak l o 2 0 p e ⟨8,o,0,0,0,u,[],[]⟩=rd l p e ⟨8,o,0,0,0,u,[],[]⟩ .A:=dS (p1:=p) (e1:=e) (s1:=⟨8,o,0,0,0,u,[],[]⟩) rfl rfl rfl rfl;have s1:∀(a:Int) (p:Nat) (e:Int),ak l o 2 1 p e ⟨8,o,a,0,0,u,[],[]⟩=rd l (p+1) (chk (decide (pk 3 l p e=[44])) e) ⟨8,o,a,0,0,u,[],[]⟩ .Q:=fun a p e=>dS (p1:=p+1) (e1:=chk (decide (pk 3 l p e=[44])) e) (s1:=⟨8,o,a,0,0,u,[],[]⟩) rfl rfl (by rw[if_pos rfl];rw[iN (show(8:Int)≠1 by decide) (show(8:Int)≠7 by decide)]) rfl
  have e0:rd l p e ⟨8,o,0,0,0,u,[],[]⟩ .A=(p+1,chk (aQ (pk 1 l p e)).2 e,⟨8,o,(aQ (pk 1 l p e)).1,0,0,u,[],[]⟩):=rfl;have hLp:bQ l o (odL 8 o).length (odL 8 o).length 0 (p,e,⟨8,o,0,0,0,u,[],[]⟩)=ak l o 2 1 (ak l o 2 0 p e ⟨8,o,0,0,0,u,[],[]⟩).1 (ak l o 2 0 p e ⟨8,o,0,0,0,u,[],[]⟩).2.1 (ak l o 2 0 p e ⟨8,o,0,0,0,u,[],[]⟩).2.2:=rfl;rw[hLp,s0,e0];dsimp only;rw[s1];exact jE _ _ _ ⟨8,o,_,0,0,u,[],[]⟩ _ _ _ _ _ _ _ _ rfl (by omega)
 ·
  rw[if_neg (by decide),if_neg (by decide),if_neg (by decide),if_neg (by decide),if_neg (by decide),if_neg (by decide),if_pos rfl];have s0:ak l o 1 0 p e ⟨9,o,0,0,0,u,[],[]⟩=rd l p e ⟨9,o,0,0,0,u,[],[]⟩ .E:=dS (p1:=p) (e1:=e) (s1:=⟨9,o,0,0,0,u,[],[]⟩) rfl rfl rfl rfl;show _=some (smQ l (ak l o 1 0 p e ⟨9,o,0,0,0,u,[],[]⟩));rw[s0];exact jE _ p e ⟨9,o,0,0,0,u,[],[]⟩ _ _ _ _ _ _ _ _ rfl (by omega)
 ·
  rw[if_neg (by decide),if_neg (by decide),if_neg (by decide),if_neg (by decide),if_neg (by decide),if_neg (by decide),if_neg (by decide),qH,Pt];unfold Zaj.j3 Zaj.j5;dsimp only;have hpk:(pk 1 l p e).length<=1000000:=by
   unfold pk;split;·rename_i h;have:=hlen _ (kY h.2.1);omega
   ·simp
  have s0:ak l o 1 0 p e ⟨10,o,0,0,0,u,[],[]⟩=rd l p e ⟨10,o,0,0,0,u,[],[]⟩ .N:=dS (p1:=p) (e1:=e) (s1:=⟨10,o,0,0,0,u,[],[]⟩) rfl rfl rfl rfl;show _=some (smQ l (ak l o 1 0 p e ⟨10,o,0,0,0,u,[],[]⟩));rw[s0,lm _ hpk,Pt,w64 (by omega),show(p:Int)+1=((p+1:Nat):Int) by omega];show _=some (smQ l (p+1,chk (bW (pk 1 l p e)) e,⟨10,o,0,0,0,u,[],pk 1 l p e⟩));dsimp only;unfold chk;cases bW (pk 1 l p e)
  ·by_cases h:e=0
   ·rw[if_pos (by decide),if_pos (by simpa using h),if_pos ⟨rfl,h⟩];rfl
   ·rw[if_pos (by decide),if_neg (by simpa using h),if_neg (fun g=>h g.2)];rfl
  ·rw[if_neg (by decide),if_neg (fun g=>by cases g.1)];rfl
end
end Rv
namespace Rv
open Go
section
variable{l:List az}(hl:l.length<=1000000)(hlen:∀t∈l,t.2.2.1.length<=100000)
theorem M9(n:Nat)(lb:Str)(b c d e i:Int)(j:Bool)(k:List Item)(nm:Str)(r:Nat×Int×Sm)(E:Int) :
  Zap.j19 n lb b c d e i j k nm l (r.1:Int) E r.2.2.k r.2.2.o r.2.2.a r.2.2.b r.2.2.c r.2.2.u r.2.2.e r.2.2.nm=some (ni lb E r.2.2):=by
 unfold Zap.j19 ni;by_cases h:E=0;·rw[if_neg (by simpa using h),if_neg (fun g=>g h)]
 ·rw[if_pos (by simpa using h),if_pos h]
include hl hlen in
theorem M8{k o:Int}{u:Bool}(hk:k=1\/k=3\/k=4\/k=5\/k=7\/k=8\/k=9\/k=10)(n:Nat)(lb:Str)(a1 a2 a3 a4 a5:Int)(a6:Bool)(a7:List Item)(a8:Str)(p:Nat)(hp:p<=1000000) :
  Zap.j15 n l lb k o u a1 a2 a3 a4 a5 a6 a7 a8 l (p:Int) 0=some (iO l lb (oV l k o u (p+1) 0)):=by
 unfold Zap.j15;rw[w64 (by omega),show(p:Int)+1=((p+1:Nat):Int) by omega,Nb hl hlen hk (p+1) (by omega) 0,Pt];unfold smQ;dsimp only;have J:=fun E=>M9 (l:=l) n lb a1 a2 a3 a4 a5 a6 a7 a8 (oV l k o u (p+1) 0) E
 unfold iO;generalize oV l k o u (p+1) 0=r at J;unfold chk;by_cases h:r.2.1=0
 ·rw[if_pos (by simpa using h)];by_cases hlt:r.1<l.length
  ·rw[if_pos (by simp;omega),J,if_pos ⟨by simp;omega,h⟩]
  ·rw[if_neg (by simp;omega),J,if_neg (fun g=>by simp at g;omega)]
 ·rw[if_neg (by simpa using h),J,if_neg (fun g=>h g.2)]
include hl hlen in
theorem Oi(n:Nat)(lb:Str)(a1 a2 a3 a4 a5:Int)(a6:Bool)(a7:List Item)(a8:Str)(p:Nat)(hp:p<=l.length) :
  Zap.j8 n l lb a1 a2 a3 a4 a5 a6 a7 a8 l (p:Int) 0=some (kN l lb p 0):=by
 unfold Zap.j8 kN;by_cases he:p=l.length;·subst he;rw[if_pos (by simp),if_neg (fun g=>by omega)];rfl
 ·rw[if_neg (by simp;omega),if_pos (by omega),if_pos ⟨rfl,by omega⟩,PG];have hz:l.getD p zT=l.getD p aT:=rfl;rw[hz];dsimp only;generalize l.getD p aT=t;rw[KH,Pt];generalize hw:L.ofR t.2.2.1=w;have J13:Zap.j13 n l lb w.1 w.2.1 w.2.2.1 w.2.2.2.1 (decide (w.1=9\/w.1=10)) a1 a2 a3 a4 a5 a6 a7 a8 l (p:Int) 0 t.1 t.2.1 t.2.2.1 t.2.2.2.1 =
    some (iO l lb (bQ l w.2.1 (odL w.1 w.2.1).length (odL w.1 w.2.1).length 0 (p+1,chk (w.2.2.2.1&&(decide (t.1=4) == decide (w.1=9\/w.1=10))&&(decide (t.1=4)||decide (t.1=1))) 0,⟨w.1,w.2.1,0,0,0,w.2.2.1,[],[]⟩))):=by
   have bad:∀b:Bool,b=false->iO l lb (bQ l w.2.1 (odL w.1 w.2.1).length (odL w.1 w.2.1).length 0 (p+1,chk b 0,⟨w.1,w.2.1,0,0,0,w.2.2.1,[],[]⟩))=noP 22:=fun b hb=>by
    rw[hb];exact Gy (by decide) (w9 (by decide) _ _ _ rfl)
   unfold Zap.j13;cases hf:w.2.2.2.1 with
   |false=>
    rw[if_neg (by decide),bad _ (by simp)];rfl
   |true=>
    obtain⟨k,o,u,e1,hk⟩:=Bc (by rw[hw];exact hf:(L.ofR t.2.2.1).2.2.2.1=true);rw[hw] at e1;subst e1;dsimp only;have hk8:k=1\/k=3\/k=4\/k=5\/k=7\/k=8\/k=9\/k=10:=by omega
    have J15:=M8 hl hlen hk8 n lb a1 a2 a3 a4 a5 a6 a7 a8 p (by omega) (o:=o) (u:=u);have good:∀b:Bool,b=true->iO l lb (bQ l o (odL k o).length (odL k o).length 0 (p+1,chk b 0,⟨k,o,0,0,0,u,[],[]⟩))=iO l lb (oV l k o u (p+1) 0):=fun b hb=>by rw[hb];rfl
    rw[if_pos (by decide)];by_cases hd:k=9\/k=10
    ·rw[decide_eq_true hd,if_pos rfl];by_cases h4:t.1=4
     ·rw[if_pos (by simp[h4]),if_neg (by decide),J15,good _ (by simp[h4])]
     ·rw[if_neg (by simp[h4]),bad _ (by simp[h4])];rfl
    ·rw[decide_eq_false hd,if_neg (by decide),if_pos (by decide)];by_cases h1:t.1=1
     ·have h4:t.1≠4:=by omega
      rw[if_neg (by simp[h1]),J15,good _ (by simp[h1])]
     ·rw[if_pos (by simp[h1]),bad _ (by
       by_cases h4:t.1=4;·simp[h4]
       ·simp[h4,h1])];rfl
  by_cases h9:w.1=9;·have e9:decide (w.1=9\/w.1=10)=true:=decide_eq_true (.inl h9);rw[e9] at J13;rw[if_neg (by simp[h9]),J13,e9]
  ·have e9:decide (w.1=9\/w.1=10)=decide (w.1=10):=by rw[Bool.eq_iff_iff,Px,Px];omega
   rw[e9] at J13;rw[if_pos (by simp[h9]),J13,e9]
include hl hlen in
theorem FI:Zap.g l=some (ig l):=by
 unfold Zap.g;generalize 1000+l.length=n;unfold Zap.f ig;have J:=fun lb p hp=>Oi hl hlen n lb 0 0 0 0 0 false [] [] p hp
 have J0:=J [] 0 (by omega);rw[show((0:Nat):Int)=0 from rfl] at J0;simp only[dt];have t0:((0:Int)).toNat=0:=rfl;have t1:((1:Int)).toNat=1:=rfl;rw[t0,t1];have hz:∀p,l.getD p zT=l.getD p aT:=fun _=>rfl
 simp only[hz];by_cases h1:1<l.length
 ·rw[if_pos (by omega),if_pos (by omega)];by_cases k0:(l.getD 0 aT).1=1
  ·rw[if_pos k0,if_pos (by omega)];by_cases k1:(l.getD 1 aT).1=3
   ·rw[if_pos k1,if_pos (by omega)];by_cases k2:(l.getD 1 aT).2.2.1=[58]
    ·have hm:=hlen _ (kY (p:=0) (by omega):l.getD 0 aT∈l);rw[if_pos k2,if_pos (by omega),tN _ hm,Pt,if_pos (show 1<l.length/\(l.getD 0 aT).1=1/\dR l 1 58=true from⟨h1,k0,bC.2 ⟨h1,k1,k2⟩⟩)];dsimp only;have J2:=J (l.getD 0 aT).2.2.1 2 (by omega);cases hL:aK (l.getD 0 aT).2.2.1 with
     |true=>
      rw[if_neg (by decide),show chk true 0=0 from rfl];exact J2
     |false=>
      rw[if_pos (by decide),show chk false 0=22 from rfl];unfold kN ni;rw[if_neg (fun g=>absurd g.1 (by decide)),if_pos (by decide)]
    ·rw[if_neg k2,if_neg (fun g=>k2 (bC.1 g.2.2).2.2)];exact J0
   ·rw[if_neg k1,if_neg (fun g=>k1 (bC.1 g.2.2).2.1)];exact J0
  ·rw[if_neg k0,if_neg (fun g=>k0 g.2.1)];exact J0
 ·rw[if_neg (by omega),if_neg (fun g=>h1 g.1)];exact J0
end
end Rv
namespace Rv
open Go
theorem xC(b:UInt8):Zdk.g (b.toNat:Int)=some (isL b,()):=by
 unfold Zdk.g Zdk.f isL;simp only[dt,df]
 (repeat' split)<;>first|(refine mG ?_;omega)|(refine mE ?_;omega)|(refine mF ?_;omega)
theorem zf(b:UInt8):Zcx.g (b.toNat:Int)=some (isD b,()):=by
 unfold Zcx.g Zcx.f isD;simp only[dt,df]
 (repeat' split)<;>first|(refine mG ?_;omega)|(refine mE ?_;omega)|(refine mF ?_;omega)
theorem Ik:((List.range 256).all fun n=>decide (Zdl.g (n:Int)=some (isS (UInt8.ofNat n),())))=true:=by decide +kernel
theorem KP(b:UInt8):Zdl.g (b.toNat:Int)=some (isS b,()):=by
 have h:=PX.1 Ik b.toNat (by simp;exact b.toNat_lt)
 simpa using h
def KX(b:UInt8):Int×Bool×Unit:=match jm b with
 |some d=>if d<16 then((d:Int),true,()) else(0,false,())
 |none=>(0,false,())
theorem KQ:((List.range 256).all fun n=>decide (Zfc.g (n:Int)=some (KX (UInt8.ofNat n))))=true:=by decide +kernel
theorem Nf(b:UInt8):Zfc.g (b.toNat:Int)=some (KX b):=by
 have h:=PX.1 KQ b.toNat (by simp;exact b.toNat_lt)
 simpa using h
theorem FO(s:Str)(hs:s.length<=1000000)(n:Nat):∀(m k:Nat),k<=s.length->s.length-k<m->Zbo.l2 n m s (k:Int)=some (((k+(aL (s.drop k)).length:Nat):Int),()):=by
 intro m
 induction m with
 |zero=>intro k _ h;omega
 |succ m ih=>
  intro k hk hm;simp only[Zbo.l2,Zbo.j3,dt,df];by_cases hlt:k<s.length
  ·have hd:=bB hlt;have step:=ih (k+1) (by omega) (by omega);have e1:IntKind.i64.wrap ((k:Int)+1)=((k+1:Nat):Int):=by rw[w64 (by omega)];omega
   rw[if_pos (by omega),if_pos (by omega),gY,xC,zf,Pt,e1,step,hd];simp only[Pt];have hw:isW (s.getD k 0)=true->k+(aL (s.getD k 0::s.drop (k+1))).length=k+1+(aL (s.drop (k+1))).length:=fun h=>by
    unfold aL;rw[List.takeWhile_cons_of_pos h,P9];omega
   cases hl:isL (s.getD k 0) with
   |true=>rw[if_neg (by simp),hw (by unfold isW;rw[hl];rfl)]
   |false=>
    rw[if_pos rfl,if_pos (by omega)];cases hdg:isD (s.getD k 0) with
    |true=>rw[if_pos rfl,hw (by unfold isW;rw[hl,hdg];rfl)]
    |false=>
     have hz:aL (s.getD k 0::s.drop (k+1))=[]:=by unfold aL;rw[List.takeWhile_cons_of_neg (by unfold isW;rw[hl,hdg];decide)]
     rw[if_neg (by simp),hz];rfl
  ·have:k=s.length:=by omega
   subst this;rw[if_neg (by omega)];simp[aL]
theorem BL(s:Str)(hs:s.length<=1000000):Zbo.g s=some (((aL s).length:Int),()):=by
 unfold Zbo.g Zbo.f;have:=FO s hs (1000+s.length) (1000+s.length) 0 (by omega) (by omega);rw[PV,Nat.zero_add] at this;exact this
def A8:Option Nat->Option (Int×Bool×Unit)
 |some v=>some ((v:Int),true,())
 |none=>some (0,false,())
theorem zh(s:Str)(hs:s.length<=1000000)(base:Nat)(hb:base=10\/base=16)(n:Nat):∀(m k v:Nat),k<=s.length->s.length-k<m->v<4294967296 ->
  Zbp.l8 n m s (base:Int) (v:Int) (k:Int)=A8 (bq base v (s.drop k)):=by
 intro m
 induction m with
 |zero=>intro k v _ h;omega
 |succ m ih=>
  intro k v hk hm hv;rw[Zbp.l8];simp only[dt,df];by_cases hlt:k<s.length
  ·rw[if_pos (by omega),if_pos (by omega),gY,Nf,Pt,bB hlt];simp only[bq];unfold KX;cases hd:jm (s.getD k 0) with
   |none=>rw[if_neg (by simp)];rfl
   |some d=>
    simp only;by_cases h16:d<16
    ·rw[if_pos h16];dsimp only;rw[if_pos (by simp)];by_cases hdb:d<base
     ·rw[if_neg (by omega),if_pos hdb];have hm1:IntKind.i64.wrap ((v:Int)*(base:Int))=((v*base:Nat):Int):=by
       rw[w64 (by rcases hb with rfl|rfl<;>omega)];simp
      have hm2:IntKind.i64.wrap (((v*base:Nat):Int)+(d:Int))=((v*base+d:Nat):Int):=by
       rw[w64 (by rcases hb with rfl|rfl<;>omega)];simp
      rw[hm1,hm2];by_cases hlt2:v*base+d<4294967296;·rw[if_neg (by omega),if_pos hlt2,w64 (by omega)];exact ih (k+1) (v*base+d) (by omega) (by omega) hlt2
      ·rw[if_pos (by omega),if_neg hlt2];rfl
     ·rw[if_pos (by omega),if_neg hdb];rfl
    ·rw[if_neg h16,if_neg (show ¬d<base by rcases hb with rfl|rfl<;>omega)];dsimp only;rw[if_neg (by simp)];rfl
  ·have:k=s.length:=by omega
   subst this;rw[if_neg (by omega),PZ,OA (by omega)];rfl
theorem Fz(s:Str)(hs:s.length<=1000000)(hne:s≠[]):Zbp.g s=A8 (num s):=by
 unfold Zbp.g Zbp.f;simp only[dt,Zbp.j6];have d10:=zh s hs 10 (.inl rfl) (1000+s.length) (1000+s.length) 0 0 (by omega) (by omega) (by omega);have d16:2<=s.length->_:=fun h=>zh s hs 16 (.inr rfl) (1000+s.length) (1000+s.length) 2 0 h (by omega) (by omega)
 rw[PV] at d10;have d10:Zbp.l8 (1000+s.length) (1000+s.length) s 10 0 0=A8 (bq 10 0 s):=d10;unfold num
 match s,hne with
 |[a],_=>
  rw[if_neg (by simp),if_neg (by simp[List.isPrefixOf]),if_neg (by simp)];exact d10
 |[a,b],_=>
  rw[if_neg (by simp)];by_cases hp:([48,120]:Str).isPrefixOf [a,b]=true;·rw[if_pos hp,if_pos (show List.drop 2 [a,b]=([]:Str) from rfl)];simp only[List.isPrefixOf,Bool.and_true,Pz,beq_iff_eq] at hp;obtain⟨rfl,rfl⟩:=hp;rw[d10];decide
  ·rw[if_neg hp,if_neg (by simp)];exact d10
 |a::b::c::r,_=>
  have ha:bt (a::b::c::r) 0=(a.toNat:Int):=rfl;have hb:bt (a::b::c::r) 1=(b.toNat:Int):=rfl;have ea:((a.toNat:Int)=48)=(a=48):=dD a 48 (by decide);have eb:((b.toNat:Int)=120)=(b=120):=dD b 120 (by decide);rw[if_pos (by simp;omega),if_pos (by simp;omega),ha,hb];simp only[ea,eb];have hdr:(a::b::c::r).drop 2=c::r:=rfl;by_cases h1:a=48
  ·rw[if_pos h1,if_pos (by simp;omega)];by_cases h2:b=120
   ·rw[if_pos h2,if_pos (by simp[List.isPrefixOf,h1,h2]),hdr,if_neg (by simp)];exact d16 (by simp)
   ·rw[if_neg h2,if_neg (by simp[List.isPrefixOf,h1];exact fun h=>h2 h.symm),if_neg (by simp)];exact d10
  ·rw[if_neg h1,if_neg (by simp[List.isPrefixOf];exact fun h=>absurd h.symm h1),if_neg (by simp)];exact d10
theorem Fy(s:Str)(hs:s.length<=1000000)(n:Nat):∀(m k:Nat) (out:List Tok),k<=s.length->s.length-k<m->out.length<=k->Zai.l3 n m s out (k:Int)=some (aH out (aX k (s.drop k))):=by
 intro m
 induction m with
 |zero=>intro k out _ h;omega
 |succ m ih=>
  intro k out hk hm hout;have e1:IntKind.i64.wrap ((k:Int)+1)=((k+1:Nat):Int):=by rw[w64 (by omega)];omega
  by_cases hlt:k<s.length
  ·have tok:∀(d:Nat) (q:Int) (t:Str) (v:Int),1<=d+t.length->k+d+t.length<=s.length->Zai.j26 n (Zai.l3 n m) s out ((k+d:Nat):Int) q (k:Int) t v=some (aH out (match aX ((k:Int)+d+t.length) ((s.drop (k+1)).drop (d+t.length-1)) with
     | .error e=>.error e
     | .ok l=>.ok ((q,k,t,v,())::l))):=by
    intro d q t v h1 h2;unfold Zai.j26;rw[if_pos (by simp;omega),w64 (by omega)];have:=ih (k+d+t.length) (out++[(q,(k:Int),t,v,())]) h2 (by omega) (by simp;omega);rw[sw] at this;rw[show((k+d:Nat):Int)+(t.length:Int)=((k+d+t.length:Nat):Int) by omega,List.drop_drop,show k+1+(d+t.length-1)=k+d+t.length by omega,show(k:Int)+(d:Int)+(t.length:Int)=((k+d+t.length:Nat):Int) by omega];exact this
   have tok0:=fun q t v h1 h2=>tok 0 q t v h1 h2
   simp only[Nat.add_zero,Nat.zero_add] at tok0;have tok1:=fun q t v h1 h2=>tok 1 q t v h1 h2
   have skip:Zai.l3 n m s out ((k+1:Nat):Int)=some (aH out (aX ((k:Int)+1) (s.drop (k+1)))):=by
    rw[show(k:Int)+1=((k+1:Nat):Int) by omega];exact ih (k+1) out (by omega) (by omega) (by omega)
   have hl0:=lu (s.drop k);have hl1:=lu (s.drop (k+1));have hd0:(s.drop (k+1)).length=s.length-(k+1):=by simp
   have hdk:(s.drop k).length=s.length-k:=by simp
   have hw0:=BL (s.drop k) (by omega);have hw1:=BL (s.drop (k+1)) (by omega);have f0:IntKind.i64.wrap ((k:Int)+((aL (s.drop k)).length:Int))=((k+(aL (s.drop k)).length:Nat):Int):=by rw[w64 (by omega)];omega
   have f1:IntKind.i64.wrap (((k+1:Nat):Int)+((aL (s.drop (k+1))).length:Int))=((k+1+(aL (s.drop (k+1))).length:Nat):Int):=by rw[w64 (by omega)];omega
   have g0:(s.take (k+(aL (s.drop k)).length)).drop k=aL (s.drop k):=by
    rw[List.drop_take,show k+(aL (s.drop k)).length-k=(aL (s.drop k)).length by omega];exact zZ (s.drop k)
   have g1:(s.take (k+1+(aL (s.drop (k+1))).length)).drop (k+1)=aL (s.drop (k+1)):=by
    rw[List.drop_take,show k+1+(aL (s.drop (k+1))).length-(k+1)=(aL (s.drop (k+1))).length by omega];exact zZ (s.drop (k+1))
   have hsign:(s.take (k+1)).drop k=[s.getD k 0]:=by
    rw[List.drop_take,bB hlt];simp[show k+1-k=1 by omega]
   have hhead:(∃d∈(s.drop (k+1)).head?,isL d=true)↔k+1<s.length/\isL (s.getD (k+1) 0)=true:=by
    by_cases h:k+1<s.length;·rw[bB h];simp[h]
    ·rw[List.drop_eq_nil_of_le (by omega)];simp[h]
   have hwp:isW (s.getD k 0)=true->1<=(aL (s.drop k)).length:=fun h=>by rw[bB hlt];exact l9 h
   have hwq:k+1<s.length->isL (s.getD (k+1) 0)=true->1<=(aL (s.drop (k+1))).length:=fun h h'=>by
    rw[bB h];exact l9 (by unfold isW;rw[h'];rfl)
   rw[Zai.l3];simp only[dt,df];simp only[e1,gY,xC,zf,KP,Pt,PG,List.take_length,hw0,hw1,f0,f1,g0,g1];rw[if_pos (by omega),if_pos (by omega)];have hcons:=bB hlt;rw[hcons,jQ];rw[hcons] at hl0 hdk hwp;have b59:(((s.getD k 0).toNat:Int)=59)=(s.getD k 0=59):=dD _ 59 (by decide);have b32:(((s.getD k 0).toNat:Int)=32)=(s.getD k 0=32):=dD _ 32 (by decide);have b9:(((s.getD k 0).toNat:Int)=9)=(s.getD k 0=9):=dD _ 9 (by decide);have b46:(((s.getD k 0).toNat:Int)=46)=(s.getD k 0=46):=dD _ 46 (by decide);have j25:Zai.j25 n (Zai.l3 n m) s out (k:Int) 3 (k:Int) [] 0=Zai.j26 n (Zai.l3 n m) s out (k:Int) 3 (k:Int) [s.getD k 0] 0:=by
    unfold Zai.j25;rw[e1,if_pos (by omega),if_pos (by omega),PG,PG,hsign]
   rw[j25];clear j25 hsign g0 g1 f0 f1 hw0 hw1 e1 hcons;generalize s.getD k 0=b at *;by_cases h59:b=59;·rw[if_neg (fun h=>h (b59.mpr h59)),if_pos h59];simp[aH]
   ·rw[if_pos (fun h=>h59 (b59.mp h)),if_neg h59,if_pos (by omega)];by_cases h32:b=32
    ·rw[if_neg (fun h=>h (b32.mpr h32)),if_pos (.inl h32)];exact skip
    ·rw[if_pos (fun h=>h32 (b32.mp h))];by_cases h9:b=9
     ·rw[if_pos (b9.mpr h9),if_pos (.inr h9)];exact skip
     ·rw[if_neg (fun h=>h9 (b9.mp h)),if_neg (show ¬(b=32\/b=9) from fun h=>h.elim h32 h9)];unfold nU;by_cases hL:isL b=true
      ·rw[if_pos hL,if_pos hL,if_pos (by omega),if_pos (by omega),if_pos (by omega),tok0 _ _ _ (hwp (by simp[isW,hL])) (by omega)];simp;rfl
      ·rw[if_neg hL,if_neg hL];by_cases hD:isD b=true
       ·rw[if_pos hD,if_pos hD,if_pos (by omega),if_pos (by omega),if_pos (by omega)];have hpos:=hwp (by simp[isW,hD]);rw[Fz (aL (b::s.drop (k+1))) (by omega) (fun h=>by rw[h] at hpos;simp at hpos)];cases hn:num (aL (b::s.drop (k+1))) with
        |none=>simp[A8,aH]
        |some v=>
         simp only[A8,Pt];rw[if_neg (by simp),tok0 _ _ _ hpos (by omega)];simp;rfl
       ·rw[if_neg hD,if_neg hD];have sgn:(if isS b=true then Zai.j26 n (Zai.l3 n m) s out (k:Int) 3 (k:Int) [b] 0 else some ([],20,())) =
          some (aH out (match (if isS b=true then Except.ok (0,3,[b],0) else Except.error 20:Except Int (Nat×Int×Str×Int)) with
           | .error e=>.error e
           | .ok (d,q,t,v)=>match aX (k+d+t.length) ((s.drop (k+1)).drop (d+t.length-1)) with
            | .error e=>.error e
            | .ok l=>.ok ((q,k,t,v,())::l))):=by
         by_cases hS:isS b=true;·rw[if_pos hS,if_pos hS,tok0 _ _ _ (by simp) (by simp;omega)];simp
         ·rw[if_neg hS,if_neg hS];simp[aH]
        by_cases h46:b=46
        ·rw[if_pos (b46.mpr h46)];by_cases hk1:k+1<s.length
         ·rw[if_pos (by omega),if_pos (by omega)];by_cases hL1:isL (s.getD (k+1) 0)=true
          ·have:=hwq hk1 hL1;rw[if_pos hL1,if_pos (by omega),if_pos (by omega),if_pos (by omega),if_pos ⟨h46,hhead.mpr ⟨hk1,hL1⟩⟩];rw[tok1 _ _ _ (by omega) (by omega)];rfl
          ·rw[if_neg hL1,if_neg (show ¬(b=46/\∃d∈(s.drop (k+1)).head?,isL d=true) from fun h=>hL1 (hhead.mp h.2).2)];exact sgn
         ·rw[if_neg (by omega),if_neg (show ¬(b=46/\∃d∈(s.drop (k+1)).head?,isL d=true) from fun h=>hk1 (hhead.mp h.2).1)];exact sgn
        ·rw[if_neg (fun h=>h46 (b46.mp h)),if_neg (show ¬(b=46/\∃d∈(s.drop (k+1)).head?,isL d=true) from fun h=>h46 h.1)];exact sgn
  ·have:k=s.length:=by omega
   subst this;rw[Zai.l3];simp only[dt];rw[if_neg (by omega),PZ,lg];simp[aH]
theorem KF(s:Str)(hs:s.length<=1000000):Zai.g s=some (aH [] (aX 0 s)):=by
 unfold Zai.g Zai.f;have:=Fy s hs (1000+s.length) (1000+s.length) 0 [] (by omega) (by omega) (by simp);simpa using this
end Rv
namespace Rv
open Go
def dH(pre:Str):Str->List Str
 |[]=>if pre=[] then[] else[pre]
 |b::s=>match bK (b::s) with
  |[]=>[]
  |l::r=>(pre++l)::r
theorem AR:∀{b:UInt8}{s:Str},bK (b::s)≠[]
 |b,s=>by
  rw[bK];split;·simp
  ·split<;>simp
theorem NW(pre:Str):dH pre []=if pre=[] then[] else[pre]:=rfl
theorem OO(pre s:Str):dH pre (10::s)=pre::bK s:=by
 rw[dH,bK,if_pos rfl];dsimp only;rw[Qm]
theorem MG(pre s:Str){b:UInt8}(h:b≠10):dH pre (b::s)=dH (pre++[b]) s:=by
 cases s with
 |nil=>
  rw[dH,dH,bK,if_neg h,if_neg (by simp)];rfl
 |cons c s=>
  rw[dH,dH,bK,if_neg h];cases hl:bK (c::s) with
  |nil=>exact absurd hl AR
  |cons l r=>dsimp only;rw[PU];rfl
theorem DC(s:Str):dH [] s=bK s:=by
 cases s with
 |nil=>rfl
 |cons b s=>
  rw[dH];cases hl:bK (b::s) with
  |nil=>exact absurd hl AR
  |cons l r=>rfl
theorem C9(s:Str)(hs:s.length<=1000000)(n:Nat):∀(m c d:Nat) (out:List Str),c<=d->d<=s.length->s.length-d<m->out.length<=d ->
  Zcb.l4 n m s out (c:Int) (d:Int)=some (out++dH ((s.take d).drop c) (s.drop d),()):=by
 intro m
 induction m with
 |zero=>intro c d _ _ _ h;omega
 |succ m ih=>
  intro c d out hc hd hm ho;rw[Zcb.l4];unfold Zcb.j5;simp only[dt,PG];by_cases h:d<s.length
  ·have W1:IntKind.i64.wrap ((d:Int)+1)=((d+1:Nat):Int):=by rw[w64 (by omega)];omega
   have hdr:s.drop d=s.getD d 0::s.drop (d+1):=by
    rw[P6 h,PD,PH h];rfl
   have hb:bt s (d:Int)=((s.getD d 0).toNat:Int):=by rw[gY]
   have h10:(((s.getD d 0).toNat:Int)=10)=(s.getD d 0=10):=dD _ 10 (by omega);rw[if_pos (by omega),if_pos (by omega),W1,hb,hdr];by_cases e:s.getD d 0=10;·rw[if_pos (h10.mpr e),if_pos (by omega),if_pos (by omega),if_pos (by simp;omega),ih (d+1) (d+1) _ (by omega) (by omega) (by omega) (by simp;omega),e,OO];have:(s.take (d+1)).drop (d+1)=[]:=List.drop_eq_nil_of_le (by rw[P7];omega);rw[this,DC,PU];rfl
   ·rw[if_neg (fun g=>e (h10.mp g)),ih c (d+1) out (by omega) (by omega) (by omega) (by omega),MG _ _ e];have:(s.take (d+1)).drop c=(s.take d).drop c++[s.getD d 0]:=by
     rw[List.take_add_one,PH h,List.drop_append_of_le_length (by rw[P7];omega),PD,PH h];rfl
    rw[this]
  ·obtain rfl:d=s.length:=by omega
   rw[if_neg (by omega),List.take_length,PZ,NW];by_cases e:c<s.length;·rw[if_pos (by omega),if_pos (by omega),if_pos (by simp;omega),if_neg (fun g=>by rw[List.drop_eq_nil_iff] at g;omega)]
   ·rw[if_neg (by omega),if_pos (List.drop_eq_nil_of_le (by omega)),Qm]
theorem H9(s:Str)(hs:s.length<=1000000):Zcb.g s=some (bK s,()):=by
 unfold Zcb.g Zcb.f;have:=C9 s hs (1000+s.length) (1000+s.length) 0 0 [] (by omega) (by omega) (by omega) (by simp);rw[show((0:Nat):Int)=0 from rfl] at this;have e:(s.take 0).drop 0=[]:=rfl;rw[this,e,PV,DC];rfl
theorem FC(s:Str)(hs:s.length<=100000):Zap.g (aH [] (aX 0 s)).1=some (ig (aH [] (aX 0 s)).1):=by
 refine FI (xG (by omega)) fun t ht=>?_
 have h:∀t∈(aH [] (aX 0 s)).1,t.2.2.1.length<=s.length:=by
  cases h:aX 0 s with
  |error e=>intro t ht;cases ht
  |ok l=>
   intro t ht;have ht:t∈l:=by simpa[aH] using ht
   exact lJ s.length 0 s l (PI _) h t ht
 exact Qd (h t ht) hs
theorem Fs(l:List Str)(hl:l.length<=1000000)(hs:∀s∈l,s.length<=100000)(n:Nat):∀(m i:Nat) (out:List Ln),i<=l.length->l.length-i<m->out.length=i ->
  Zdc.l8 n m l out (i:Int)=some (qy out (dL i (l.drop i))):=by
 intro m
 induction m with
 |zero=>intro i out _ h;omega
 |succ m ih=>
  intro i out hi hm ho;rw[Zdc.l8];simp only[dt,PG];by_cases h:i<l.length
  ·have hd:l.drop i=l.getD i []::l.drop (i+1):=by
    rw[P6 h,PD,PH h];rfl
   have hg:l.getD i []∈l:=by rw[PD,PH h];exact Qf h
   have W1:IntKind.i64.wrap ((i:Int)+1)=((i+1:Nat):Int):=by rw[w64 (by omega)];omega
   have hx:=hs _ hg;generalize l.getD i []=x at hd hx⊢;have hp:=FC x hx;have hone:mZ x=if(aH [] (aX 0 x)).2.1≠0 then noP (aH [] (aX 0 x)).2.1 else ig (aH [] (aX 0 x)).1:=rfl
   rw[if_pos (by omega),if_pos (by omega),KF x (by omega),Pt,hd,dL,W1];generalize aH [] (aX 0 x)=y at hp hone⊢;by_cases hy:y.2.1≠0;·rw[if_pos hy] at hone;rw[if_pos hy,hone,if_pos (show vH (noP y.2.1)≠0 from hy)];rfl
   ·rw[if_neg hy] at hone;rw[if_neg hy,hp,Pt,hone];generalize ig y.1=q;by_cases he:vH q≠0
    ·rw[if_pos he,if_pos he];rfl
    ·rw[if_neg he,if_neg he,if_pos (by simp;omega),ih (i+1) _ (by omega) (by omega) (by simp[ho])];cases dL (i+1) (l.drop (i+1)) with
     |error x=>rfl
     |ok r=>show some (_++r,_)=some (_++_,_);rw[PU];rfl
  ·obtain rfl:i=l.length:=by omega
   rw[if_neg (by omega),PZ,dL];simp[qy]
theorem FJ(s:Str)(hs:s.length<=100000):Zdc.g s=some (eG s):=by
 unfold Zdc.g Zdc.f eG;obtain⟨g1,g2⟩:=mW s;rw[if_neg (by simp;omega),if_neg (by omega),H9 s (by omega),Pt];dsimp only;by_cases h:4096<(bK s).length;·rw[if_pos (by simp;omega),if_pos h]
 ·rw[if_neg (by simp;omega),if_neg h];have:=Fs (bK s) (by omega) (fun x hx=>Qd (g2 x hx) hs) (1000+s.length) (1000+s.length) 0 [] (by omega) (by omega) rfl;rw[PV] at this;exact this
end Rv
namespace Rv
open Go
theorem yP{x:Ln}{t:Option Tr}(h:GoodS (smX x) t):um x:=by
 obtain⟨h1,h2,h3⟩:=kZ h;have h1:(eL x).length<=64:=h1;have h2:eL x=postO t:=h2;have hgood:∀y∈eL x,aZ y:=fun y hy=>by
  cases t with
  |none=>rw[h2] at hy;cases hy
  |some t0=>rw[h2] at hy;exact jC t0 (h3 t0 rfl).1 y hy
 refine⟨⟨by omega,fun y hy=>by have:=JM (hgood y hy);omega⟩,fun y hy=>⟨(hgood y hy).1,(hgood y hy).2.1⟩,?_⟩;have:=Mq h;show(smX x).nm.length<=_;omega
theorem Gu{x:Ln}(h:um x):(eL x).length<=4611686018427387904:=by have:=h.1.1;omega
theorem Ng(s:Str)(hs:s.length<=600):Zef.g s=some (qO s):=by
 obtain⟨h1,h2⟩:=parsed s (by omega);unfold Zef.g Zef.f qO;rw[FJ s (by omega),Pt];simp only[dt];by_cases h:(eG s).2.2.1=0;·rw[if_neg (by simpa using h),if_neg (by simpa using h),yl _ (by omega) (fun x hx=>by obtain⟨_,t,ht⟩:=h2 x hx;exact yP ht),Pt]
 ·rw[if_pos (by simpa using h),if_pos (by simpa using h)];rfl
theorem BM(a b:List Int)(y:List Sym)(ha:a.length<=1000000)(hb:b.length<=1000000)(hy:y.length<=1000000):Zcg.g a b y a b y=some (true,()):=by
 have loop:∀(n m i:Nat),i<=y.length->y.length-i<m->Zcg.l4 n m (i:Int) a b y a b y=some (true,()):=by
  intro n m
  induction m with
  |zero=>intro i _ h;omega
  |succ m ih=>
   intro i hi hm;rw[Zcg.l4];simp only[dt];by_cases h:i<y.length;·rw[if_pos (by omega),if_pos (by omega),if_pos (by omega),if_neg (by simp),w64 (by omega)];exact ih (i+1) (by omega) (by omega)
   ·rw[if_neg (by omega)]
 unfold Zcg.g Zcg.f;rw[Ol a ha,Pt,if_pos (by decide),Om b hb,Pt,if_pos (by decide),if_neg (by simp)];exact loop _ _ 0 (by omega) (by omega)
end Rv
namespace Rv
open Go
def smI(x:Item):Prop:=(0<=x.2.1/\x.2.1<=4294967295)/\x.2.2.1.length<=20
def KY(x:Ln):Prop:=x.1.length<=20/\(eL x).length<=20/\(∀y∈eL x,smI y)/\x.2.1.2.2.2.2.2.2.2.1.length<=20
theorem J5(n:Nat):mn (n:Int) 20=((min n 20:Nat):Int):=by unfold mn;split<;>omega
theorem Ca(s:Str):((s.take (min s.length 20)).drop 0).length<=20:=by rw[PV,P7];omega
theorem Db(a b:List Ln)(c:Int)(lb:Str)(k o A B C:Int)(u:Bool)(e:List Item)(nm:Str)(he:∀x∈e,0<=x.2.1/\x.2.1<=4294967295)(n:Nat)(rl):∀(m i:Nat) (d:List Item),i<=20->20-i<m->d.length=i->(∀x∈d,smI x) ->
  ∃r,Zbb.l10 n rl m a b c d (i:Int) lb k o A B C u e nm=Zbb.j15 n rl a b c r lb k o A B C u e nm/\r.length<=20/\∀x∈r,smI x:=by
 intro m
 induction m with
 |zero=>intro i d _ h;omega
 |succ m ih=>
  intro i d hi hm hd hs;rw[Zbb.l10];simp only[dt,PG];by_cases h:i<e.length
  ·rw[if_pos (by omega)];by_cases h2:i<20
   ·have hg:e.getD i zI∈e:=by rw[PD,PH h];exact Qf h
    have hr:=he _ hg;generalize e.getD i zI=x at hr⊢;have W1:IntKind.i64.wrap ((i:Int)+1)=((i+1:Nat):Int):=by rw[w64 (by omega)];omega
    rw[if_pos (by omega),if_pos (by omega),J5,PG,if_pos (by omega),if_pos (by simp;omega),W1];refine ih (i+1) _ (by omega) (by omega) (by simp[hd]) fun y hy=>?_
    rcases PL.1 hy with g|g;·exact hs y g
    ·rw[PS.1 g];exact⟨hr,Ca _⟩
   ·rw[if_neg (by omega)];exact⟨d,rfl,by omega,hs⟩
  ·rw[if_neg (by omega)];exact⟨d,rfl,by omega,hs⟩
theorem FT(a:List Ln)(ha:∀x∈a,∀y∈eL x,0<=y.2.1/\y.2.1<=4294967295)(n:Nat)(hn:100<=n):∀(m i:Nat) (out:List Ln),i<=20->20-i<m->out.length=i->(∀x∈out,KY x) ->
  ∃r,Zbb.l3 n m a out (i:Int)=some (r,())/\r.length<=20/\∀x∈r,KY x:=by
 intro m
 induction m with
 |zero=>intro i out _ h;omega
 |succ m ih=>
  intro i out hi hm ho hs;rw[Zbb.l3];simp only[dt,PG];by_cases h:i<a.length
  ·rw[if_pos (by omega)];by_cases h2:i<20
   ·have hg:a.getD i zL∈a:=by rw[PD,PH h];exact Qf h
    have hr:=ha _ hg;generalize a.getD i zL=x at hr⊢;have W1:IntKind.i64.wrap ((i:Int)+1)=((i+1:Nat):Int):=by rw[w64 (by omega)];omega
    rw[if_pos (by omega),if_pos (by omega),J5,PG,if_pos (by omega),J5,PG,if_pos (by omega)];obtain⟨r,h1,h3,h4⟩:=Db a out (i:Int) ((x.1.take (min x.1.length 20)).drop 0) x.2.1.1 x.2.1.2.1 x.2.1.2.2.1 x.2.1.2.2.2.1 x.2.1.2.2.2.2.1 x.2.1.2.2.2.2.2.1 x.2.1.2.2.2.2.2.2.1 ((x.2.1.2.2.2.2.2.2.2.1.take (min x.2.1.2.2.2.2.2.2.2.1.length 20)).drop 0) hr n (Zbb.l3 n m) n 0 [] (by omega) (by omega) rfl (fun y hy=>by cases hy);rw[show((0:Nat):Int)=0 from rfl] at h1;rw[h1];unfold Zbb.j15;rw[if_pos (by simp;omega),W1];refine ih (i+1) _ (by omega) (by omega) (by simp[ho]) fun y hy=>?_
    rcases PL.1 hy with g|g;·exact hs y g
    ·rw[PS.1 g];exact⟨Ca _,h3,h4,Ca _⟩
   ·rw[if_neg (by omega)];exact⟨out,rfl,by omega,hs⟩
  ·rw[if_neg (by omega)];exact⟨out,rfl,by omega,hs⟩
theorem KU(a:List Ln)(ha:∀x∈a,∀y∈eL x,0<=y.2.1/\y.2.1<=4294967295):∃r,Zbb.g a=some (r,())/\r.length<=20/\∀x∈r,KY x:=by
 unfold Zbb.g Zbb.f;exact FT a ha _ (by omega) _ 0 [] (by omega) (by omega) rfl fun x hx=>by cases hx
end Rv
namespace Rv
open Go
theorem aall_wf{a:Str}{b:List Ln}(h:a.length<=maxLen/\(b.length<=maxLen/\∀x∈b,F5 x)/\True):rivetlaw21_AsmAll.g a b=some (true,()):=by
 have hl:(a.take 500).length<=500:=by rw[P7];omega
 obtain⟨r,hr,hrl,hs⟩:=KU b (fun x hx y hy=>by
  obtain⟨_,⟨_,_,_,_,_,_,w2,_⟩,_⟩:=h.2.1.2 x hx;exact F6 (w2.2 y hy).2.1)
 obtain⟨q,hq,hql,hqo⟩:=Pg b h.2.1.2;obtain⟨w,hw,hn⟩:=OI q hqo;have hrf:∀x∈r,um x:=fun x hx=>by
  obtain⟨_,h2,h3,h4⟩:=hs x hx;exact⟨⟨by omega,fun y hy=>by have:=(h3 y hy).2;omega⟩,fun y hy=>(h3 y hy).1,by omega⟩
 obtain⟨lb,_,hnx⟩:=hn.ln;have hwf:∀x∈w,um x:=fun x hx=>by
  obtain⟨_,t,ht⟩:=(hnx x hx).1;exact yP ht
 have hwl:=hn.len;obtain⟨s1,s2,s3⟩:=Np (a.take 500) (by omega);obtain⟨r1,r2,r3⟩:=xN r (by omega);obtain⟨w1,w2,w3⟩:=xN w (by omega);unfold rivetlaw21_AsmAll.g rivetlaw21_AsmAll.f;rw[Nj,Pt,OG a (xJ h.1),Pt];dsimp only;rw[Ow _ (by omega),Pt,Pt];dsimp only;rw[Ng _ (by omega),Pt,hr,Pt];dsimp only;rw[Ag r (by omega) (fun x hx=>Gu (hrf x hx)),Pt,Pt];dsimp only;rw[yl r (by omega) hrf,Pt,hq,Pt];dsimp only;rw[hw,Pt];dsimp only;rw[Ag w (by omega) (fun x hx=>Gu (hwf x hx)),Pt,yl w (by omega) hwf,Pt,if_pos rfl,BM _ _ _ (by omega) (by omega) (by omega),Pt,if_pos rfl,if_pos (by simp),if_pos (by simp),
  BM _ _ _ (by omega) (by omega) (by omega),Pt,if_pos rfl,if_pos (by simp),if_pos (by simp),BM _ _ _ (by omega) (by omega) (by omega),Pt,if_pos rfl,if_pos (by simp)]
 simp
end Rv
