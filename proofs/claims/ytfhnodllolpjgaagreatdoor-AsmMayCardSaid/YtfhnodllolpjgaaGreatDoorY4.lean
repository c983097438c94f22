/- Texts put together. -/
import Derived.Test.YtfhnodllolpjgaaGreatDoorY3
import Derived.Test.YtfhnodllolpjgaaGreatDoorY1
import Derived.Test.YtfhnodllolpjgaaGreatDoorY2
set_option linter.all false
namespace Rv
open Go
def pk(kd:Int)(l:List aD)(p:Nat)(e:Int):Str:=if e=0/\p<l.length/\(l.getD p aX).1=kd then(l.getD p aX).2.2.1 else[]
def chk(ok:Bool)(e:Int):Int:=if ok=false/\e=0 then 22 else e
theorem CJ(kd:Int)(l:List aD)(p:Nat)(e:Int):Zcm.g kd l p e=some (pk kd l p e,l,(p:Int),e,()):=by
 unfold Zcm.g Zcm.f pk;simp only[dt,df,NU];by_cases h:e=0
 ·rw[if_pos (by simp[h])];by_cases hp:p<l.length
  ·rw[if_pos (by omega),if_pos (by omega)];by_cases hk:(l.getD p aX).1=kd
   ·rw[if_neg (by simpa using hk),if_pos (by omega),if_pos ⟨h,hp,hk⟩]
   ·rw[if_pos (by simpa using hk),if_neg (fun g=>hk g.2.2)]
  ·rw[if_neg (by omega),if_neg (fun g=>hp g.2.1)]
 ·rw[if_neg (by simp[h]),if_neg (fun g=>h g.1)]
theorem sV(kd:Int)(l:List aD)(p:Nat)(e:Int)(hp:p<=9000000):Zbg.g kd l p e=some (pk kd l p e,l,((p+1:Nat):Int),e,()):=by
 unfold Zbg.g Zbg.f;rw[CJ,ND];dsimp only;rw[w64 (by omega)];rfl
theorem fe(ok:Bool)(l:List aD)(p:Int)(e:Int):Zao.g ok l p e=some (l,p,chk ok e,()):=by
 unfold Zao.g Zao.f chk;cases ok
 ·by_cases h:e=0
  ·rw[if_pos (show(!false)=true from rfl),if_pos (by simp[h]),if_pos ⟨rfl,h⟩]
  ·rw[if_pos (show(!false)=true from rfl),if_neg (by simp[h]),if_neg (fun g=>h g.2)]
 ·rw[if_neg (by decide),if_neg (fun g=>by cases g.1)]
theorem FY{l:List aD}(hl:∀t∈l,t.2.2.1.length<=1000000)(kd:Int)(p:Nat)(e:Int):(pk kd l p e).length<=1000000:=by
 unfold pk;split;·rename_i h;exact hl _ (xK h.2.1)
 ·simp
def chK(l:List aD)(p:Nat)(e:Int)(s:Sm):Int:=
 if s.k=1/\((gD (pk 1 l p e)).2=false\/(s.u=true/\s.o=0)) then 2 else if s.k=7/\(gD (pk 1 l p e)).2=true then 6 else s.k
abbrev smR(l:List aD)(p:Nat)(e:Int)(s:Sm):List aD×Int×Int×Int×Int×Int×Int×Int×Bool×List Item×Str×Unit:=(l,(p:Int),e,s.k,s.o,s.a,s.b,s.c,s.u,s.e,s.nm,())
theorem E8{l:List aD}(hl:∀t∈l,t.2.2.1.length<=1000000)(p:Nat)(e:Int)(s:Sm):Zdc.g l p e s.k s.o s.a s.b s.c s.u s.e s.nm=some (smR l p e { s with k:=chK l p e s }):=by
 unfold Zdc.g Zdc.f chK;rw[CJ,ND];dsimp only;rw[Gd _ (FY hl 1 p e),ND];dsimp only;generalize (gD (pk 1 l p e)).2=is;simp only[dt];by_cases h1:s.k=1
 ·rw[if_pos h1];cases is
  ·rw[if_neg (by decide),if_pos ⟨h1,.inl rfl⟩]
  ·rw[if_pos (by decide)];by_cases hu:s.u=true
   ·rw[if_pos hu];by_cases ho:s.o=0
    ·rw[if_pos ho,if_pos ⟨h1,.inr ⟨hu,ho⟩⟩]
    ·rw[if_neg ho,if_neg (by omega),if_neg (fun g=>by rcases g.2 with g|g;cases g;exact ho g.2),if_neg (fun g=>by omega)]
   ·rw[if_neg hu,if_neg (by omega),if_neg (fun g=>by rcases g.2 with g|g;cases g;exact hu g.1),if_neg (fun g=>by omega)]
 ·have hm:(if s.k=1/\(is=false\/(s.u=true/\s.o=0)) then(2:Int) else if s.k=7/\is=true then 6 else s.k)=if s.k=7/\is=true then 6 else s.k:=if_neg (fun g=>h1 g.1)
  rw[if_neg h1,hm];by_cases h7:s.k=7
  ·rw[if_pos h7];cases is
   ·rw[if_neg (by decide),if_neg (fun g=>by cases g.2)]
   ·rw[if_pos rfl,if_pos ⟨h7,rfl⟩]
  ·have hm2:(if s.k=7/\is=true then(6:Int) else s.k)=s.k:=if_neg (fun g=>h7 g.1);rw[if_neg h7,hm2]
def rdE(l:List aD)(p:Nat)(e:Int)(s:Sm):Nat×Int×Sm:=if e=0 then((dP l p).2.1.toNat,(dP l p).2.2.1,{ s with e:=(dP l p).1 }) else(p,e,s)
def rd(l:List aD)(p:Nat)(e:Int)(s:Sm):Od->Nat×Int×Sm
 | .A=>(p+1,chk (gD (pk 1 l p e)).2 e,{ s with a:=(gD (pk 1 l p e)).1 })
 | .B=>(p+1,chk (gD (pk 1 l p e)).2 e,{ s with b:=(gD (pk 1 l p e)).1 })
 | .C=>(p+1,chk (gD (pk 1 l p e)).2 e,{ s with c:=(gD (pk 1 l p e)).1 })
 | .E=>rdE l p e s
 | .Q=>rdE l (p+1) (chk (decide (pk 3 l p e=[61])) e) s
 | .N=>(p+1,chk (cB (pk 1 l p e)) e,{ s with nm:=pk 1 l p e })
abbrev smO(l:List aD)(r:Nat×Int×Sm):=smR l r.1 r.2.1 r.2.2
theorem xZ(l:List aD)(p:Nat):(dP l p).2.1=((dP l p).2.1.toNat:Int)/\(dP l p).2.1.toNat<=l.length:=by
 unfold dP;have hg:=kW (dK l 9) p;cases hx:xS l (pF l 9) p with
 |error e=>exact⟨rfl,Nat.zero_le _⟩
 |ok r=>
  rw[hx] at hg;have:=hg.le;dsimp only;split;·exact⟨rfl,Nat.zero_le _⟩
  ·exact⟨by dsimp only;omega,by dsimp only;omega⟩
section
variable{l:List aD}(hl0:l.length<=1000000)(hl:∀t∈l,t.2.2.1.length<=1000000)
include hl0 in
theorem JM(n p:Nat)(e:Int)(s:Sm):Zax.j2 n l p e s.k s.o s.a s.b s.c s.u s.e s.nm=some (smO l (rdE l p e s)):=by
 unfold Zax.j2 rdE;simp only[dt];by_cases h:e=0;·rw[if_pos h,if_pos h,FW l hl0 p,ND];have:=(xZ l p).1;show some (l,(dP l p).2.1,_)=some (l,((dP l p).2.1.toNat:Int),_);rw[<- this]
 ·rw[if_neg h,if_neg h]
include hl in
theorem xg(p:Nat)(hp:p<=9000000)(e:Int)(s:Sm)(d:Od)(f:Fn)(hd:(d=.A/\f=K.atA)\/(d=.B/\f=K.atB)\/(d=.C/\f=K.atC)):Zcn.g f l p e s.k s.o s.a s.b s.c s.u s.e s.nm=some (smO l (rd l p e s d)):=by
 unfold Zcn.g Zcn.f;rw[sV 1 l p e hp,ND];dsimp only;rw[Gd _ (FY hl 1 p e),ND];dsimp only;rw[fe,ND];dsimp only;rcases hd with⟨rfl,rfl⟩|⟨rfl,rfl⟩|⟨rfl,rfl⟩;·rw[if_pos rfl];rfl
 ·rw[if_neg (by decide),if_pos rfl];rfl
 ·rw[if_neg (by decide),if_neg (by decide),if_pos rfl];rfl
include hl0 in
theorem Cx(p:Nat)(hp:p<=9000000)(e:Int)(s:Sm):Zax.g [] l p e s.k s.o s.a s.b s.c s.u s.e s.nm=some (smO l (rd l p e s .E))/\Zax.g [61] l p e s.k s.o s.a s.b s.c s.u s.e s.nm=some (smO l (rd l p e s .Q)):=by
 constructor;·unfold Zax.g Zax.f;rw[if_neg (by decide)];exact JM hl0 _ p e s
 ·unfold Zax.g Zax.f;rw[if_pos (by decide),sV 3 l p e hp,ND];dsimp only;rw[fe,ND];exact JM hl0 _ (p+1) _ s
theorem KV(p:Nat)(hp:p<=9000000)(e:Int)(s:Sm):Zdd.g l p e s.k s.o s.a s.b s.c s.u s.e s.nm=some (smO l (rd l p e s .N)):=by
 unfold Zdd.g Zdd.f;rw[sV 1 l p e hp,ND];dsimp only;rw[jY,ND];dsimp only;rw[fe,ND];rfl
def aJ(l:List aD)(op:Int)(many i p:Nat)(e:Int)(s:Sm):Nat×Int×Sm:=
 let p1:=if 0<i then p+1 else p
 let e1:=if 0<i then chk (decide (pk 3 l p e=[44])) e else e
 let s1:=if i+1=many then { s with k:=chK l p1 e1 s } else s
 match (odL s1.k op)[i]? with
 |some d=>rd l p1 e1 s1 d
 |none=>(p1,e1,s1)
def dC(l:List aD)(op:Int)(many:Nat):Nat->Nat->Nat×Int×Sm->Nat×Int×Sm
 |0,_,r=>r
 |m+1,i,r=>dC l op many m (i+1) (aJ l op many i r.1 r.2.1 r.2.2)
abbrev PR:=Str×Int×Int×Int×Int×Int×Bool×List Item×Str×Int×Unit
def uJ(lb:Str)(e:Int)(s:Sm):PR:=if e≠0 then([],0,0,0,0,0,false,[],[],e,()) else(lb,s.k,s.o,s.a,s.b,s.c,s.u,s.e,s.nm,0,())
def oI(l:List aD)(lb:Str)(r:Nat×Int×Sm):PR:=uJ lb (chk (decide (l.length<=r.1)) r.2.1) r.2.2
theorem ni(p:Nat)(e:Int)(s:Sm)(op:Int):(odL (chK l p e s) op).length=(odL s.k op).length:=by
 unfold chK;split;·rename_i h;rw[h.1];unfold odL;split<;>(first|contradiction|skip)<;>simp<;>split<;>rfl
 ·split
  ·rename_i h;rw[h.1];rfl
  ·rfl
theorem Ny(p:Nat)(e:Int)(s:Sm)(d:Od):(rd l p e s d).2.2.k=s.k:=by
 have h:∀p e,(rdE l p e s).2.2.k=s.k:=fun p e=>by unfold rdE;split<;>rfl
 cases d<;>first|rfl|exact h _ _
theorem Nz(p:Nat)(e:Int)(s:Sm)(d:Od):(rd l p e s d).1<=max (p+1) l.length:=by
 have h:∀p e,(rdE l p e s).1<=max p l.length:=fun p e=>by
  unfold rdE;have:=(xZ l p).2;split<;>dsimp only<;>omega
 cases d with
 |A=>show p+1<=_;omega
 |B=>show p+1<=_;omega
 |C=>show p+1<=_;omega
 |N=>show p+1<=_;omega
 |E=>have:=h p e;show(rdE l p e s).1<=_;omega
 |Q=>exact h (p+1) _
theorem MN(op:Int)(many i p:Nat)(e:Int)(s:Sm):(odL (aJ l op many i p e s).2.2.k op).length=(odL s.k op).length:=by
 unfold aJ;dsimp only;split
 ·rw[Ny];split
  ·exact ni _ _ s op
  ·rfl
 ·dsimp only;split
  ·exact ni _ _ s op
  ·rfl
theorem MO(op:Int)(many i p:Nat)(e:Int)(s:Sm):(aJ l op many i p e s).1<=max (p+2) l.length:=by
 unfold aJ;dsimp only;generalize hp1:(if 0<i then p+1 else p)=p1;have h1:p1<=p+1:=by rw[<- hp1];split<;>omega
 generalize (if 0<i then chk (decide (pk 3 l p e=[44])) e else e)=e1;split;·have:=Nz (l:=l) p1 e1 (if i+1=many then { s with k:=chK l p1 e1 s } else s) ‹Od›;omega
 ·dsimp only;omega
include hl0 hl in
theorem Mf(n:Nat)(rl)(lb:Str)(op:Int)(many i:Nat)(p:Nat)(hp:p<=9000000)(e:Int)(s:Sm)(d:Od)(hd:(odL s.k op)[i]?=some d) :
  Zab.j19 n rl l lb op (many:Int) (i:Int) (many:Int) (i:Int) s.k s.o s.a s.b s.c s.u s.e s.nm l p e =
   Zab.j20 n rl l lb op (many:Int) (many:Int) (i:Int) (rd l p e s d).2.2.k (rd l p e s d).2.2.o (rd l p e s d).2.2.a (rd l p e s d).2.2.b (rd l p e s d).2.2.c (rd l p e s d).2.2.u (rd l p e s d).2.2.e (rd l p e s d).2.2.nm l (rd l p e s d).1 (rd l p e s d).2.1:=by
 unfold Zab.j19;have hi:i<(odL s.k op).length:=by
  rcases Nat.lt_or_ge i (odL s.k op).length with h|h;·exact h
  ·rw[List.getElem?_eq_none h] at hd;cases hd
 have hg:((odL s.k op).map odF).getD ((i:Int)).toNat (((0,[]):Fn),(((0,[]):Fn),()))=odF d:=by
  rw[NU,NH,OC,hd];rfl
 rw[CF,hg,if_pos (by rw[Oy];omega)];cases d with
 |A=>
  show(if K.rdA=K.rdA then _ else _)=_;rw[if_pos rfl,xg hl p hp e s .A _ (.inl ⟨rfl,rfl⟩),ND]
 |B=>
  show(if K.rdB=K.rdA then _ else if K.rdB=K.rdB then _ else _)=_;rw[if_neg (by decide),if_pos rfl,xg hl p hp e s .B _ (.inr (.inl ⟨rfl,rfl⟩)),ND]
 |C=>
  show(if K.rdC=K.rdA then _ else if K.rdC=K.rdB then _ else if K.rdC=K.rdC then _ else _)=_;rw[if_neg (by decide),if_neg (by decide),if_pos rfl,xg hl p hp e s .C _ (.inr (.inr ⟨rfl,rfl⟩)),ND]
 |E=>
  show(if K.rdE=K.rdA then _ else if K.rdE=K.rdB then _ else if K.rdE=K.rdC then _ else if K.rdE=K.rdE then _ else _)=_;rw[if_neg (by decide),if_neg (by decide),if_neg (by decide),if_pos rfl,(Cx hl0 p hp e s).1,ND]
 |Q=>
  show(if K.rdQ=K.rdA then _ else if K.rdQ=K.rdB then _ else if K.rdQ=K.rdC then _ else if K.rdQ=K.rdE then _ else if K.rdQ=K.rdQ then _ else _)=_;rw[if_neg (by decide),if_neg (by decide),if_neg (by decide),if_neg (by decide),if_pos rfl,(Cx hl0 p hp e s).2,ND]
 |N=>
  show(if K.rdN=K.rdA then _ else if K.rdN=K.rdB then _ else if K.rdN=K.rdC then _ else if K.rdN=K.rdE then _ else if K.rdN=K.rdQ then _ else if K.rdN=K.rdN then _ else _)=_;rw[if_neg (by decide),if_neg (by decide),if_neg (by decide),if_neg (by decide),if_neg (by decide),if_pos rfl,KV p hp e s,ND]
include hl0 hl in
theorem Ej(n:Nat)(lb:Str)(op:Int)(many:Nat)(h3:many<=3):∀(M m i:Nat) (p:Nat) (e:Int) (s:Sm),i+m=many->m<M->p<=8000000+10*i->(odL s.k op).length=many ->
  Zab.l13 n M l lb op (many:Int) (many:Int) (i:Int) s.k s.o s.a s.b s.c s.u s.e s.nm l p e=some (oI l lb (dC l op many m i (p,e,s))):=by
 intro M
 induction M with
 |zero=>intro m i p e s _ h;omega
 |succ M ih=>
  intro m i p e s him hm hp hk;rw[Zab.l13];simp only[dt];cases m with
  |zero=>
   rw[if_neg (by omega),fe,ND];dsimp only[dC];unfold Zab.j22 oI uJ;simp only[dt];have:decide ((l.length:Int)<=(p:Int))=decide (l.length<=p):=by
    rw[Bool.eq_iff_iff,NN,NN];omega
   rw[this];split<;>rfl
  |succ m=>
   rw[if_pos (by omega)];dsimp only[dC];have hsk:=MN (l:=l) op many i p e s;have hsp:=MO (l:=l) op many i p e s;have nxt:=fun h=>ih m (i+1) (aJ l op many i p e s).1 (aJ l op many i p e s).2.1 (aJ l op many i p e s).2.2 (by omega) (by omega) (by omega) h
   rw[hsk] at nxt;have nxt:=nxt hk;have J:∀(p1:Nat) (e1:Int),p1<=9000000->p1=(if 0<i then p+1 else p)->e1=(if 0<i then chk (decide (pk 3 l p e=[44])) e else e) ->
     Zab.j17 n (Zab.l13 n M) l lb op (many:Int) (i:Int) (many:Int) (i:Int) s.k s.o s.a s.b s.c s.u s.e s.nm l p1 e1=some (oI l lb (dC l op many m (i+1) (aJ l op many i p e s))):=by
    intro p1 e1 hp1 hp1' he1';have fin:∀s1:Sm,s1=(if i+1=many then { s with k:=chK l p1 e1 s } else s)->Zab.j19 n (Zab.l13 n M) l lb op (many:Int) (i:Int) (many:Int) (i:Int) s1.k s1.o s1.a s1.b s1.c s1.u s1.e s1.nm l p1 e1=some (oI l lb (dC l op many m (i+1) (aJ l op many i p e s))):=by
     intro s1 hs1;have hlen:(odL s1.k op).length=many:=by
      rw[hs1];split;·rw[<- hk];exact ni _ _ s op
      ·exact hk
     obtain⟨d,hd⟩:∃d,(odL s1.k op)[i]?=some d:=⟨_,NL (by omega)⟩
     have hst:aJ l op many i p e s=rd l p1 e1 s1 d:=by
      unfold aJ;dsimp only;rw[<- hp1',<- he1',<- hs1,hd]
     rw[Mf hl0 hl n _ lb op many i p1 hp1 e1 s1 d hd,<- hst];unfold Zab.j20;rw[w64 (by omega),show(i:Int)+1=((i+1:Nat):Int) by omega];exact nxt
    unfold Zab.j17;simp only[dt];have hw:IntKind.i64.wrap ((many:Int)-1)=(many:Int)-1:=w64 (by omega);rw[hw];by_cases hlast:i+1=many;·rw[if_pos (by omega),E8 hl p1 e1 s,ND];exact fin { s with k:=chK l p1 e1 s } (by rw[if_pos hlast])
    ·rw[if_neg (by omega)];exact fin s (by rw[if_neg hlast])
   by_cases h0:0<i;·rw[if_pos (by omega),sV 3 l p e (by omega),ND];dsimp only;rw[fe,ND];exact J (p+1) _ (by omega) (by rw[if_pos h0]) (by rw[if_pos h0])
   ·rw[if_neg (by omega)];exact J p e (by omega) (by rw[if_neg h0]) (by rw[if_neg h0])
def oL(l:List aD)(lb:Str)(p:Nat)(e:Int):PR:=
 if e=0/\p<l.length then
  let t:=l.getD p aX
  let w:=L.ofR t.2.2.1
  let ok:=w.2.2.2.1&&(decide (t.1=4) == decide (w.1=9\/w.1=10))&&(decide (t.1=4)||decide (t.1=1))
  oI l lb (dC l w.2.1 (odL w.1 w.2.1).length (odL w.1 w.2.1).length 0 (p+1,chk ok e,⟨w.1,w.2.1,0,0,0,w.2.2.1,[],[]⟩))
 else uJ lb e ⟨0,0,0,0,0,false,[],[]⟩
def lL(l:List aD):PR:=
 if 1<l.length/\(l.getD 0 aX).1=1/\gU l 1 58=true then oL l (l.getD 0 aX).2.2.1 2 (chk (bA (l.getD 0 aX).2.2.1) 0) else oL l [] 0 0
include hl0 hl in
theorem Kz(n:Nat)(hn:10<=n)(lb:Str)(p:Nat)(hp:p<=2)(e:Int):Zab.j5 n l lb 0 0 0 0 0 false [] [] l p e=some (oL l lb p e):=by
 unfold Zab.j5 oL;simp only[dt];by_cases he:e=0
 ·rw[if_pos he];by_cases hp':p<l.length
  ·rw[if_pos (by omega),if_pos (by omega),if_pos ⟨he,hp'⟩,NU];unfold L.nameOfO;rw[ND];generalize l.getD p aX=t;generalize L.ofR t.2.2.1=w;have J9:∀ok:Bool,Zab.j9 n l lb w.1 w.2.1 w.2.2.1 0 0 0 0 0 false [] [] l (p:Int) (chk ok e)=some (oI l lb (dC l w.2.1 (odL w.1 w.2.1).length (odL w.1 w.2.1).length 0 (p+1,chk ok e,⟨w.1,w.2.1,0,0,0,w.2.2.1,[],[]⟩))):=fun ok=>by
    unfold Zab.j9;have hlen:((L.opsR w.1 w.2.1).length:Int)=((odL w.1 w.2.1).length:Int):=by rw[CF,Oy]
    rw[hlen,w64 (by omega)];have h3:=KY w.1 w.2.1;exact Ej hl0 hl n lb w.2.1 (odL w.1 w.2.1).length h3 n (odL w.1 w.2.1).length 0 (p+1) (chk ok e) ⟨w.1,w.2.1,0,0,0,w.2.2.1,[],[]⟩ (by omega) (by omega) (by omega) rfl
   cases hok:w.2.2.2.1 with
   |false=>
    rw[if_neg (by decide),fe,ND];exact J9 false
   |true=>
    rw[if_pos rfl,Fe,ND];dsimp only;cases hq:(decide (t.1=4) == decide (w.1=9\/w.1=10)) with
    |false=>
     rw[if_neg (by decide),fe,ND];exact J9 false
    |true=>
     rw[if_pos rfl];by_cases h4:t.1=4;·rw[if_neg (by simp[h4]),fe,ND,decide_eq_true h4];exact J9 true
     ·rw[if_pos (by simp[h4]),fe,ND,decide_eq_false h4];exact J9 _
  ·rw[if_neg (by omega),if_neg (fun g=>hp' g.2)];unfold Zab.j22 uJ;simp only[dt];split<;>rfl
 ·rw[if_neg he,if_neg (fun g=>he g.1)];unfold Zab.j22 uJ;simp only[dt];split<;>rfl
include hl0 hl in
theorem FX:Zab.g l=some (lL l):=by
 unfold Zab.g;have hn:10<=1000+l.length:=by omega
 generalize 1000+l.length=n at hn;unfold Zab.f lL;have H:=Kz hl0 hl n hn;have H0:=H [] 0 (by decide) 0;rw[show((0:Nat):Int)=0 from rfl] at H0;simp only[dt];have t0:((0:Int)).toNat=0:=rfl;have t1:((1:Int)).toNat=1:=rfl;rw[t0,t1];by_cases h1:1<l.length
 ·rw[if_pos (by omega),if_pos (by omega)];by_cases k0:(l.getD 0 aX).1=1
  ·rw[if_pos k0,if_pos (by omega)];by_cases k1:(l.getD 1 aX).1=3
   ·rw[if_pos k1,if_pos (by omega)];by_cases k2:(l.getD 1 aX).2.2.1=[58]
    ·rw[if_pos k2,if_pos (by omega),uE,ND];dsimp only;rw[fe,ND,if_pos ⟨h1,k0,bN.2 ⟨h1,k1,k2⟩⟩];exact H _ 2 (by decide) _
    ·rw[if_neg k2,if_neg (fun g=>k2 (bN.1 g.2.2).2.2)];exact H0
   ·rw[if_neg k1,if_neg (fun g=>k1 (bN.1 g.2.2).2.1)];exact H0
  ·rw[if_neg k0,if_neg (fun g=>k0 g.2.1)];exact H0
 ·rw[if_neg (by omega),if_neg (fun g=>h1 g.1)];exact H0
end
end Rv
namespace Rv
open Go
theorem Jq{l:List aD}{op:Int}{many p:Nat}{s:Sm}{d:Od}(hm:many≠1)(hd:(odL s.k op)[0]?=some d):aJ l op many 0 p 0 s=rd l p 0 s d:=by
 unfold aJ;dsimp only;rw[if_neg (by omega),if_neg (by omega),if_neg (by omega),hd]
theorem Ls{l:List aD}{op:Int}{many p:Nat}{s:Sm}{d:Od}{K:Int}(hm:many=1)(hK:chK l p 0 s=K)(hd:(odL K op)[0]?=some d):aJ l op many 0 p 0 s=rd l p 0 { s with k:=K } d:=by
 subst hm;unfold aJ;dsimp only;rw[if_neg (show ¬0<0 by decide),if_neg (show ¬0<0 by decide),if_pos (show 0+1=1 from rfl),hK];dsimp only;rw[hd]
theorem jv{l:List aD}{p:Nat}{e:Int}{s:Sm}(h1:s.k≠1)(h7:s.k≠7):chK l p e s=s.k:=by
 unfold chK;rw[if_neg (fun g=>h1 g.1),if_neg (fun g=>h7 g.1)]
end Rv
namespace Rv
open Go
def smP(lb:Str)(s:Sm):PR:=(lb,s.k,s.o,s.a,s.b,s.c,s.u,s.e,s.nm,0,())
def noP(e:Int):PR:=([],0,0,0,0,0,false,[],[],e,())
end Rv
namespace Rv
open Go
theorem eB{b:Bool}{e:Int}(h:chk b e=0):e=0/\b=true:=by
 unfold chk at h;split at h;·exact absurd h (by decide)
 ·rename_i g;refine⟨h,?_⟩;cases b
  ·exact absurd ⟨rfl,h⟩ g
  ·rfl
def gY(e:Int):Prop:=e=0\/e=22\/e=23\/e=24
theorem gp{b:Bool}{e:Int}(h:gY e):gY (chk b e):=by
 unfold chk;split;·exact .inr (.inl rfl)
 ·exact h
theorem uQ{s:Str}(h:(gD s).2=true):rg (gD s).1:=by
 unfold gD at h⊢;cases hf:(List.range 16).find? (fun k=>kC k == s) with
 |none=>rw[hf] at h;cases h
 |some k=>have:=(ww hf).1;exact⟨by dsimp only;omega,by dsimp only;omega⟩
section
variable{l:List aD}(hw:∀t∈l,0<=t.2.2.2.1/\t.2.2.2.1<=4294967295)
theorem Ei(p:Nat):gY (dP l p).2.2.1:=by
 unfold dP;have hg:=kW (dK l 9) p;cases hx:xS l (pF l 9) p with
 |error e=>rw[hx] at hg;rcases hg with rfl|rfl;exact .inr (.inr (.inl rfl));exact .inr (.inr (.inr rfl))
 |ok r=>dsimp only;split;exact .inr (.inr (.inr rfl));exact .inl rfl
include hw in
theorem BI{p:Nat}(h:(dP l p).2.2.1=0):∃t,w9 t/\(dP l p).1=t.post:=by
 unfold dP at h⊢;have hg:=kW (dK l 9) p;cases hx:xS l (pF l 9) p with
 |error e=>
  rw[hx] at h hg;have h:e=0:=h;rcases hg with rfl|rfl<;>cases h
 |ok r=>
  rw[hx] at h hg;dsimp only at h⊢;split at h;·cases h
  ·rename_i h64;rw[if_neg h64];obtain⟨t,h1,h2,h3⟩:=LA hg.well (hg.good hw);exact⟨t,⟨h2,h3,by rw[h1];exact hg.well,by rw[h1];omega⟩,h1.symm⟩
theorem Al{p:Nat}{e:Int}{s:Sm}{d:Od}(h:(rd l p e s d).2.1=0):e=0:=by
 have hE:∀p e,(rdE l p e s).2.1=0->e=0:=fun p e h=>by
  unfold rdE at h;split at h;·assumption
  ·exact h
 cases d with
 |A=>exact(eB h).1
 |B=>exact(eB h).1
 |C=>exact(eB h).1
 |N=>exact(eB h).1
 |E=>exact hE _ _ h
 |Q=>exact(eB (hE _ _ h)).1
theorem Na{p:Nat}{e:Int}{s:Sm}{d:Od}(h:gY e):gY (rd l p e s d).2.1:=by
 have hE:∀p e,gY e->gY (rdE l p e s).2.1:=fun p e h=>by
  unfold rdE;split;·exact Ei p
  ·exact h
 cases d with
 |A=>exact gp h
 |B=>exact gp h
 |C=>exact gp h
 |N=>exact gp h
 |E=>exact hE _ _ h
 |Q=>exact hE _ _ (gp h)
theorem step_ok{op:Int}{many i p:Nat}{e:Int}{s:Sm}(h:gY e):gY (aJ l op many i p e s).2.1:=by
 unfold aJ;dsimp only;have h1:gY (if 0<i then chk (decide (pk 3 l p e=[44])) e else e):=by split;exact gp h;exact h
 split;·exact Na h1
 ·exact h1
theorem wY{op:Int}{many:Nat}:∀(m i:Nat) (r:Nat×Int×Sm),gY r.2.1->gY (dC l op many m i r).2.1
 |0,_,_,h=>h
 |m+1,i,r,h=>wY m (i+1) _ (step_ok h)
theorem bC{op:Int}{many i p:Nat}{e:Int}{s:Sm}(h:(aJ l op many i p e s).2.1=0):e=0:=by
 unfold aJ at h;dsimp only at h;have h1:(if 0<i then chk (decide (pk 3 l p e=[44])) e else e)=0->e=0:=fun h=>by
  split at h;·exact(eB h).1
  ·exact h
 split at h;·exact h1 (Al h)
 ·exact h1 h
theorem nL{p:Nat}{s:Sm}(h:(rd l p 0 s .A).2.1=0):∃a,rg a/\(rd l p 0 s .A).2.2={ s with a:=a }:=⟨_,uQ (eB h).2,rfl⟩
theorem F8{p:Nat}{s:Sm}(h:(rd l p 0 s .B).2.1=0):∃a,rg a/\(rd l p 0 s .B).2.2={ s with b:=a }:=⟨_,uQ (eB h).2,rfl⟩
theorem Ak{p:Nat}{e:Int}{s:Sm}(h:(rd l p e s .C).2.1=0):∃a,rg a/\(rd l p e s .C).2.2={ s with c:=a }:=⟨_,uQ (eB h).2,rfl⟩
theorem MC{p:Nat}{s:Sm}(h:(rd l p 0 s .N).2.1=0):∃a,cB a=true/\(rd l p 0 s .N).2.2={ s with nm:=a }:=⟨_,(eB h).2,rfl⟩
include hw in
theorem nM{p:Nat}{e:Int}{s:Sm}(h:(rdE l p e s).2.1=0):∃t,w9 t/\(rdE l p e s).2.2={ s with e:=t.post }:=by
 unfold rdE at h⊢;split at h;·rename_i he;rw[if_pos he];obtain⟨t,h1,h2⟩:=BI hw h;exact⟨t,h1,by dsimp only;rw[h2]⟩
 ·rename_i he;exact absurd h he
theorem pU{op:Int}{many p:Nat}{s:Sm}{d:Od}(hm:many≠1)(hd:(odL s.k op)[0]?=some d):aJ l op many 0 p 0 s=rd l p 0 s d:=Jq hm hd
theorem Gm{op:Int}{many i p:Nat}{s:Sm}{d:Od}(h0:0<i)(hm:i+1≠many)(hd:(odL s.k op)[i]?=some d)(h:(aJ l op many i p 0 s).2.1=0):aJ l op many i p 0 s=rd l (p+1) 0 s d:=by
 have key:aJ l op many i p 0 s=rd l (p+1) (chk (decide (pk 3 l p 0=[44])) 0) s d:=by
  unfold aJ;dsimp only;rw[if_pos h0,if_pos h0,if_neg hm,hd]
 rw[key] at h⊢;rw[Al h]
theorem sU{op:Int}{many i p:Nat}{s:Sm}(h0:0<i)(hm:i+1=many)(hl:i<(odL s.k op).length)(h:(aJ l op many i p 0 s).2.1=0):∃K d,chK l (p+1) 0 s=K/\(odL K op)[i]?=some d/\aJ l op many i p 0 s=rd l (p+1) 0 { s with k:=K } d:=by
 obtain⟨d,hd⟩:∃d,(odL (chK l (p+1) (chk (decide (pk 3 l p 0=[44])) 0) s) op)[i]?=some d:=⟨_,NL (by rw[ni];exact hl)⟩
 have key:aJ l op many i p 0 s=rd l (p+1) (chk (decide (pk 3 l p 0=[44])) 0) { s with k:=chK l (p+1) (chk (decide (pk 3 l p 0=[44])) 0) s } d:=by
  unfold aJ;dsimp only;rw[if_pos h0,if_pos h0,if_pos hm];dsimp only;rw[hd]
 have he:chk (decide (pk 3 l p 0=[44])) 0=0:=by rw[key] at h;exact Al h
 rw[he] at key hd;exact⟨_,d,rfl,hd,key⟩
theorem nS{op:Int}{p:Nat}{s:Sm}(hl:0<(odL s.k op).length):∃K d,chK l p 0 s=K/\(odL K op)[0]?=some d/\aJ l op 1 0 p 0 s=rd l p 0 { s with k:=K } d:=by
 obtain⟨d,hd⟩:∃d,(odL (chK l p 0 s) op)[0]?=some d:=⟨_,NL (by rw[ni];exact hl)⟩
 exact⟨_,d,rfl,hd,Ls rfl rfl hd⟩
theorem Ca{p:Nat}{s:Sm}(h:s.k=1):chK l p 0 s=2\/(chK l p 0 s=1/\¬(s.u=true/\s.o=0)):=by
 unfold chK;split;·exact .inl rfl
 ·rename_i g;rw[if_neg (fun q=>by omega)];exact .inr ⟨h,fun q=>g ⟨h,.inr q⟩⟩
theorem E5{p:Nat}{s:Sm}(h:s.k=7):chK l p 0 s=6\/chK l p 0 s=7:=by
 unfold chK;rw[if_neg (fun q=>by omega)];split;·exact .inl rfl
 ·exact .inr h
theorem KW:∀e∈L.nameTbl,(e.2.1.1=1/\0<=e.2.1.2.1/\e.2.1.2.1<12/\(e.2.1.2.2=true->e.2.1.2.1=0\/8<=e.2.1.2.1/\e.2.1.2.1<=10))\/((e.2.1.1=3\/e.2.1.1=4\/e.2.1.1=8\/e.2.1.1=9\/e.2.1.1=10)/\e.2.1.2.1=0/\e.2.1.2.2=false)\/(e.2.1.1=5/\0<=e.2.1.2.1/\e.2.1.2.1<4/\e.2.1.2.2=false)\/(e.2.1.1=7/\0<=e.2.1.2.1/\e.2.1.2.1<16):=by decide +kernel
theorem IY{s:Str}(h:(L.ofR s).2.2.2.1=true):∃k o u,L.ofR s=(k,o,u,true,())/\((k=1/\0<=o/\o<12/\(u=true->o=0\/8<=o/\o<=10))\/((k=3\/k=4\/k=8\/k=9\/k=10)/\o=0/\u=false)\/(k=5/\0<=o/\o<4/\u=false)\/(k=7/\0<=o/\o<16)):=by
 unfold L.ofR at h⊢;cases hf:L.nameTbl.find? fun e=>e.2.2 == s with
 |none=>rw[hf] at h;cases h
 |some e=>exact⟨e.2.1.1,e.2.1.2.1,e.2.1.2.2,rfl,KW e (List.mem_of_find?_eq_some hf)⟩
include hw in
theorem EH{k o:Int}{u:Bool}(hk:(k=1/\0<=o/\o<12/\(u=true->o=0\/8<=o/\o<=10))\/((k=3\/k=4\/k=8\/k=9\/k=10)/\o=0/\u=false)\/(k=5/\0<=o/\o<4/\u=false)\/(k=7/\0<=o/\o<16))(p:Nat){e:Int}
  (h:(dC l o (odL k o).length (odL k o).length 0 (p,e,⟨k,o,0,0,0,u,[],[]⟩)).2.1=0):∃t,GoodS (dC l o (odL k o).length (odL k o).length 0 (p,e,⟨k,o,0,0,0,u,[],[]⟩)).2.2 t:=by
 have hnil:∀{α:Type}{x:α}{i:Nat},([]:List α)[i]?=some x->False:=fun h=>by simp at h
 rcases hk with⟨rfl,ho,ho2,hu⟩|⟨hk,rfl,rfl⟩|⟨rfl,ho,ho2,rfl⟩|⟨rfl,ho,ho2⟩
 ·by_cases h0:o=0
  ·subst h0;have e1:(odL 1 0).length=2:=rfl;rw[e1] at h⊢;simp only[dC] at h⊢;generalize hr0:aJ l 0 2 0 p e ⟨1,0,0,0,0,u,[],[]⟩=r0 at h⊢;generalize hr1:aJ l 0 2 1 r0.1 r0.2.1 r0.2.2=r1 at h⊢;have z0:r0.2.1=0:=by rw[<- hr1] at h;exact bC h
   have ze:e=0:=by rw[<- hr0] at z0;exact bC z0
   subst ze;rw[pU (d:=.A) (by decide) rfl] at hr0;obtain⟨a,ha,hs⟩:=nL (l:=l) (p:=p) (s:=⟨1,0,0,0,0,u,[],[]⟩) (by rw[hr0];exact z0);rw[hr0] at hs;rw[z0,hs] at hr1;obtain⟨K,d,hK,hd,hst⟩:=sU (l:=l) (op:=0) (many:=2) (i:=1) (p:=r0.1) (s:=⟨1,0,a,0,0,u,[],[]⟩) (by decide) rfl (by show 1<2;decide) (by rw[hr1];exact h);rw[hst] at hr1;rcases Ca (l:=l) (p:=r0.1+1) (s:=⟨1,0,a,0,0,u,[],[]⟩) rfl with c|⟨c,hn⟩
   ·rw[hK] at c;subst c;obtain rfl:d=.E:=by have hd:some Od.E=some d:=hd;exact(NE hd).symm
    obtain⟨t,ht,hs2⟩:=nM hw (p:=r0.1+1) (e:=0) (s:=⟨2,0,a,0,0,u,[],[]⟩) (by show(rd l (r0.1+1) 0 _ .E).2.1=0;rw[hr1];exact h);have hs2:(rd l (r0.1+1) 0 ⟨2,0,a,0,0,u,[],[]⟩ .E).2.2=_:=hs2;rw[hr1] at hs2;rw[hs2];exact⟨some t,.ins1 (.movi ha) (.inl rfl) ht⟩
   ·rw[hK] at c;subst c;obtain rfl:d=.C:=by have hd:some Od.C=some d:=hd;exact(NE hd).symm
    obtain⟨c,hc,hs2⟩:=Ak (l:=l) (p:=r0.1+1) (e:=0) (s:=⟨1,0,a,0,0,u,[],[]⟩) (by rw[hr1];exact h);rw[hr1] at hs2;rw[hs2];have:u=false:=by cases u;rfl;exact absurd ⟨rfl,rfl⟩ hn
    subst this;exact⟨none,.ins0 (.mov ha hc) (.inl rfl)⟩
  ·have hop:0<o:=by omega
   have e1:(odL 1 o).length=3:=by rw[sN hop];rfl
   rw[e1] at h⊢;simp only[dC] at h⊢;generalize hr0:aJ l o 3 0 p e ⟨1,o,0,0,0,u,[],[]⟩=r0 at h⊢;generalize hr1:aJ l o 3 1 r0.1 r0.2.1 r0.2.2=r1 at h⊢;generalize hr2:aJ l o 3 2 r1.1 r1.2.1 r1.2.2=r2 at h⊢;have z1:r1.2.1=0:=by rw[<- hr2] at h;exact bC h
   have z0:r0.2.1=0:=by rw[<- hr1] at z1;exact bC z1
   have ze:e=0:=by rw[<- hr0] at z0;exact bC z0
   subst ze;rw[pU (d:=.A) (by decide) (by rw[sN hop];rfl)] at hr0;obtain⟨a,ha,hs⟩:=nL (l:=l) (p:=p) (s:=⟨1,o,0,0,0,u,[],[]⟩) (by rw[hr0];exact z0);rw[hr0] at hs;rw[z0,hs] at hr1;rw[Gm (d:=.B) (by decide) (by decide) (by rw[sN hop];rfl) (by rw[hr1];exact z1)] at hr1;obtain⟨b,hb,hs1⟩:=F8 (l:=l) (p:=r0.1+1) (s:=⟨1,o,a,0,0,u,[],[]⟩) (by rw[hr1];exact z1);rw[hr1] at hs1;rw[z1,hs1] at hr2;obtain⟨K,d,hK,hd,hst⟩:=sU (l:=l) (op:=o) (many:=3) (i:=2) (p:=r1.1) (s:=⟨1,o,a,b,0,u,[],[]⟩) (by decide) rfl (by show 2<(odL 1 o).length;rw[e1];decide) (by rw[hr2];exact h);rw[hst] at hr2;have hu':u=true->8<=o/\o<=10:=fun q=>(hu q).resolve_left h0
   rcases Ca (l:=l) (p:=r1.1+1) (s:=⟨1,o,a,b,0,u,[],[]⟩) rfl with c|⟨c,hn⟩
   ·rw[hK] at c;subst c;rw[KX hop] at hd;obtain rfl:d=.E:=by have hd:some Od.E=some d:=hd;exact(NE hd).symm
    obtain⟨t,ht,hs2⟩:=nM hw (p:=r1.1+1) (e:=0) (s:=⟨2,o,a,b,0,u,[],[]⟩) (by show(rd l (r1.1+1) 0 _ .E).2.1=0;rw[hr2];exact h);have hs2:(rd l (r1.1+1) 0 ⟨2,o,a,b,0,u,[],[]⟩ .E).2.2=_:=hs2;rw[hr2] at hs2;rw[hs2];exact⟨some t,.ins1 (.imm hop ho2 ha hb hu') (.inl rfl) ht⟩
   ·rw[hK] at c;subst c;rw[sN hop] at hd;obtain rfl:d=.C:=by have hd:some Od.C=some d:=hd;exact(NE hd).symm
    obtain⟨c,hc,hs2⟩:=Ak (l:=l) (p:=r1.1+1) (e:=0) (s:=⟨1,o,a,b,0,u,[],[]⟩) (by rw[hr2];exact h);rw[hr2] at hs2;rw[hs2];exact⟨none,.ins0 (.reg hop ho2 ha hb hc hu') (.inl rfl)⟩
 ·rcases hk with rfl|rfl|rfl|rfl|rfl
  ·have e1:(odL 3 0).length=1:=rfl;rw[e1] at h⊢;simp only[dC] at h⊢;have ze:e=0:=bC h;subst ze;obtain⟨K,d,hK,hd,hst⟩:=nS (l:=l) (op:=0) (p:=p) (s:=⟨3,0,0,0,0,false,[],[]⟩) (by show 0<1;decide);rw[jv (show(3:Int)≠1 by decide) (show(3:Int)≠7 by decide)] at hK;have hK:3=K:=hK;subst hK;obtain rfl:d=.A:=by have hd:some Od.A=some d:=hd;exact(NE hd).symm
   rw[hst] at h⊢;obtain⟨a,ha,hs⟩:=nL h;rw[hs];exact⟨none,.ins0 (.hi ha) (.inr (.inl rfl))⟩
  ·have e1:(odL 4 0).length=1:=rfl;rw[e1] at h⊢;simp only[dC] at h⊢;have ze:e=0:=bC h;subst ze;obtain⟨K,d,hK,hd,hst⟩:=nS (l:=l) (op:=0) (p:=p) (s:=⟨4,0,0,0,0,false,[],[]⟩) (by show 0<1;decide);rw[jv (show(4:Int)≠1 by decide) (show(4:Int)≠7 by decide)] at hK;have hK:4=K:=hK;subst hK;obtain rfl:d=.A:=by have hd:some Od.A=some d:=hd;exact(NE hd).symm
   rw[hst] at h⊢;obtain⟨a,ha,hs⟩:=nL h;rw[hs];exact⟨none,.ins0 (.fl ha) (.inr (.inr (.inl rfl)))⟩
  ·have e1:(odL 8 0).length=2:=rfl;rw[e1] at h⊢;simp only[dC] at h⊢;generalize hr0:aJ l 0 2 0 p e ⟨8,0,0,0,0,false,[],[]⟩=r0 at h⊢;generalize hr1:aJ l 0 2 1 r0.1 r0.2.1 r0.2.2=r1 at h⊢;have z0:r0.2.1=0:=by rw[<- hr1] at h;exact bC h
   have ze:e=0:=by rw[<- hr0] at z0;exact bC z0
   subst ze;rw[pU (d:=.A) (by decide) rfl] at hr0;obtain⟨a,ha,hs⟩:=nL (l:=l) (p:=p) (s:=⟨8,0,0,0,0,false,[],[]⟩) (by rw[hr0];exact z0);rw[hr0] at hs;rw[z0,hs] at hr1;obtain⟨K,d,hK,hd,hst⟩:=sU (l:=l) (op:=0) (many:=2) (i:=1) (p:=r0.1) (s:=⟨8,0,a,0,0,false,[],[]⟩) (by decide) rfl (by show 1<2;decide) (by rw[hr1];exact h);rw[hst] at hr1;rw[jv (show(8:Int)≠1 by decide) (show(8:Int)≠7 by decide)] at hK;have hK:8=K:=hK;subst hK;obtain rfl:d=.Q:=by have hd:some Od.Q=some d:=hd;exact(NE hd).symm
   obtain⟨t,ht,hs2⟩:=nM hw (p:=r0.1+1+1) (e:=chk (decide (pk 3 l (r0.1+1) 0=[61])) 0) (s:=⟨8,0,a,0,0,false,[],[]⟩) (by show(rd l (r0.1+1) 0 _ .Q).2.1=0;rw[hr1];exact h);have hs2:(rd l (r0.1+1) 0 ⟨8,0,a,0,0,false,[],[]⟩ .Q).2.2=_:=hs2;rw[hr1] at hs2;rw[hs2];exact⟨some t,.load ha ht⟩
  ·have e1:(odL 9 0).length=1:=rfl;rw[e1] at h⊢;simp only[dC] at h⊢;have ze:e=0:=bC h;subst ze;obtain⟨K,d,hK,hd,hst⟩:=nS (l:=l) (op:=0) (p:=p) (s:=⟨9,0,0,0,0,false,[],[]⟩) (by show 0<1;decide);rw[jv (show(9:Int)≠1 by decide) (show(9:Int)≠7 by decide)] at hK;have hK:9=K:=hK;subst hK;obtain rfl:d=.E:=by have hd:some Od.E=some d:=hd;exact(NE hd).symm
   rw[hst] at h⊢;obtain⟨t,ht,hs⟩:=nM hw (p:=p) (e:=0) (s:=⟨9,0,0,0,0,false,[],[]⟩) h;have hs:(rd l p 0 ⟨9,0,0,0,0,false,[],[]⟩ .E).2.2=_:=hs;rw[hs];exact⟨some t,.word ht⟩
  ·have e1:(odL 10 0).length=1:=rfl;rw[e1] at h⊢;simp only[dC] at h⊢;have ze:e=0:=bC h;subst ze;obtain⟨K,d,hK,hd,hst⟩:=nS (l:=l) (op:=0) (p:=p) (s:=⟨10,0,0,0,0,false,[],[]⟩) (by show 0<1;decide);rw[jv (show(10:Int)≠1 by decide) (show(10:Int)≠7 by decide)] at hK;have hK:10=K:=hK;subst hK;obtain rfl:d=.N:=by have hd:some Od.N=some d:=hd;exact(NE hd).symm
   rw[hst] at h⊢;obtain⟨a,ha,hs⟩:=MC h;rw[hs];exact⟨none,.exp ha⟩
 ·have e1:(odL 5 o).length=3:=rfl;rw[e1] at h⊢;simp only[dC] at h⊢;generalize hr0:aJ l o 3 0 p e ⟨5,o,0,0,0,false,[],[]⟩=r0 at h⊢;generalize hr1:aJ l o 3 1 r0.1 r0.2.1 r0.2.2=r1 at h⊢;generalize hr2:aJ l o 3 2 r1.1 r1.2.1 r1.2.2=r2 at h⊢;have z1:r1.2.1=0:=by rw[<- hr2] at h;exact bC h
  have z0:r0.2.1=0:=by rw[<- hr1] at z1;exact bC z1
  have ze:e=0:=by rw[<- hr0] at z0;exact bC z0
  subst ze;rw[pU (d:=.A) (by decide) rfl] at hr0;obtain⟨a,ha,hs⟩:=nL (l:=l) (p:=p) (s:=⟨5,o,0,0,0,false,[],[]⟩) (by rw[hr0];exact z0);rw[hr0] at hs;rw[z0,hs] at hr1;rw[Gm (d:=.B) (by decide) (by decide) rfl (by rw[hr1];exact z1)] at hr1;obtain⟨b,hb,hs1⟩:=F8 (l:=l) (p:=r0.1+1) (s:=⟨5,o,a,0,0,false,[],[]⟩) (by rw[hr1];exact z1);rw[hr1] at hs1;rw[z1,hs1] at hr2;obtain⟨K,d,hK,hd,hst⟩:=sU (l:=l) (op:=o) (many:=3) (i:=2) (p:=r1.1) (s:=⟨5,o,a,b,0,false,[],[]⟩) (by decide) rfl (by show 2<(odL 5 o).length;rw[e1];decide) (by rw[hr2];exact h);rw[hst] at hr2;rw[jv (show(5:Int)≠1 by decide) (show(5:Int)≠7 by decide)] at hK;have hK:5=K:=hK;subst hK;obtain rfl:d=.E:=by have hd:some Od.E=some d:=hd;exact(NE hd).symm
  obtain⟨t,ht,hs2⟩:=nM hw (p:=r1.1+1) (e:=0) (s:=⟨5,o,a,b,0,false,[],[]⟩) (by show(rd l (r1.1+1) 0 _ .E).2.1=0;rw[hr2];exact h);have hs2:(rd l (r1.1+1) 0 ⟨5,o,a,b,0,false,[],[]⟩ .E).2.2=_:=hs2;rw[hr2] at hs2;rw[hs2];exact⟨some t,.ins1 (.mem ho ho2 ha hb) (.inr (.inl rfl)) ht⟩
 ·have e1:(odL 7 o).length=1:=rfl;rw[e1] at h⊢;simp only[dC] at h⊢;have ze:e=0:=bC h;subst ze;obtain⟨K,d,hK,hd,hst⟩:=nS (l:=l) (op:=o) (p:=p) (s:=⟨7,o,0,0,0,u,[],[]⟩) (by show 0<1;decide);rw[hst] at h⊢;rcases E5 (l:=l) (p:=p) (s:=⟨7,o,0,0,0,u,[],[]⟩) rfl with c|c
  ·rw[hK] at c;subst c;obtain rfl:d=.C:=by have hd:some Od.C=some d:=hd;exact(NE hd).symm
   obtain⟨c,hc,hs⟩:=Ak h;rw[hs];exact⟨none,.ins0 (.br ⟨ho,ho2⟩ hc) (.inr (.inr (.inr rfl)))⟩
  ·rw[hK] at c;subst c;obtain rfl:d=.E:=by have hd:some Od.E=some d:=hd;exact(NE hd).symm
   obtain⟨t,ht,hs⟩:=nM hw (p:=p) (e:=0) (s:=⟨7,o,0,0,0,u,[],[]⟩) h;have hs:(rd l p 0 ⟨7,o,0,0,0,u,[],[]⟩ .E).2.2=_:=hs;rw[hs];exact⟨some t,.ins1 (.jmp ⟨ho,ho2⟩) (.inr (.inr rfl)) ht⟩
end
end Rv
namespace Rv
open Go
abbrev wfT(l:List aD):Prop:=∀t∈l,0<=t.2.2.2.1/\t.2.2.2.1<=4294967295
theorem xG{l:List aD}{lb:Str}{r:Nat×Int×Sm}(he:gY r.2.1):(∃e,(e=22\/e=23\/e=24)/\oI l lb r=noP e)\/(r.2.1=0/\oI l lb r=smP lb r.2.2):=by
 unfold oI uJ;have h:=gp (b:=decide (l.length<=r.1)) he;generalize hx:chk (decide (l.length<=r.1)) r.2.1=e' at h;by_cases h0:e'=0;·subst h0;rw[if_neg (by decide)];exact .inr ⟨(eB hx).1,rfl⟩
 ·rw[if_pos h0];exact .inl ⟨e',h.resolve_left h0,rfl⟩
theorem oM{l:List aD}(hw:wfT l){lb:Str}{p:Nat}{e:Int}(he:e=0\/e=22):(∃x,(x=22\/x=23\/x=24)/\oL l lb p e=noP x)\/(e=0/\∃s t,GoodS s t/\oL l lb p e=smP lb s):=by
 unfold oL;by_cases h:e=0/\p<l.length
 ·rw[if_pos h];obtain⟨rfl,hp⟩:=h;dsimp only;generalize l.getD p aX=t;by_cases hf:(L.ofR t.2.2.1).2.2.2.1=true
  ·obtain⟨k,o,u,e1,hk⟩:=IY hf;rw[e1];dsimp only;generalize hq:chk (true&&(decide (t.1=4) == decide (k=9\/k=10))&&(decide (t.1=4)||decide (t.1=1))) 0=q;have hqe:gY q:=by rw[<- hq];exact gp (.inl rfl)
   rcases xG (l:=l) (lb:=lb) (wY (l:=l) (op:=o) (many:=(odL k o).length) (odL k o).length 0 (p+1,q,⟨k,o,0,0,0,u,[],[]⟩) hqe) with h|⟨h1,h2⟩;·exact .inl h
   ·obtain⟨t',ht⟩:=EH hw hk (p+1) h1;exact .inr ⟨rfl,_,t',ht,h2⟩
  ·have hf:(L.ofR t.2.2.1).2.2.2.1=false:=by simpa using hf
   rw[hf];have hq:chk (false&&(decide (t.1=4) == decide ((L.ofR t.2.2.1).1=9\/(L.ofR t.2.2.1).1=10))&&(decide (t.1=4)||decide (t.1=1))) 0=22:=rfl;rw[hq];rcases xG (l:=l) (lb:=lb) (wY (l:=l) (op:=(L.ofR t.2.2.1).2.1) (many:=(odL (L.ofR t.2.2.1).1 (L.ofR t.2.2.1).2.1).length) (odL (L.ofR t.2.2.1).1 (L.ofR t.2.2.1).2.1).length 0 (p+1,22,⟨(L.ofR t.2.2.1).1,(L.ofR t.2.2.1).2.1,0,0,0,(L.ofR t.2.2.1).2.2.1,[],[]⟩) (.inr (.inl rfl))) with h|⟨h1,_⟩;·exact .inl h
   ·exfalso;have sticky:∀(m i:Nat) (r:Nat×Int×Sm) (op:Int) (many:Nat),(dC l op many m i r).2.1=0->r.2.1=0:=by
     intro m
     induction m with
     |zero=>intro i r op many h;exact h
     |succ m ih=>intro i r op many h;exact bC (ih (i+1) _ op many h)
    have h9:(22:Int)=0:=sticky _ _ _ _ _ h1;exact absurd h9 (by decide)
 ·rw[if_neg h];unfold uJ;rcases he with rfl|rfl
  ·rw[if_neg (by decide)];exact .inr ⟨rfl,_,_,.none,rfl⟩
  ·rw[if_pos (by decide)];exact .inl ⟨22,.inl rfl,rfl⟩
theorem BK{l:List aD}(hw:wfT l):(∃e,(e=22\/e=23\/e=24)/\lL l=noP e)\/(∃lb s t,(lb=[]\/bA lb=true)/\GoodS s t/\lL l=smP lb s):=by
 unfold lL;split
 ·cases hL:bA (l.getD 0 aX).2.2.1 with
  |true=>
   rcases oM hw (lb:=(l.getD 0 aX).2.2.1) (p:=2) (e:=chk true 0) (.inl rfl) with h|⟨_,s,t,h1,h2⟩;·exact .inl h
   ·exact .inr ⟨_,s,t,.inr hL,h1,h2⟩
  |false=>
   rcases oM hw (lb:=(l.getD 0 aX).2.2.1) (p:=2) (e:=chk false 0) (.inr rfl) with h|⟨h,_⟩;·exact .inl h
   ·exact absurd h (by decide)
 ·rcases oM hw (lb:=[]) (p:=0) (e:=0) (.inl rfl) with h|⟨_,s,t,h1,h2⟩
  ·exact .inl h
  ·exact .inr ⟨_,s,t,.inl rfl,h1,h2⟩
end Rv
namespace Rv
open Go
def eU:Str->List Str
 |[]=>[]
 |b::s=>if b=10 then[]::eU s else match eU s with
  |[]=>[[b]]
  |l::r=>(b::l)::r
theorem AR(c:UInt8):∀s,L.splitR c s≠[]
 |[]=>by simp[L.splitR]
 |b::s=>by
  rw[L.splitR];split;·simp
  ·split<;>simp
def kR(l:List Str):List Str:=if l.getD (l.length-1) []=[] then l.take (l.length-1) else l
theorem su(x:Str){l:List Str}(h:l≠[]):kR (x::l)=x::kR l:=by
 obtain⟨y,r,rfl⟩:=List.exists_cons_of_ne_nil h;unfold kR;have e:(x::y::r).getD ((x::y::r).length-1) []=(y::r).getD ((y::r).length-1) []:=rfl;rw[e];split;·rfl
 ·rfl
theorem tN:∀s:Str,kR (L.splitR 10 s)=eU s
 |[]=>rfl
 |b::s=>by
  have ih:=tN s;have hne:=AR 10 s;rw[L.splitR,eU];by_cases h:b=10;·rw[if_pos h,if_pos h,su _ hne,ih]
  ·rw[if_neg h,if_neg h,<- ih];obtain⟨y,r,hs⟩:=List.exists_cons_of_ne_nil hne;rw[hs];dsimp only;cases r with
   |nil=>
    have h1:kR [b::y]=[b::y]:=by unfold kR;rw[if_neg (by simp)]
    rw[h1];unfold kR;cases y with
    |nil=>rfl
    |cons c t=>rw[if_neg (by simp)]
   |cons z r=>
    rw[su (b::y) (l:=z::r) (by simp),su y (l:=z::r) (by simp)]
theorem lF:∀s:Str,(eU s).length<=s.length/\∀l∈eU s,l.length<=s.length
 |[]=>⟨NM _,fun l h=>by cases h⟩
 |b::s=>by
  obtain⟨h1,h2⟩:=lF s;rw[eU];split
  ·refine⟨by simp;omega,fun l hl=>?_⟩;rcases NS.1 hl with rfl|hl
   ·simp
   ·have:=h2 l hl;simp;omega
  ·split
   ·refine⟨by simp,fun l hl=>?_⟩;rw[NZ] at hl;subst hl;simp
   ·rename_i x r hx;rw[hx] at h1 h2;refine⟨by simp at h1⊢;omega,fun l hl=>?_⟩;rcases NS.1 hl with rfl|hl
    ·have:=h2 x (Ot ..);simp;omega
    ·have:=h2 l (NR _ hl);simp;omega
theorem oU:∀(n:Nat) (k:Int) (s:Str) (l:List Tok),s.length<=n->bF k s=.ok l->∀t∈l,t.2.2.1.length<=s.length
 |_,k,[],l,_,h=>by rw[l9] at h;cases h;intro t ht;cases ht
 |0,k,c::r,l,hn,_=>by simp at hn
 |n+1,k,c::r,l,hn,h=>by
  simp only[N9] at hn⊢;rw[kI] at h;split at h;·cases h;intro t ht;cases ht
  ·split at h
   ·intro t ht;have:=oU n (k+1) r l (by omega) h t ht;omega
   ·split at h
    ·cases h
    ·rename_i d q tx v hT;obtain⟨h1,h2,_⟩:=Jz hT;split at h
     ·cases h
     ·rename_i l' hl;cases h;intro t ht;rcases NS.1 ht with rfl|ht
      ·simp only;omega
      ·have:=oU n _ _ l' (by simp;omega) hl t ht;simp at this;omega
def mO(s:Str):PR:=let y:=bf [] (bF 0 s);if y.2.1≠0 then noP y.2.1 else lL y.1
abbrev zy(p:PR):Int:=p.2.2.2.2.2.2.2.2.2.1
abbrev lnP(p:PR):Ln:=(p.1,(p.2.1,p.2.2.1,p.2.2.2.1,p.2.2.2.2.1,p.2.2.2.2.2.1,p.2.2.2.2.2.2.1,p.2.2.2.2.2.2.2.1,p.2.2.2.2.2.2.2.2.1,()),())
theorem EI{k:Int}{s:Str}(hs:s.length<=1000000):(bf [] (bF k s)).1.length<=1000000:=Oo Bp hs
theorem FP(s:Str)(hs:s.length<=1000000):Zab.g (bf [] (bF 0 s)).1=some (lL (bf [] (bF 0 s)).1):=by
 refine FX (EI hs) fun t ht=>?_
 have h:∀t∈(bf [] (bF 0 s)).1,t.2.2.1.length<=s.length:=by
  cases h:bF 0 s with
  |error e=>intro t ht;cases ht
  |ok l=>
   intro t ht;have ht:t∈l:=by simpa[bf] using ht
   exact oU s.length 0 s l (NM _) h t ht
 exact Oo (h t ht) hs
theorem Ms(s:Str)(hs:s.length<=1000000):Zdi.g s=some (mO s):=by
 unfold Zdi.g Zdi.f mO;rw[KO s hs,ND];generalize hy:bf [] (bF 0 s)=y;have hp:=FP s hs;rw[hy] at hp;by_cases h:y.2.1≠0;·rw[if_pos (by simpa using h)];show _=some (if _ then _ else _);rw[if_pos h];rfl
 ·rw[if_neg (by simpa using h),hp,ND];show _=some (if _ then _ else _);rw[if_neg h]
def cz:Nat->List Str->Except (Nat×Int) (List Ln)
 |_,[]=>.ok []
 |i,s::r=>if zy (mO s)≠0 then .error (i+1,zy (mO s)) else match cz (i+1) r with
  | .error x=>.error x
  | .ok l=>.ok (lnP (mO s)::l)
def uI(out:List Ln):Except (Nat×Int) (List Ln)->List Ln×Int×Int×Unit
 | .ok l=>(out++l,0,0,())
 | .error x=>([],(x.1:Int),x.2,())
theorem Fg(l:List Str)(hl:l.length<=1000000)(hs:∀s∈l,s.length<=1000000)(n:Nat):∀(m i:Nat) (out:List Ln),i<=l.length->l.length-i<m->out.length=i ->
  Zby.l5 n m out l (l.length:Int) (i:Int)=some (uI out (cz i (l.drop i))):=by
 intro m
 induction m with
 |zero=>intro i out _ h;omega
 |succ m ih=>
  intro i out hi hm ho;rw[Zby.l5];simp only[dt,NU];by_cases h:i<l.length
  ·have hd:l.drop i=l.getD i []::l.drop (i+1):=by
    rw[Og h,NH,NL h];rfl
   have hg:l.getD i []∈l:=by rw[NH,NL h];exact Ou h
   have W1:IntKind.i64.wrap ((i:Int)+1)=((i+1:Nat):Int):=by rw[w64 (by omega)];omega
   rw[if_pos (by omega),if_pos (by omega),Ms _ (hs _ hg),ND,hd,cz,W1];by_cases he:zy (mO (l.getD i []))≠0;·rw[if_pos he,if_pos he];rfl
   ·rw[if_neg he,if_neg he,if_pos (by simp;omega),ih (i+1) _ (by omega) (by omega) (by simp[ho])];cases cz (i+1) (l.drop (i+1)) with
    |error x=>rfl
    |ok r=>show some (_++r,_)=some (_++_,_);rw[NV];rfl
  ·obtain rfl:i=l.length:=by omega
   rw[if_neg (by omega),Ol,cz];simp[uI]
def bL(s:Str):List Ln×Int×Int×Unit:=
 if 262144<s.length then([],0,2,()) else if 4096<(eU s).length then([],0,2,()) else uI [] (cz 0 (eU s))
theorem Ia(l:List Str)(hl:l.length<=1000000)(hs:∀s∈l,s.length<=1000000):Zby.g l=some (if 4096<l.length then([],0,2,()) else uI [] (cz 0 l)):=by
 unfold Zby.g Zby.f;by_cases h:4096<l.length;·rw[if_pos (by simp;omega),if_pos h]
 ·rw[if_neg (by simp;omega),if_neg h];have:=Fg l hl hs (1000+l.length) (1000+l.length) 0 [] (by omega) (by omega) rfl;rw[Oi] at this;exact this
theorem yo:∀s:Str,(L.splitR 10 s).length<=s.length+1
 |[]=>NM _
 |b::s=>by
  have:=yo s;rw[L.splitR];split;·simp;omega
  ·split
   ·simp
   ·rename_i x r hx;rw[hx] at this;simp at this⊢;omega
theorem FV(s:Str)(hs:s.length<=1000000):Zbz.g s=some (bL s):=by
 unfold Zbz.g Zbz.f bL;by_cases h:262144<s.length;·rw[if_pos (by simp;omega),if_pos h]
 ·rw[if_neg (by simp;omega),if_neg h];have hO:L.splitO s [10]=some (L.splitR 10 s,()):=by unfold L.splitO;dsimp only;rw[if_pos (by omega)]
  have h1:=yo s;have h2:=List.length_pos_iff.2 (AR 10 s);have ht:=tN s;obtain⟨g1,g2⟩:=lF s;rw[hO,ND];dsimp only;generalize L.splitR 10 s=S at h1 h2 ht;have W:IntKind.i64.wrap ((S.length:Int)-1)=((S.length-1:Nat):Int):=by rw[w64 (by omega)];omega
  have fin:Zbz.j7 (1000+s.length) (kR S)=some (if 4096<(eU s).length then([],0,2,()) else uI [] (cz 0 (eU s))):=by
   rw[ht];unfold Zbz.j7;rw[Ia _ (by omega) (fun l hl=>by have:=g2 l hl;omega),ND]
  simp only[dt];rw[W,NU,if_pos (by omega)];unfold kR at fin;by_cases he:S.getD (S.length-1) []=[]
  ·rw[if_pos he] at fin;rw[if_pos he,if_pos (by omega),Oi];exact fin
  ·rw[if_neg he] at fin;rw[if_neg he];exact fin
theorem zu:∀(l:List Str) (i:Nat) (r:List Ln),cz i l=.ok r->r.length=l.length
 |[],i,r,h=>by rw[cz] at h;cases h;rfl
 |s::l,i,r,h=>by
  rw[cz] at h;split at h;·cases h
  ·cases hr:cz (i+1) l with
   |error x=>rw[hr] at h;cases h
   |ok q=>rw[hr] at h;cases h;simp[zu l (i+1) q hr]
theorem zt:∀(l:List Str) (i:Nat) (x:Nat×Int),cz i l=.error x->x.2≠0/\i<x.1/\x.1<=i+l.length
 |[],i,x,h=>by rw[cz] at h;cases h
 |s::l,i,x,h=>by
  rw[cz] at h;split at h;·rename_i hne;cases h;exact⟨hne,by simp,by simp⟩
  ·cases hr:cz (i+1) l with
   |error y=>rw[hr] at h;cases h;have:=zt l (i+1) _ hr;exact⟨this.1,by omega,by simp;omega⟩
   |ok q=>rw[hr] at h;cases h
theorem rE{s:Str}(hs:s.length<=4096):bL s=uI [] (cz 0 (eU s)):=by
 unfold bL;have:=(lF s).1;rw[if_neg (by omega),if_neg (by omega)]
end Rv
namespace Rv
open Go
theorem Gx{c:UInt8}{r:Str}{d:Nat}{q:Int}{t:Str}{v:Int}(h:p8 c r=.ok (d,q,t,v)):0<=v/\v<=4294967295:=by
 unfold p8 at h;split at h;·cases h;exact⟨by decide,by decide⟩
 ·split at h
  ·split at h
   ·rename_i v' hv;cases h;have:=Mq hv;exact⟨by omega,by omega⟩
   ·cases h
  ·split at h
   ·cases h;exact⟨by decide,by decide⟩
   ·split at h
    ·cases h;exact⟨by decide,by decide⟩
    ·cases h
theorem qZ:∀(n:Nat) (k:Int) (s:Str) (l:List Tok),s.length<=n->bF k s=.ok l->wfT l
 |_,k,[],l,_,h=>by rw[l9] at h;cases h;intro t ht;cases ht
 |0,k,c::r,l,hn,_=>by simp at hn
 |n+1,k,c::r,l,hn,h=>by
  simp only[N9] at hn;rw[kI] at h;split at h;·cases h;intro t ht;cases ht
  ·split at h
   ·exact qZ n (k+1) r l (by omega) h
   ·split at h
    ·cases h
    ·rename_i d q tx v hT;have hv:=Gx hT;split at h
     ·cases h
     ·rename_i l' hl;cases h;intro t ht;rcases NS.1 ht with rfl|ht
      ·exact hv
      ·exact qZ n _ _ l' (by simp;omega) hl t ht
theorem Bq(s:Str):wfT (bf [] (bF 0 s)).1:=by
 cases h:bF 0 s with
 |error e=>intro t ht;cases ht
 |ok l=>intro t ht;exact qZ s.length 0 s l (NM _) h t (by simpa[bf] using ht)
theorem FR(s:Str)(h:zy (mO s)=0):∃lb m t,(lb=[]\/bA lb=true)/\GoodS m t/\mO s=smP lb m:=by
 unfold mO at h⊢;dsimp only at h⊢;by_cases hy:(bf [] (bF 0 s)).2.1≠0;·rw[if_pos hy] at h;exact absurd h hy
 ·rw[if_neg hy] at h⊢;rcases BK (Bq s) with⟨e,he,hp⟩|hp
  ·rw[hp] at h;have h:e=0:=h;omega
  ·exact hp
def vN(x:Ln):Prop:=(x.1=[]\/bA x.1=true)/\∃t,GoodS ⟨x.2.1.1,x.2.1.2.1,x.2.1.2.2.1,x.2.1.2.2.2.1,x.2.1.2.2.2.2.1,x.2.1.2.2.2.2.2.1,x.2.1.2.2.2.2.2.2.1,x.2.1.2.2.2.2.2.2.2.1⟩ t
theorem vC:∀(l:List Str) (i:Nat) (r:List Ln),cz i l=.ok r->∀x∈r,vN x
 |[],i,r,h=>by rw[cz] at h;cases h;intro x hx;cases hx
 |s::l,i,r,h=>by
  rw[cz] at h;split at h;·cases h
  ·rename_i he;have he:zy (mO s)=0:=by simpa using he
   cases hr:cz (i+1) l with
   |error x=>rw[hr] at h;cases h
   |ok q=>
    rw[hr] at h;cases h;intro x hx;rcases NS.1 hx with rfl|hx;·obtain⟨lb,m,t,h1,h2,h3⟩:=FR s he;rw[h3];exact⟨h1,t,h2⟩
    ·exact vC l (i+1) q hr x hx
end Rv
namespace Rv
open Go
theorem Lj:Zdo.g=some (true,()):=by decide +kernel
end Rv
namespace Rv
open Go
theorem MZ(s:Str)(hs:s.length<=9223372036854775807):Zcw.g s=some (s.take 500,()):=by
 unfold Zcw.g Zcw.f;have hmn:mn (s.length:Int) 500=((min s.length 500:Nat):Int):=by unfold mn;split<;>omega
 rw[hmn,if_pos (by omega),NU,Oi];rcases Nat.le_total s.length 500 with h|h;·rw[Nat.min_eq_left h,List.take_length,List.take_of_length_le h]
 ·rw[Nat.min_eq_right h]
theorem parsed(s:Str)(hs:s.length<=4096):(bL s).1.length<=s.length/\∀x∈(bL s).1,vN x:=by
 rw[rE hs];have hl:=(lF s).1;cases h:cz 0 (eU s) with
 |error e=>exact⟨Nat.zero_le _,fun x hx=>by cases hx⟩
 |ok l=>
  have:=zu _ _ _ h;refine⟨by show([]++l).length<=_;rw[OA];omega,fun x hx=>vC _ _ _ h x (by simpa[uI] using hx)⟩
def iB(s:Str):za:=if(bL s).2.2.1≠0 then jS (bL s).2.1 (bL s).2.2.1 else dS (bL s).1
theorem Lr(s:Str)(hs:s.length<=1000000)(h1:(bL s).1.length<=1000)(h2:∀x∈(bL s).1,(eL x).length<=4611686018427387904):Zca.g s=some (iB s):=by
 unfold Zca.g Zca.f iB;rw[FV s hs,ND];simp only[dt];by_cases h:(bL s).2.2.1=0;·rw[if_neg (by simpa using h),if_neg (by simpa using h),LZ _ h1 h2,ND]
 ·rw[if_pos (by simpa using h),if_pos (by simpa using h)];rfl
theorem Md{x:Ln}(h:vN x):(eL x).length<=4611686018427387904:=by
 obtain⟨_,t,ht⟩:=h;have:(eL x).length<=64:=(xM ht).1;omega
theorem MM(s:Str)(hs:s.length<=600):Zca.g s=some (iB s):=by
 obtain⟨h1,h2⟩:=parsed s (by omega);exact Lr s (by omega) (by omega) fun x hx=>Md (h2 x hx)
end Rv
namespace Rv
open Go
theorem MX(a:List Int)(ha:a.length<=1000000):Zbs.g a a=some (true,()):=by
 have loop:∀(n m i:Nat),i<=a.length->a.length-i<m->Zbs.l4 n m a a (a.length:Int) (i:Int)=some (true,()):=by
  intro n m
  induction m with
  |zero=>intro i _ h;omega
  |succ m ih=>
   intro i hi hm;rw[Zbs.l4];simp only[dt];by_cases h:i<a.length;·rw[if_pos (by omega),if_pos (by omega),if_pos (by omega),if_neg (by simp),w64 (by omega)];exact ih (i+1) (by omega) (by omega)
   ·rw[if_neg (by omega)]
 unfold Zbs.g Zbs.f;rw[if_neg (by simp)];exact loop _ _ 0 (by omega) (by omega)
theorem MV(a:List Int)(ha:a.length<=1000000):Zbt.g a a=some (true,()):=by
 have loop:∀(n m i:Nat),i<=a.length->a.length-i<m->Zbt.l4 n m a a (a.length:Int) (i:Int)=some (true,()):=by
  intro n m
  induction m with
  |zero=>intro i _ h;omega
  |succ m ih=>
   intro i hi hm;rw[Zbt.l4];simp only[dt];by_cases h:i<a.length;·rw[if_pos (by omega),if_pos (by omega),if_pos (by omega),if_neg (by simp),w64 (by omega)];exact ih (i+1) (by omega) (by omega)
   ·rw[if_neg (by omega)]
 unfold Zbt.g Zbt.f;rw[if_neg (by simp)];exact loop _ _ 0 (by omega) (by omega)
theorem MW(a:List Sym)(ha:a.length<=1000000):Zbu.g a a=some (true,()):=by
 have loop:∀(n m i:Nat),i<=a.length->a.length-i<m->Zbu.l4 n m a a (a.length:Int) (i:Int)=some (true,()):=by
  intro n m
  induction m with
  |zero=>intro i _ h;omega
  |succ m ih=>
   intro i hi hm;rw[Zbu.l4];simp only[dt];by_cases h:i<a.length;·rw[if_pos (by omega),if_pos (by omega),if_pos (by omega),if_neg (by simp),w64 (by omega)];exact ih (i+1) (by omega) (by omega)
   ·rw[if_neg (by omega)]
 unfold Zbu.g Zbu.f;rw[if_neg (by simp)];exact loop _ _ 0 (by omega) (by omega)
theorem JR(a b:List Int)(y:List Sym)(ha:a.length<=1000000)(hb:b.length<=1000000)(hy:y.length<=1000000):Zcl.g a b y a b y=some (true,()):=by
 unfold Zcl.g Zcl.f;rw[MX a ha,ND,if_pos rfl,MV b hb,ND,if_pos rfl,MW y hy];rfl
end Rv
namespace Rv
open Go
theorem Fx{x:Ln}(h:vN x):∀y∈eL x,0<=y.2.1/\y.2.1<=4294967295:=by
 obtain⟨_,t,ht⟩:=h;obtain⟨_,he,hok⟩:=xM ht;have he:eL x=postO t:=he;intro y hy;cases t with
 |none=>rw[he] at hy;cases hy
 |some t=>
  rw[he] at hy;have:=kg t (hok t rfl).1 y hy;exact⟨this.1,this.2.1⟩
theorem Jp(s:Str)(hs:s.length<=500)(h:(iB s).2.2.2.2.1≠0):(iB s).1=[]/\(iB s).2.1=[]/\(iB s).2.2.1=[]/\0<=(iB s).2.2.2.1/\(iB s).2.2.2.1<=501/\(¬0<(iB s).2.2.2.1->(iB s).2.2.2.2.1=2):=by
 obtain⟨p1,_⟩:=parsed s (by omega);unfold iB at h⊢;by_cases he:(bL s).2.2.1=0
 ·rw[if_neg (by simpa using he)] at h⊢;obtain⟨a,b,c⟩:=G8 _ h;rcases zk (bL s).1 with⟨_,h2,h3,h4⟩|⟨h1,_⟩
  ·exact⟨h2,h3,h4,a,by omega,c⟩
  ·exact absurd h1 h
 ·rw[if_pos (by simpa using he)];refine⟨rfl,rfl,rfl,?_⟩;show 0<=(bL s).2.1/\(bL s).2.1<=501/\(¬0<(bL s).2.1->_)
  rw[rE (by omega)] at he⊢;cases hE:cz 0 (eU s) with
  |ok l=>rw[hE] at he;exact absurd rfl he
  |error x=>
   have h1:=zt _ _ _ hE;have h2:=(lF s).1;show 0<=((x.1:Nat):Int)/\((x.1:Nat):Int)<=501/\(¬0<((x.1:Nat):Int)->_)
   exact⟨by omega,by omega,fun h=>by omega⟩
theorem amay_wf{a:Str}(h:a.length<=maxLen/\True):rivetlaw21_AsmMay.g a=some (true,()):=by
 have hl:(a.take 500).length<=500:=by rw[Oa];omega
 unfold rivetlaw21_AsmMay.g;generalize hN:1000+a.length=n;unfold rivetlaw21_AsmMay.f;rw[Lj,ND,MZ a (Nf h.1),ND];generalize a.take 500=s at hl;dsimp only;rw[MM s (by omega),ND];simp only[dt];by_cases he:(iB s).2.2.2.2.1=0
 ·have hp:(bL s).2.2.1=0:=by
   by_cases hp:(bL s).2.2.1=0;·exact hp
   ·unfold iB at he;rw[if_pos (by simpa using hp)] at he;exact absurd he hp
  have hsrc:iB s=dS (bL s).1:=by unfold iB;rw[if_neg (by simpa using hp)]
  obtain⟨p1,p2⟩:=parsed s (by omega);rw[hsrc] at he;obtain⟨O,hline⟩:=J2 (bL s).1 (by omega) (fun x hx=>Fx (p2 x hx)) he;have hlw:=O.lw;have hly:=O.ly;have hls:=O.toOkS.len;rw[hsrc,if_neg (by simpa using he),Kr O,ND];dsimp only;rw[Ij O,ND,if_pos trivial,if_pos hline,xc O,ND];dsimp only;rw[if_pos rfl,if_pos rfl,if_pos rfl,JR _ _ _ (by omega) (by omega) (by omega),ND]
 ·obtain⟨h1,h2,h3,h4,h5,h6⟩:=Jp s hl he;rw[if_pos (by simpa using he),if_pos trivial,h1,h2,h3,JR [] [] [] (by simp) (by simp) (by simp),ND,if_pos rfl,if_pos h4,if_pos h5];by_cases h0:0<(iB s).2.2.2.1
  ·rw[if_neg (by simpa[df] using h0)]
  ·rw[if_pos (by simpa[df] using h0),decide_eq_true (h6 h0)]
end Rv
