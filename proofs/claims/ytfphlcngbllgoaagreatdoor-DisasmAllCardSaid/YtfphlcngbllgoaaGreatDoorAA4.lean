/- Texts put together. -/
import Derived.Test.YtfphlcngbllgoaaGreatDoorAA3
set_option linter.all false
open _root_ renaming if_pos→I,if_neg→S,Int→X,List→Y,Nat→D,Option→H,Bool→zac
open Option renaming some→Z
open Decidable renaming decide→F
open Bool renaming true→G,false→zab
open Go.IntKind renaming i64→zaa
namespace Rv
open Go
def cnd(ws ss:Y X)(k:D)(b:X):zac:=
 ((bY ws ss k).2.1&&F ((bY ws ss k).1=b))||(F ((k:X)∈ss)&&(F (ws.getD k 0=b)||(F (ws.getD k 0 % 4≠0)&&F (b=0))))
section
variable{ws ss:Y X}{ys:Y Sym}(O:OkO ws ss ys)
include O
theorem KE{t:D}:4*(t:X)∈plR ws ss↔∃k,k<ws.length/\cnd ws ss k (4*(t:X))=G:=by
 rw[CZ];unfold cnd sG;constructor
 ·rintro(⟨s,hs,h⟩|⟨k,hk,h1,h2⟩)
  ·obtain⟨h0,_⟩:=O.site hs;have e:((s.toNat:D):X)=s:=by omega
   refine⟨s.toNat,by omega,?_⟩;rw[e,decide_eq_true hs];split at h;·rw[decide_eq_true h.symm];simp
   ·rename_i h4;rw[decide_eq_true (show ws.getD s.toNat 0 % 4≠0 from h4),decide_eq_true h];simp
  ·refine⟨k,hk,?_⟩;rw[h1,decide_eq_true h2.symm];rfl
 ·rintro⟨k,hk,h⟩;simp only[Bool.or_eq_true,NJ,NH] at h;rcases h with⟨h1,h2⟩|⟨h1,h2⟩
  ·exact .inr ⟨k,hk,h1,h2.symm⟩
  ·refine .inl ⟨(k:X),h1,?_⟩;rw[NM];rcases h2 with h2|⟨h2,h3⟩
   ·rw[I (by omega)];exact h2.symm
   ·rw[S h2];exact h3
theorem Gq(n:D)(rl6:Y X->X->Y X->Y X->Y Sym->H (Y X×X×Unit))(a:Y X)(b:X)(hb:0<=b/\b<=4294967295):∀(m d:D) (c:zac),d<=ws.length->ws.length-d<m ->
  ∃c':zac,Zaa.l10 n rl6 m a b c (d:X) ws ss ys=(if c'=G then(if(a.length+([b]:Y X).length)*8<=140737488355328/\0<8/\0<1 then Zaa.j7 n rl6 (a++[b]) b ws ss ys else none) else Zaa.j7 n rl6 a b ws ss ys) /\
   (c'=G↔c=G\/∃k,d<=k/\k<ws.length/\cnd ws ss k b=G)
 |0,d,c,_,h=>by omega
 |m+1,d,c,hd,h=>by
  have hlw:=O.lw;have hls:=O.toOkS.len;rw[Zaa.l10];by_cases hlt:d<ws.length
  ·have hat:=O.ok.at hlt;rw[I (by simpa using hlt),AL O.ok ys d (by omega),NE,I ⟨by omega,by omega⟩,uF ws ys _ (by omega),NE,NM];dsimp only;rw[w64 (x:=ws.getD d 0) (by omega),Oj hat.1];obtain⟨c',h1,h2⟩:=Gq n rl6 a b hb m (d+1) (c||cnd ws ss d b) (by omega) (by omega);have J:∀q:zac,Zaa.j11 n rl6 (Zaa.l10 n rl6 m) a b q (d:X) ws ss ys=Zaa.l10 n rl6 m a b q ((d+1:D):X) ws ss ys:=λq=>by
    unfold Zaa.j11;rw[w64 (by omega)];rfl
   refine⟨c',?_,?_⟩
   ·rw[<- h1];unfold cnd;simp only[J];generalize ws.getD d 0=w at hat⊢;generalize bY ws ss d=q;obtain⟨tq,iz,z⟩:=q;dsimp only;cases c with
    |true=>simp
    |false=>
     cases iz<;>by_cases e1:tq=b<;>by_cases e2:(d:X)∈ss<;>by_cases e3:w=b<;>by_cases e4:w % 4=0<;>simp[e1,e2,e3,e4]
   ·rw[h2,Bool.or_eq_true];constructor
    ·rintro((h|h)|⟨k,k1,k2,k3⟩)
     ·exact .inl h
     ·exact .inr ⟨d,NL _,hlt,h⟩
     ·exact .inr ⟨k,by omega,k2,k3⟩
    ·rintro(h|⟨k,k1,k2,k3⟩)
     ·exact .inl (.inl h)
     ·rcases Nat.eq_or_lt_of_le k1 with rfl|k1
      ·exact .inl (.inr k3)
      ·exact .inr ⟨k,k1,k2,k3⟩
  ·rw[S (by simpa using hlt)];refine⟨c,rfl,.inl,λh=>h.elim id λ⟨k,k1,k2,_⟩=>by omega⟩
theorem Ey(n:D)(hn:ws.length<n):∀(m t:D) (a:Y X),t<=ws.length+1->ws.length+1-t<m->a.length<=t->a.Pairwise (· < ·)->(∀x,x∈a↔x∈plR ws ss/\x<4*(t:X)) ->
  ∃q,Zaa.l6 n m a (4*(t:X)) ws ss ys=Z (q,0,())/\q.Pairwise (· < ·)/\q.length<=ws.length+1/\∀x,x∈q↔x∈plR ws ss
 |0,t,a,_,h,_,_,_=>by omega
 |m+1,t,a,ht,h,hl,hp,hm=>by
  have hlw:=O.lw;rw[Zaa.l6,w64 (by omega)];by_cases hle:t<=ws.length
  ·rw[I (by simp;omega)];obtain⟨c',h1,h2⟩:=Gq O n (Zaa.l6 n m) a (4*(t:X)) (by omega) n 0 zab (Nat.zero_le _) (by omega);rw[show((0:D):X)=0 from rfl] at h1;have h2:c'=G↔4*(t:X)∈plR ws ss:=by
    rw[h2,KE O];constructor
    ·rintro(h|⟨k,_,k2,k3⟩)
     ·cases h
     ·exact⟨k,k2,k3⟩
    ·rintro⟨k,k2,k3⟩;exact .inr ⟨k,Nat.zero_le _,k2,k3⟩
   rw[h1];have J:∀a',Zaa.j7 n (Zaa.l6 n m) a' (4*(t:X)) ws ss ys=Zaa.l6 n m a' (4*((t+1:D):X)) ws ss ys:=λa'=>by
    unfold Zaa.j7;rw[w64 (by omega),show 4*(t:X)+4=4*((t+1:D):X) by omega]
   have step:∀x,x∈plR ws ss/\x<4*((t+1:D):X)↔(x∈plR ws ss/\x<4*(t:X))\/(4*(t:X)∈plR ws ss/\x=4*(t:X)):=λx=>by
    constructor
    ·rintro⟨g1,g2⟩;obtain⟨k,rfl,_⟩:=vI O g1;by_cases hk:k<t
     ·exact .inl ⟨g1,by omega⟩
     ·obtain rfl:k=t:=by omega
      exact .inr ⟨g1,rfl⟩
    ·rintro(⟨g1,g2⟩|⟨g1,rfl⟩)
     ·exact⟨g1,by omega⟩
     ·exact⟨g1,by omega⟩
   by_cases hc:c'=G
   ·rw[I hc,I (by simp;omega),J];refine Ey n hn m (t+1) (a++[4*(t:X)]) (by omega) (by omega) (by simp;omega) ?_ λx=>?_
    ·rw[List.pairwise_append];exact⟨hp,List.pairwise_singleton _ _,λx hx y hy=>by rw[Ob.1 hy];exact((hm x).1 hx).2⟩
    ·rw[step,NV,Ob,hm];exact or_congr Iff.rfl ⟨λg=>⟨h2.1 hc,g⟩,λg=>g.2⟩
   ·rw[S hc,J];refine Ey n hn m (t+1) a (by omega) (by omega) (by omega) hp λx=>?_
    rw[step,hm];exact⟨.inl,λg=>g.elim id λg=>absurd (h2.2 g.1) hc⟩
  ·rw[S (by simp;omega)];refine⟨a,rfl,hp,by omega,λx=>?_⟩;rw[hm];exact⟨λg=>g.1,λg=>⟨g,by obtain⟨k,rfl,hk⟩:=vI O g;omega⟩⟩
omit O in
theorem Cv{x:X}:∀{q:Y X},q.Pairwise (· < ·)->q.filter (λy=>F (y=x))=if x∈q then[x] else[]
 |[],_=>by simp
 |y::q,h=>by
  have h':=List.pairwise_cons.1 h;by_cases e:y=x;·subst e;rw[List.filter_cons_of_pos (by simp),I (by simp),List.filter_eq_nil_iff.2 λz hz=>?_];have:=h'.1 z hz;simp;omega
  ·rw[List.filter_cons_of_neg (by simpa using e),Cv h'.2];by_cases hx:x∈q
   ·rw[I hx,I (by simp[hx])]
   ·rw[S hx,S (by simp[hx];exact λg=>e g.symm)]
abbrev Eh(s:Str):Ln:=(s,(0,0,0,0,0,zab,[],([]:Str),()),())
theorem qU(n:D)(rl7:Y X->Y Ln->X->Y X->Y X->Y Sym->H (Y Ln×X×Unit))(q:Y X)(hq:q.length<=2000)(i:D)(hi:i<=ws.length):∀(m d:D) (b:Y Ln),d<=q.length->q.length-d<m->b.length+(q.length-d)<=10000000 ->
  Zac.l15 n rl7 m q b (i:X) (d:X) ws ss ys=(let b':=b++((q.drop d).filter (λy=>F (y=4*(i:X)))).map (λ_=>Eh (nmR (4*(i:X))))
   if i<ws.length then Zac.j8 n rl7 q (b'++[([],jm ws ss i,())]) (i:X) ws ss ys else Zac.j8 n rl7 q b' (i:X) ws ss ys)
 |0,d,b,_,h,_=>by omega
 |m+1,d,b,hd,h,hl=>by
  have hlw:=O.lw;rw[Zac.l15];by_cases hlt:d<q.length
  ·have hdr:q.drop d=q.getD d 0::q.drop (d+1):=by
    rw[Oe hlt];simp[List.getD,hlt]
   rw[I (by simpa using hlt),I ⟨by omega,by omega⟩,NM,w64 (x:=4*(i:X)) (by omega),hdr];by_cases he:q.getD d 0=4*(i:X);·rw[I (by simpa using he),GL (by omega),NE,I (by simp;omega)];unfold Zac.j16;rw[w64 (by omega)];have:=qU n rl7 q hq i hi m (d+1) (b++[Eh (nmR (4*(i:X)))]) (by omega) (by omega) (by simp;omega);refine this.trans ?_;rw[List.filter_cons_of_pos (by simpa using he),NY,NW];rfl
   ·rw[S (by simpa using he)];unfold Zac.j16;rw[w64 (by omega)];have:=qU n rl7 q hq i hi m (d+1) b (by omega) (by omega) (by omega);refine this.trans ?_;rw[List.filter_cons_of_neg (by simpa using he)]
  ·rw[S (by simpa using hlt),List.drop_eq_nil_of_le (by omega),List.filter_nil,List.map_nil,N9];dsimp only;by_cases hw:i<ws.length
   ·rw[I (by simpa using hw),xq O.ok ys i (by omega),NE,I (by simp;omega),I hw]
   ·rw[S (by simpa using hw),S hw]
theorem qR(n:D)(rl7:Y X->Y Ln->X->Y X->Y X->Y Sym->H (Y Ln×X×Unit))(q:Y X)(hq:q.length<=2000)(i:D)(hi:i<=ws.length):∀(m d:D) (b:Y Ln),d<=ys.length->ys.length-d<m->b.length+(ys.length-d)+2000<=10000000 ->
  Zac.l10 n rl7 m q b (i:X) (d:X) ws ss ys=Zac.l15 n rl7 n q (b++L.linS (4*(i:X)) (ys.drop d)) (i:X) 0 ws ss ys
 |0,d,b,_,h,_=>by omega
 |m+1,d,b,hd,h,hl=>by
  have hlw:=O.lw;have hly:=O.ly;rw[Zac.l10];by_cases hlt:d<ys.length
  ·rw[I (by simpa using hlt),I ⟨by omega,by omega⟩,NM,w64 (x:=4*(i:X)) (by omega),FM hlt,L.linS];by_cases he:(ys.getD d zSy).2.1=4*(i:X)
   ·rw[I (by simpa using he),I ⟨by omega,by omega⟩,I (by simp;omega),I he];unfold Zac.j11;rw[w64 (by omega)];have:=qR n rl7 q hq i hi m (d+1) (b++[Eh (ys.getD d zSy).1]) (by omega) (by omega) (by simp;omega);refine this.trans ?_;rw[NW];rfl
   ·rw[S (by simpa using he),S he];unfold Zac.j11;rw[w64 (by omega)];exact qR n rl7 q hq i hi m (d+1) b (by omega) (by omega) (by omega)
  ·rw[S (by simpa using hlt),List.drop_eq_nil_of_le (by omega),L.linS,N9]
theorem xM(n:D):∀(m d:D) (b:Y Ln),d<=ys.length->ys.length-d<m->b.length+(ys.length-d)<=10000000->Zac.l22 n m b (d:X) ws ss ys=Z (b++L.linX (ys.drop d),0,())
 |0,d,b,_,h,_=>by omega
 |m+1,d,b,hd,h,hl=>by
  have hly:=O.ly;rw[Zac.l22];by_cases hlt:d<ys.length;·rw[I (by simpa using hlt),I ⟨by omega,by omega⟩,NM,I (by simp;omega),w64 (by omega),FM hlt,L.linX];have:=xM n m (d+1) (b++[([],L.st0 10 (ys.getD d zSy).1,())]) (by omega) (by omega) (by simp;omega);refine this.trans ?_;rw[NW];rfl
  ·rw[S (by simpa using hlt),List.drop_eq_nil_of_le (by omega),L.linX,N9]
theorem zZ(n:D)(hn:ws.length+ys.length+5<n)(q:Y X)(hq:q.Pairwise (· < ·))(hqw:q.length<=ws.length+1)(hm:∀x,x∈q↔x∈plR ws ss):∀(m i:D) (b:Y Ln),i<=ws.length+1->ws.length+1-i<m->b.length<=3000*i->Zac.l7 n m q b (i:X) ws ss ys=Z (b++gV ws ss ys (ws.length+1-i) i++L.linX ys,0,())
 |0,i,b,_,h,_=>by omega
 |m+1,i,b,hi,h,hl=>by
  have hlw:=O.lw;have hly:=O.ly;have hql:q.length<=2000:=by omega
  rw[Zac.l7];by_cases hle:i<=ws.length
  ·rw[I (by simpa using hle)];have h1:=qR O n (Zac.l7 n m) q hql i hle n 0 b (Nat.zero_le _) (by omega) (by omega);rw[show((0:D):X)=0 from rfl,Om] at h1;have hsl:(L.linS (4*(i:X)) ys).length<=ys.length:=by rw[o7];exact List.length_filter_le _ _
   have h2:=qU O n (Zac.l7 n m) q hql i hle n 0 (b++L.linS (4*(i:X)) ys) (Nat.zero_le _) (by omega) (by rw[NP];omega);rw[show((0:D):X)=0 from rfl,Om,Cv hq] at h2;rw[h1,h2];have hpl:(4*(i:X)∈q)=(4*(i:X)∈plR ws ss):=propext (hm _);have hmap:(if 4*(i:X)∈q then[4*(i:X)] else[]).map (λ_=>Eh (nmR (4*(i:X))))=(if 4*(i:X)∈plR ws ss then[(nmR (4*(i:X)),L.st0 0 [],())] else[]):=by
    simp only[hpl];split<;>rfl
   rw[hmap];have hk:ws.length+1-i=ws.length-i+1:=by omega
   have hs:gV ws ss ys (ws.length+1-i) i=AY ws ss ys i++gV ws ss ys (ws.length+1-(i+1)) (i+1):=by
    rw[hk,gV,show ws.length+1-(i+1)=ws.length-i by omega]
   have hsec:AY ws ss ys i=L.linS (4*(i:X)) ys++(if 4*(i:X)∈plR ws ss then[(nmR (4*(i:X)),L.st0 0 [],())] else[])++(if i<ws.length then[([],jm ws ss i,())] else[]):=rfl;have J:∀b',b'.length<=3000*(i+1)->Zac.j8 n (Zac.l7 n m) q b' (i:X) ws ss ys=Z (b'++gV ws ss ys (ws.length+1-(i+1)) (i+1)++L.linX ys,0,()):=λb' hb'=>by
    unfold Zac.j8;rw[w64 (by omega),show(i:X)+1=((i+1:D):X) by omega];exact zZ n hn q hq hqw hm m (i+1) b' (by omega) (by omega) hb'
   have h3:(if 4*(i:X)∈plR ws ss then[((nmR (4*(i:X)),L.st0 0 [],()):Ln)] else[]).length<=1:=by split<;>simp
   rw[hs,hsec];dsimp only;by_cases hw:i<ws.length;·rw[I hw,I hw,J _ (by simp only[NP,List.length_singleton];omega)];simp only[NW]
   ·rw[S hw,S hw,J _ (by simp only[NP];omega)];simp only[NW,N9,Oc]
  ·rw[S (by simpa using hle)];have:=xM O n n 0 b (Nat.zero_le _) (by omega) (by omega);rw[show((0:D):X)=0 from rfl,Om] at this;rw[this,show ws.length+1-i=0 by omega,gV,N9]
theorem EL(hn:∀z∈ys,z.1.length<=1000000)(hw:ws.length<=900):Zac.g ws ss ys=Z (qO ws ss ys,0,()):=by
 have hlw:=O.lw;have hly:=O.ly;have hls:=O.toOkS.len;have hmay:Zaj.g ws ss ys=Z (0,()):=by
  obtain⟨e,h1,h2⟩:=CL (ws:=ws) (ss:=ss) (ys:=ys) (by omega) (by omega) (by omega) O.wr;obtain⟨f,h3,h4⟩:=AO (ws:=ws) (ss:=ss) (ys:=ys) (by omega) (by omega) (by omega) O.wr hn;rw[wQ O] at h1;rw[h3,h4.uniq h2,show e=0 from by cases h1;rfl]
 have hof:∃q,Zaa.g ws ss ys=Z (q,0,())/\q.Pairwise (· < ·)/\q.length<=ws.length+1/\∀x,x∈q↔x∈plR ws ss:=by
  unfold Zaa.g Zaa.f;rw[hmay,NE];dsimp only;rw[S (by simp)];have:=Ey O (1000+ws.length+ss.length+ys.length) (by omega) (1000+ws.length+ss.length+ys.length) 0 [] (Nat.zero_le _) (by omega) (NL _) List.Pairwise.nil λx=>⟨λh=>(by cases h),λh=>by obtain⟨k,rfl,_⟩:=vI O h.1;have:=h.2;omega⟩
  exact this
 obtain⟨q,h1,h2,h3,h4⟩:=hof;unfold Zac.g;generalize hN:1000+ws.length+ss.length+ys.length=n;unfold Zac.f;rw[hmay,NE];dsimp only;rw[S (by simp),h1,NE];have:=zZ O n (by omega) q h2 h3 h4 n 0 [] (Nat.zero_le _) (by omega) (Nat.zero_le _);rw[show((0:D):X)=0 from rfl,Oc,Nat.sub_zero] at this;exact this
end
end Rv
namespace Rv
open Go
theorem ES(a:Y Item)(ha:a.length<=1000):Zce.g a a=Z (G,()):=by
 have loop:∀(n m i:D),i<=a.length->a.length-i<m->Zce.l4 n m a a (i:X)=Z (G,()):=by
  intro n m
  induction m with
  |zero=>intro i _ h;omega
  |succ m ih=>
   intro i hi hm;rw[Zce.l4];simp only[dt];by_cases h:i<a.length;·rw[I (by omega),I (by omega),I (by omega),S (by simp),w64 (by omega)];exact ih (i+1) (by omega) (by omega)
   ·rw[S (by omega)]
 unfold Zce.g Zce.f;rw[S (by simp)];exact loop _ _ 0 (by omega) (by omega)
end Rv
namespace Rv
open Go
theorem yf(s:Sm)(he:s.e.length<=1000):Zcb.g s.k s.o s.a s.b s.c s.u s.e s.nm s.k s.o s.a s.b s.c s.u s.e s.nm=Z (G,()):=by
 unfold Zcb.g;generalize 1000+_+_+_+_+_+_+_+_+_+_+_+_+_+_=n;unfold Zcb.f Zcg.g Zcg.f;rw[NE,NE,ES s.e he,I (by simp),NE,I rfl];simp
end Rv
namespace Rv
open Go
theorem Ci(a:Y Ln)(ha:a.length<=1000000)(h:∀x∈a,Bb x):Zcd.g a a=Z (G,()):=by
 have loop:∀(n m i:D),i<=a.length->a.length-i<m->Zcd.l4 n m a a (i:X)=Z (G,()):=by
  intro n m
  induction m with
  |zero=>intro i _ h;omega
  |succ m ih=>
   intro i hi hm;rw[Zcd.l4];simp only[dt,df,NM];by_cases hlt:i<a.length
   ·have hx:Bb (a.getD i zL):=by
     refine h _ ?_;rw[NN,NQ hlt];exact Oo hlt
    generalize a.getD i zL=x at hx;have hs:=yf ⟨x.2.1.1,x.2.1.2.1,x.2.1.2.2.1,x.2.1.2.2.2.1,x.2.1.2.2.2.2.1,x.2.1.2.2.2.2.2.1,x.2.1.2.2.2.2.2.2.1,x.2.1.2.2.2.2.2.2.2.1⟩ (by have:x.2.1.2.2.2.2.2.2.1.length<=64:=hx;dsimp only;omega);dsimp only at hs;rw[I (by omega),I (by omega),I (by omega),hs,NE,I (by decide),I (by omega),I (by omega),S (by simp),w64 (by omega)];exact ih (i+1) (by omega) (by omega)
   ·rw[S (by omega)]
 unfold Zcd.g Zcd.f;rw[S (by simp)];exact loop _ _ 0 (by omega) (by omega)
end Rv
namespace Rv
open Go
set_option maxRecDepth 100000
end Rv
namespace Rv
open Go
end Rv
namespace Rv
open Go
def gN(s:Sm):Prop:=
 (s.k=0/\s.e=[]/\s.nm=[]/\s.o=0/\s.a=0/\s.b=0/\s.c=0/\s.u=zab) \/
 ((s.k=1\/s.k=3\/s.k=4\/s.k=6)/\s.e=[]/\s.nm=[]/\aP s.k s.o s.a s.b s.c s.u) \/
 ((s.k=2\/s.k=5\/s.k=7)/\well s.e=G/\s.nm=[]/\aP s.k s.o s.a s.b s.c s.u) \/
 (s.k=8/\well s.e=G/\s.nm=[]/\s.o=0/\rg s.a/\s.b=0/\s.c=0/\s.u=zab) \/
 (s.k=9/\well s.e=G/\s.nm=[]/\s.o=0/\s.a=0/\s.b=0/\s.c=0/\s.u=zab) \/
 (s.k=10/\s.e=[]/\bG s.nm=G/\s.o=0/\s.a=0/\s.b=0/\s.c=0/\s.u=zab)
theorem IV{s:Sm}{t:H Tr}(h:GoodS s t):gN s:=by
 have w:∀x:Tr,il x->well x.post=G:=λx hx=>sK hx.2.2.1 hx.2.2.2
 unfold gN;cases h with
 |none=>exact .inl ⟨rfl,rfl,rfl,rfl,rfl,rfl,rfl,rfl⟩
 |ins0 h hk=>exact .inr (.inl ⟨hk,rfl,rfl,h⟩)
 |ins1 h hk ht=>exact .inr (.inr (.inl ⟨hk,w _ ht,rfl,h⟩))
 |load h ht=>exact .inr (.inr (.inr (.inl ⟨rfl,w _ ht,rfl,rfl,h,rfl,rfl,rfl⟩)))
 |word ht=>exact .inr (.inr (.inr (.inr (.inl ⟨rfl,w _ ht,rfl,rfl,rfl,rfl,rfl,rfl⟩))))
 |exp h=>exact .inr (.inr (.inr (.inr (.inr ⟨rfl,rfl,h,rfl,rfl,rfl,rfl,rfl⟩))))
end Rv
namespace Rv
open Go
theorem M3{s:Sm}(h:gN s):s.k=10↔s.nm≠[]:=by
 unfold gN at h;rcases h with h|h|h|h|h|h;·exact⟨λg=>by omega,λg=>absurd h.2.2.1 g⟩
 ·exact⟨λg=>by omega,λg=>absurd h.2.2.1 g⟩
 ·exact⟨λg=>by omega,λg=>absurd h.2.2.1 g⟩
 ·exact⟨λg=>by omega,λg=>absurd h.2.2.1 g⟩
 ·exact⟨λg=>by omega,λg=>absurd h.2.2.1 g⟩
 ·exact⟨λ_ g=>by rw[g] at h;exact absurd h.2.2.1 (by decide),λ_=>h.1⟩
theorem JG{s:Sm}(he:s.e.length<=100000)(hn:∀x∈s.e,x.2.2.1.length<=100000)(hnm:s.nm.length<=1000000) :
  ∃r,Zak.g s.k s.o s.a s.b s.c s.u s.e s.nm=Z (r,())/\(r=G↔gN s):=by
 have hgp:=M3 (s:=s);obtain⟨k,o,a,b,c,u,e,nm⟩:=s;dsimp only at he hn hnm hgp⊢;obtain⟨r3,hr3,h3⟩:=GH k o a b c u;unfold Zak.g;generalize 1000+k.toNat+o.toNat+a.toNat+b.toNat+c.toNat+e.length+nm.length=n;unfold Zak.f Zcg.g Zcg.f;rw[NE];dsimp only;by_cases hm:(k=10↔nm≠[])
 case neg=>
  have:¬((F (k=10))=(!F (nm=[]))):=λg=>hm (by
   by_cases h10:k=10;·rw[decide_eq_true h10] at g;exact⟨λ_ h=>(by rw[decide_eq_true h] at g;cases g),λ_=>h10⟩
   ·rw[decide_eq_false h10] at g;exact⟨λh=>absurd h h10,λh=>(by rw[decide_eq_false h] at g;cases g)⟩)
  rw[I (show(!(F (k=10) == !F (nm=[])))=G by
   cases h1:F (k=10)<;>cases h2:F (nm=[])<;>rw[h1,h2] at this<;>first|rfl|exact absurd rfl this)]
  exact⟨_,rfl,λh=>(by cases h),λh=>absurd (hgp h) hm⟩
 have hm2:F (k=10)=(!F (nm=[])):=by
  by_cases h10:k=10;·rw[decide_eq_true h10,decide_eq_false (hm.1 h10)];rfl
  ·rw[decide_eq_false h10,decide_eq_true (Classical.byContradiction λg=>h10 (hm.2 g))];rfl
 rw[S (show ¬(!(F (k=10) == !F (nm=[])))=G by rw[hm2];simp)];unfold Zak.j9 Zak.j14 Zak.j8 Zak.j13 Zak.j17 Zak.j18;simp only[dt,df,hr3,AX e he hn,kE nm hnm,NE];have hnil:((e.length:X)=0)=(e=[]):=propext ⟨λh=>List.length_eq_zero_iff.1 (by omega),λh=>by rw[h];rfl⟩;simp only[hnil];by_cases k0:k=0
 ·subst k0;have hnn:nm=[]:=Classical.byContradiction λg=>absurd (hm.2 g) (by decide)
  subst hnn;by_cases g1:e=[]<;>by_cases g2:o=0<;>by_cases g3:a=0<;>by_cases g4:b=0<;>by_cases g5:c=0<;>cases u<;>simp[gN,g1,g2,g3,g4,g5]
 ·by_cases k10:k=10
  ·subst k10;by_cases g1:e=[]<;>by_cases g2:o=0<;>by_cases g3:a=0<;>by_cases g4:b=0<;>by_cases g5:c=0<;>cases u<;>simp[gN,g1,g2,g3,g4,g5]
  ·have hnn:nm=[]:=Classical.byContradiction λg=>k10 (hm.2 g)
   subst hnn;simp only[k0,k10,↓reduceIte];by_cases ka:k=1\/k=3\/k=4\/k=6
   ·have hG:gN ⟨k,o,a,b,c,u,e,[]⟩↔e=[]/\aP k o a b c u:=by
     unfold gN;dsimp only;constructor
     ·rintro(h|h|h|h|h|h)
      ·omega
      ·exact⟨h.2.1,h.2.2.2⟩
      ·omega
      ·omega
      ·omega
      ·omega
     ·exact λh=>.inr (.inl ⟨ka,h.1,rfl,h.2⟩)
    rw[hG,<- h3];rcases ka with rfl|rfl|rfl|rfl<;>by_cases g1:e=[]<;>simp[g1]
   ·have kb:k≠1/\k≠3/\k≠4/\k≠6:=by omega
    simp only[kb.1,kb.2.1,kb.2.2.1,kb.2.2.2,↓reduceIte];by_cases kc:k=2\/k=5\/k=7
    ·have hG:gN ⟨k,o,a,b,c,u,e,[]⟩↔well e=G/\aP k o a b c u:=by
      unfold gN;dsimp only;constructor
      ·rintro(h|h|h|h|h|h)
       ·omega
       ·omega
       ·exact⟨h.2.1,h.2.2.2⟩
       ·omega
       ·omega
       ·omega
      ·exact λh=>.inr (.inr (.inl ⟨kc,h.1,rfl,h.2⟩))
     rw[hG,<- h3];rcases kc with rfl|rfl|rfl<;>cases well e<;>simp
    ·have kd:k≠2/\k≠5/\k≠7:=by omega
     simp only[kd.1,kd.2.1,kd.2.2,↓reduceIte];by_cases k8:k=8;·subst k8;cases hwl:well e<;>by_cases g2:o=0<;>by_cases g3:0<=a<;>by_cases g4:b=0<;>by_cases g5:c=0<;>cases u<;>simp[gN,g2,g3,g4,g5,hwl,rg]<;>omega
     ·by_cases k9:k=9
      ·subst k9;cases hwl:well e<;>by_cases g2:o=0<;>by_cases g3:a=0<;>by_cases g4:b=0<;>by_cases g5:c=0<;>cases u<;>simp[gN,g2,g3,g4,g5,hwl]
      ·simp only[k8,k9,↓reduceIte];refine⟨_,rfl,λh=>(by cases h),λh=>?_⟩;exfalso;unfold gN at h;dsimp only at h;omega
end Rv
namespace Rv
open Go
theorem GA(n:D):∀(k m a:D) (b:Str),a<10 ^ (k+1)->k<m->a<=4294967295->b.length<=1000-k->k<=100->Zbz.l2 n m (a:X) b=Z (Lib.decDigits a++b,()):=by
 intro k;have hbyte:∀k:D,k<10->bytesOf [IntKind.u8.wrap (48+IntKind.u8.wrap (k:X))]=[UInt8.ofNat (48+k)]:=λk hk=>by
  rw[w8u (x:=(k:X)) (by omega),w8u (by omega),show(48:X)+(k:X)=((48+k:D):X) by omega];rfl
 induction k with
 |zero=>
  intro m a b h hm ha hb _;obtain⟨m,rfl⟩:∃m',m=m'+1:=⟨m-1,by omega⟩
  have h:a<10:=by simpa using h
  rw[Zbz.l2,Lib.decDigits,S (by simp;omega),hbyte a h,I (by simp;omega),dif_pos h]
 |succ k ih=>
  intro m a b h hm ha hb hk;obtain⟨m,rfl⟩:∃m',m=m'+1:=⟨m-1,by omega⟩
  rw[Zbz.l2,Lib.decDigits];by_cases h9:9<a
  ·have e1:Int.tmod (a:X) 10=((a % 10:D):X):=by rw[Oj (by omega)];omega
   have e2:Int.tdiv (a:X) 10=((a / 10:D):X):=by rw[Int.tdiv_eq_ediv_of_nonneg (by omega)];omega
   have hm10:a % 10<10:=Nat.mod_lt _ (by decide);have hlt:a / 10<10 ^ (k+1):=by rw[Nat.pow_succ] at h;omega
   rw[I (by simp;omega),e1,e2,hbyte _ hm10,NB (by omega),I (by simp;omega),dif_neg (by omega),ih m (a / 10) _ hlt (by omega) (by omega) (by simp;omega) (by omega),NW]
  ·rw[S (by simp;omega),hbyte a (by omega),I (by simp;omega),dif_pos (by omega)]
theorem LA{n:X}(h:0<=n/\n<=4294967295):Zbz.g n=Z (Lib.itoa n,()):=by
 obtain⟨m,rfl⟩:∃m:D,n=m:=⟨n.toNat,by omega⟩
 have hi:Lib.itoa (m:X)=Lib.decDigits m:=by unfold Lib.itoa;rw[S (by omega)];rfl
 unfold Zbz.g Zbz.f;rw[GA _ 10 _ m [] (by omega) (by omega) (by omega) (by simp) (by decide),N9,hi]
theorem Cc(n:D)(s:Str)(hs:s.length<=1000000)(k:X)(ks:Y X)(hk:ks.length<=10):∀(m i:D),i<=ks.length->ks.length-i<m->Zbe.l2 n m s k ks (i:X)=Z (if k∈ks.drop i then 40::(s++[41]) else s,()):=by
 intro m
 induction m with
 |zero=>intro i _ h;omega
 |succ m ih=>
  intro i hi hm;rw[Zbe.l2];simp only[dt,NM];by_cases h:i<ks.length
  ·have hd:ks.drop i=ks.getD i 0::ks.drop (i+1):=by
    rw[Oe h,NN,NQ h];rfl
   rw[I (by omega),I (by omega),hd];by_cases he:ks.getD i 0=k;·rw[I he,I (by simp;omega),I (by simp;omega),I (by rw[he];exact OB ..)];rfl
   ·rw[S he,w64 (by omega),show(i:X)+1=((i+1:D):X) by omega,ih (i+1) (by omega) (by omega)];congr 2;have:(k∈ks.getD i 0::ks.drop (i+1))=(k∈ks.drop (i+1)):=by
     rw[NT];exact propext ⟨λg=>g.resolve_left (λg=>he g.symm),.inr⟩
    simp only[this]
  ·rw[S (by omega),List.drop_eq_nil_of_le (by omega),S (by simp)]
theorem xW(s:Str)(hs:s.length<=1000000)(k:X)(ks:Y X)(hk:ks.length<=10):Zbe.g s k ks=Z (if k∈ks then 40::(s++[41]) else s,()):=by
 unfold Zbe.g Zbe.f;have:=Cc (1000+s.length+k.toNat+ks.length) s hs k ks hk (1000+s.length+k.toNat+ks.length) 0 (by omega) (by omega);rw[Om] at this;exact this
def kt:Tr->X
 | .num _=>1
 | .nam _=>2
 | .neg _=>3
 | .bin o _ _=>o.kind
 | .br x=>kt x
theorem Nv:∀x:Tr,x.plain->(kt x∈([4,5]:Y X)↔x.tight<1)
 | .num _,_=>by simp[kt,Tr.tight]
 | .nam _,_=>by simp[kt,Tr.tight]
 | .neg _,_=>by simp[kt,Tr.tight]
 | .bin o _ _,_=>by cases o<;>simp[kt,Tr.tight,Opr.kind,Opr.tight]
 | .br _,h=>h.elim
theorem M8:∀x:Tr,x.plain->(kt x∈([4,5,6]:Y X)↔x.tight<2)
 | .num _,_=>by simp[kt,Tr.tight]
 | .nam _,_=>by simp[kt,Tr.tight]
 | .neg _,_=>by simp[kt,Tr.tight]
 | .bin o _ _,_=>by cases o<;>simp[kt,Tr.tight,Opr.kind,Opr.tight]
 | .br _,h=>h.elim
theorem Fw{p q:Prop}[Decidable p][Decidable q](h:p↔q)(s:Str):(if p then 40::(s++[41]) else s)=bI (decide q) s:=by
 unfold bI;by_cases hp:p;·rw[I hp,decide_eq_true (h.1 hp)];rfl
 ·rw[S hp,decide_eq_false (λg=>hp (h.2 g))];rfl
theorem Mf{x:Tr}(h:x.plain)(hs:x.txt.length<=1000000):Zbe.g x.txt (kt x) [4,5]=Z (bI (F (x.tight<1)) x.txt,()):=by
 rw[xW _ hs _ _ (by decide),Fw (Nv x h)]
theorem Kb{x:Tr}(h:x.plain)(hs:x.txt.length<=1000000):Zbe.g x.txt (kt x) [4,5,6]=Z (bI (F (x.tight<2)) x.txt,()):=by
 rw[xW _ hs _ _ (by decide),Fw (M8 x h)]
theorem EK(n:D)(rl)(all:Y Item)(T:Y Str)(Ks:Y X)(U:Y Str)(V:Y X)(hT:T.length<=100)(hK:Ks.length=T.length)(i:D)(hi:i<=1000)(k:X)(s:Str) :
  Zah.j27 n rl all (T++U) (Ks++V) (i:X) (T.length:X) k s=rl all (T++[s]) (Ks++[k]) ((i+1:D):X):=by
 unfold Zah.j27;have h1:(T++U).take ((T.length:X)).toNat=T:=by rw[NM];simp
 have h2:(Ks++V).take ((T.length:X)).toNat=Ks:=by rw[NM,<- hK];simp
 rw[h1,h2,Oc,Oc,I (by simp;omega),I (by simp;omega),I (by simp;omega),I (by simp[hK];omega),I (by simp;omega),I (by simp;omega),w64 (by omega)];rfl
theorem l9(b:zac)(s:Str):(bI b s).length<=s.length+2:=by unfold bI;split<;>simp
theorem Ch(n:D)(all:Y Item)(hall:all.length<=64):∀(x:Tr),x.ok->x.plain->∀(i:D) (rest:Y Item) (M:D) (T:Y Str) (Ks:Y X),all.drop i=x.post++rest->Ks.length=T.length->T.length<=i ->
  Zah.l6 n (M+x.post.length) all T Ks (i:X)=Zah.l6 n M all (T++[x.txt]) (Ks++[kt x]) ((i+x.post.length:D):X):=by
 have head:∀(i:D) (y:Item) (r:Y Item),all.drop i=y::r->i<all.length/\all.getD i zI=y:=λi y r h=>by
  have hi:i<all.length:=by
   apply Classical.byContradiction;intro hc;rw[List.drop_eq_nil_of_le (by omega)] at h;cases h
  rw[Oe hi] at h;refine⟨hi,?_⟩;rw[NN,NQ hi];exact(List.cons.inj h).1
 have tl:∀(i:D) (a b:Y Item),all.drop i=a++b->all.drop (i+a.length)=b:=λi a b h=>by
  rw[<- List.drop_drop,h,List.drop_left]
 intro x
 induction x with
 |num v=>
  intro ho hp i rest M T Ks hd hK hT;obtain⟨hi,hg⟩:=head i _ _ hd;show Zah.l6 n (M+1) all T Ks (i:X)=_;rw[Zah.l6];simp only[dt,NM];rw[I (by omega),I (by omega),hg];dsimp only;rw[I rfl,I (by omega),LA ho,NE];have:=EK n (Zah.l6 n M) all T Ks [] [] (by omega) hK i (by omega) 1 (Lib.itoa v);rw[N9,N9] at this;exact this
 |nam s=>
  intro ho hp i rest M T Ks hd hK hT;obtain⟨hi,hg⟩:=head i _ _ hd;show Zah.l6 n (M+1) all T Ks (i:X)=_;rw[Zah.l6];simp only[dt,NM];rw[I (by omega),I (by omega),hg];dsimp only;rw[S (by decide),I rfl,I (by omega)];have:=EK n (Zah.l6 n M) all T Ks [] [] (by omega) hK i (by omega) 2 s;rw[N9,N9] at this;exact this
 |br x ih=>intro _ hp;exact hp.elim
 |neg x ih=>
  intro ho hp i rest M T Ks hd hK hT;have e1:(Tr.neg x).post=x.post++[(3,0,[],())]:=rfl;have hd1:all.drop i=x.post++((3,0,[],())::rest):=by rw[hd,e1,NW];rfl
  have hpl:=dV x ho hp;have hlen:i+x.post.length<all.length:=(head _ _ _ (tl i _ _ hd1)).1;have hi2:=head _ _ _ (tl i _ _ hd1);rw[e1,NP,List.length_singleton,<- OE,Nat.add_right_comm,ih ho hp i _ (M+1) T Ks hd1 hK hT];rw[Zah.l6];simp only[dt,NM];rw[I (by omega),I (by omega),hi2.2];dsimp only;have W:zaa.wrap (((T++[x.txt]).length:X)-1)=(T.length:X):=by rw[w64 (by simp;omega)];simp
  have g1:(T++[x.txt]).getD T.length []=x.txt:=by simp[NN]
  have g2:(Ks++[kt x]).getD T.length 0=kt x:=by rw[<- hK];simp[NN]
  rw[S (by decide),S (by decide),I rfl,W,I (by simp;omega),I (by simp[hK];omega),NM,g1,g2,Kb (x:=x) hp (by omega),NE];have hb:=l9 (F (x.tight<2)) x.txt;dsimp only;rw[I (by simp;omega),EK n _ all T Ks [x.txt] [kt x] (by omega) hK (i+x.post.length) (by omega)];rfl
 |bin o a b iha ihb=>
  intro ho hp i rest M T Ks hd hK hT;have e1:(Tr.bin o a b).post=a.post++b.post++[(o.kind,0,[],())]:=rfl;have hd1:all.drop i=a.post++(b.post++((o.kind,0,[],())::rest)):=by rw[hd,e1];simp
  have hd2:=tl i _ _ hd1;have hi3:=head _ _ _ (tl _ _ _ hd2);have la:=dV a ho.1 hp.1;have lb:=dV b ho.2 hp.2;have hlt:=hi3.1;have pa:=a.post_pos;have pb:=b.post_pos;have hM:M+(a.post++b.post++[(o.kind,0,[],())]).length=(M+1+b.post.length)+a.post.length:=by simp;omega
  rw[e1,hM,iha ho.1 hp.1 i _ _ T Ks hd1 hK hT,ihb ho.2 hp.2 (i+a.post.length) _ (M+1) (T++[a.txt]) (Ks++[kt a]) hd2 (by simp[hK]) (by simp;omega)];have eT:T++[a.txt]++[b.txt]=T++[a.txt,b.txt]:=by simp
  have eK:Ks++[kt a]++[kt b]=Ks++[kt a,kt b]:=by simp
  rw[eT,eK,Zah.l6];simp only[dt,NM];rw[I (by omega),I (by omega),hi3.2];dsimp only;have W:zaa.wrap (((T++[a.txt,b.txt]).length:X)-2)=(T.length:X):=by rw[w64 (by simp;omega)];simp
  have W2:zaa.wrap ((T.length:X)+1)=((T.length+1:D):X):=by rw[w64 (by omega)];omega
  have g1:(T++[a.txt,b.txt]).getD T.length []=a.txt:=by simp[NN]
  have g2:(Ks++[kt a,kt b]).getD T.length 0=kt a:=by rw[<- hK];simp[NN]
  have g3:(T++[a.txt,b.txt]).getD (T.length+1) []=b.txt:=by simp[NN]
  have g4:(Ks++[kt a,kt b]).getD (T.length+1) 0=kt b:=by rw[<- hK];simp[NN]
  have ba:=l9 (F (a.tight<1)) a.txt;have bb:=l9 (F (b.tight<2)) b.txt;have bb1:=l9 (F (b.tight<1)) b.txt;have fin:∀s,Zah.j27 n (Zah.l6 n M) all (T++[a.txt,b.txt]) (Ks++[kt a,kt b]) ((i+a.post.length+b.post.length:D):X) (T.length:X) o.kind s=Zah.l6 n M all (T++[s]) (Ks++[o.kind]) ((i+(a.post++b.post++[(o.kind,0,[],())]).length:D):X):=λs=>by
   rw[EK n _ all T Ks _ _ (by omega) hK _ (by omega)];congr 2;simp;omega
  have j16:∀op:Str,op.length=3->Zah.j16 n (Zah.l6 n M) all (T++[a.txt,b.txt]) (Ks++[kt a,kt b]) ((i+a.post.length+b.post.length:D):X) (T.length:X) o.kind op=Zah.l6 n M all (T++[a.txt++op++bI (F (b.tight<1)) b.txt]) (Ks++[o.kind]) ((i+(a.post++b.post++[(o.kind,0,[],())]).length:D):X):=λop hop=>by
   unfold Zah.j16;rw[W2,NM,NM,g1,g3,g4,I (by simp;omega),I (by omega),I (by simp;omega),I (by simp[hK];omega),Mf hp.2 (by omega),NE];dsimp only;rw[I (by rw[NP,hop];omega)];exact fin _
  rw[W,W2];simp only[NM];cases o with
  |add=>
   rw[S (by decide),S (by decide),S (by decide),S (by decide),S (by decide)];refine Eq.trans (j16 [32,43,32] rfl) ?_;congr 3;show _=bI (F (a.tight<0)) a.txt++([32,43,32]++bI (F (b.tight<0+1)) b.txt)
   rw[decide_eq_false (show ¬a.tight<0 by omega)];simp[bI]
  |sub=>
   rw[S (by decide),S (by decide),S (by decide),S (by decide),I (by decide)];refine Eq.trans (j16 [32,45,32] rfl) ?_;congr 3;show _=bI (F (a.tight<0)) a.txt++([32,45,32]++bI (F (b.tight<0+1)) b.txt)
   rw[decide_eq_false (show ¬a.tight<0 by omega)];simp[bI]
  |mul=>
   rw[S (by decide),S (by decide),S (by decide),I (by decide),I (by simp;omega),I (by simp[hK];omega),g1,g2,Mf hp.1 (by omega),NE];dsimp only;rw[I (show(bI (F (a.tight<1)) a.txt).length+([32,42,32]:Str).length<=9223372036854775807 by show _+3<=_;omega),I (by simp;omega),I (by simp[hK];omega),g3,g4,Kb hp.2 (by omega),NE];dsimp only;rw[I (by rw[NP];show(bI (F (a.tight<1)) a.txt).length+3+_<=9223372036854775807;omega)];refine Eq.trans (fin _) ?_;congr 3;show _=bI (F (a.tight<1)) a.txt++([32,42,32]++bI (F (b.tight<1+1)) b.txt)
   rw[NW]
theorem GV{t:Tr}(ho:t.ok)(hp:t.plain)(hw:iK t.post)(hl:t.post.length<=64)(hn:∀x∈t.post,x.2.2.1.length<=100000):Zah.g t.post=Z (t.txt,0,()):=by
 unfold Zah.g Zah.f;rw[AX t.post (by omega) hn,NE,sK hw hl,S (by decide)];have:=Ch (1000+t.post.length) t.post hl t ho hp 0 [] 1000 [] [] (by rw[Om,N9]) rfl (by simp);rw[show((0:D):X)=0 from rfl] at this;rw[this,Nat.zero_add,Zah.l6,S (by simp),I (by simp)];rfl
end Rv
namespace Rv
open Go
theorem EP:((List.range 16).all λk=>F (Zbr.g (k:X)=Z (iN k,())))=G:=by decide +kernel
theorem GX(k:D)(hk:k<16):Zbr.g (k:X)=Z (iN k,()):=by
 have:=Oa.1 EP k (List.mem_range.2 hk);simpa using this
theorem AR{v:X}(h:v<0\/16<=v):Zbr.g v=Z ([],()):=by
 unfold Zbr.g Zbr.f;by_cases h0:v<0;·rw[S (by simp;omega)]
 ·rw[I (by simp;omega),I (by simp;omega)]
theorem wV(v:X):∃s,Zay.g v=Z (s,())/\Zbr.g v=Z (s,()):=by
 by_cases h:v<0\/16<=v;·exact⟨[],Cf h,AR h⟩
 ·obtain⟨k,rfl⟩:∃k:D,v=(k:X):=⟨v.toNat,by omega⟩
  have hk:k<16:=by omega
  exact⟨iN k,(Ay k hk).1,GX k hk⟩
def Kk(k:D):zac:=(List.range 16).all λo=>[G,zab].all λu=>F (Zae.g (k:X) (o:X) u=Z (L.mnemR (k:X) (o:X) u,()))
theorem LF:((List.range 11).all Kk)=G:=by decide +kernel
theorem Gh{k o:X}{u:zac}(h:k<0\/10<k\/o<0\/15<o):L.mnemR k o u=[]:=by
 by_cases e:L.mnemR k o u=[]
 ·exact e
 ·have:=(Ld e).2;omega
theorem JI(k o:X)(u:zac):Zae.g k o u=Z (L.mnemR k o u,()):=by
 by_cases h:k<0\/10<k\/o<0\/15<o
 ·rw[Gh h];unfold Zae.g;generalize 1000+k.toNat+o.toNat=n;have h23:Zae.j23 n k o=Z ([],()):=by
   unfold Zae.j23;by_cases h0:o=0;·rw[S (by simp[h0]),S (by simp;omega),S (by simp;omega),S (by simp;omega),S (by simp;omega),S (by simp;omega)]
   ·rw[I (by simp[h0])]
  have h21:Zae.j21 n k o=Z ([],()):=by
   unfold Zae.j21;by_cases h0:k=5
   ·rw[I (by simp[h0])];by_cases h1:0<=o
    ·rw[I (by simpa using h1),S (by simp;omega)];exact h23
    ·rw[S (by simpa using h1)];exact h23
   ·rw[S (by simp[h0])];exact h23
  have h17:Zae.j17 n k o u=Z ([],()):=by
   unfold Zae.j17;cases u with
   |true=>rw[I rfl]
   |false=>
    rw[S (by decide)];by_cases h0:k=1
    ·rw[I (by simp[h0])];by_cases h1:0<=o
     ·rw[I (by simpa using h1),S (by simp;omega)];exact h21
     ·rw[S (by simpa using h1)];exact h21
    ·rw[S (by simp[h0])];exact h21
  have st:∀(c:X) (x y:H (Str×Unit)),(0<=c/\c<=15)->y=Z ([],())->(if(F (k=1))=G then(if u=G then(if(F (o=c))=G then x else y) else y) else y)=Z ([],()):=by
   intro c x y hc hy;by_cases h0:k=1
   ·rw[I (by simp[h0])];split
    ·rw[S (by simp;omega)];exact hy
    ·exact hy
   ·rw[S (by simp[h0])];exact hy
  have h9:Zae.j9 n k o u=Z ([],()):=by
   unfold Zae.j9;refine st 0 _ _ (by omega) ?_;unfold Zae.j11;refine st 8 _ _ (by omega) ?_;unfold Zae.j13;refine st 9 _ _ (by omega) ?_;unfold Zae.j15;exact st 10 _ _ (by omega) h17
  unfold Zae.f;by_cases h0:k=7
  ·rw[I (by simp[h0])];by_cases h1:0<=o
   ·rw[I (by simpa using h1),S (by simp;omega)];exact h9
   ·rw[S (by simpa using h1)];exact h9
  ·rw[S (by simp[h0])];exact h9
 ·obtain⟨a,rfl⟩:∃a:D,k=(a:X):=⟨k.toNat,by omega⟩
  obtain⟨b,rfl⟩:∃b:D,o=(b:X):=⟨o.toNat,by omega⟩
  have h1:=Oa.1 LF a (List.mem_range.2 (by omega));unfold Kk at h1;have h2:=Oa.1 h1 b (List.mem_range.2 (by omega));have h3:=Oa.1 h2 u (by cases u<;>simp);simpa using h3
end Rv
namespace Rv
open Go
theorem iH:∀t:Tr,t.ok->∀x∈t.post,x.2.2.1.length<=12
 | .num n,_=>λx hx=>by rw[Ob.1 hx];simp
 | .nam s,h=>λx hx=>by
  rw[Ob.1 hx];have h:aF s=G:=h;unfold aF at h;simp only[NJ,NH] at h;exact h.1.1.1.2
 | .neg x,h=>λy hy=>by
  rcases NV.1 hy with g|g;·exact iH x h y g
  ·rw[Ob.1 g];simp
 | .br x,h=>λy hy=>iH x h y hy
 | .bin o a b,h=>λy hy=>by
  have hy:y∈a.post++(b.post++[(o.kind,0,[],())]):=by simpa[Tr.post] using hy
  rcases NV.1 hy with g|g;·exact iH a h.1 y g
  ·rcases NV.1 g with g|g
   ·exact iH b h.2 y g
   ·rw[Ob.1 g];simp
theorem JO{s:Sm}{t:H Tr}(h:GoodS s t):∃k,Zah.g s.e=Z (et t,k,()):=by
 obtain⟨h1,h2,h3⟩:=mq h;rw[h2];cases t with
 |none=>exact⟨23,by decide +kernel⟩
 |some x=>
  have hx:=h3 x rfl;exact⟨0,GV hx.1 hx.2.1 hx.2.2.1 hx.2.2.2 λy hy=>Og (iH x hx.1 y hy) (by decide)⟩
theorem rrn(a:X):∃s,Zbr.g a=Z (s,())/\(rg a->s=rn a):=by
 obtain⟨s,h1,h2⟩:=wV a;refine⟨s,h2,λh=>?_⟩;have:=vR h;rw[h1] at this;exact(Prod.mk.inj (NF this)).1
theorem LG{s:Sm}{t:H Tr}(h:GoodS s t)(h0:s.k≠0):Zcv.g s.k s.o s.a s.b s.c s.u s.e s.nm=Z (mtx s,()):=by
 have hml:=lH (hk s.k) s.o s.u;have hou:s.k=9\/s.k=10->s.o=0/\s.u=zab:=λhd=>by
  cases h with
  |none=>exact⟨rfl,rfl⟩
  |ins0 _ hk=>dsimp only at hd;omega
  |ins1 _ hk _=>dsimp only at hd;omega
  |load _ _=>exact⟨rfl,rfl⟩
  |word _=>exact⟨rfl,rfl⟩
  |exp _=>exact⟨rfl,rfl⟩
 unfold Zcv.g;generalize 1000+s.k.toNat+s.o.toNat+s.a.toNat+s.b.toNat+s.c.toNat+s.e.length+s.nm.length=n;unfold Zcv.f Zcv.j9 mtx;simp only[dt,JI,NE];by_cases k2:s.k=2;·rw[I k2,S (show ¬(s.k=9\/s.k=10) by omega),k2];rfl
 ·rw[S k2];by_cases k6:s.k=6
  ·rw[I k6,S (show ¬(s.k=9\/s.k=10) by omega),k6];rfl
  ·rw[S k6];have hh:hk s.k=s.k:=by unfold hk;rw[S k2,S k6]
   rw[hh] at hml⊢;by_cases k9:s.k=9;·obtain⟨e1,e2⟩:=hou (.inl k9);rw[e1,e2] at hml⊢;rw[I k9,I k9,I (by simp;omega),I (show s.k=9\/s.k=10 from .inl k9)]
   ·rw[S k9];by_cases k10:s.k=10
    ·obtain⟨e1,e2⟩:=hou (.inr k10);rw[e1,e2] at hml⊢;rw[I k10,I (by simp;omega),I (show s.k=9\/s.k=10 from .inr k10)]
    ·rw[S k10,S (show ¬(s.k=9\/s.k=10) by omega)];rfl
theorem LJ{s:Sm}{t:H Tr}(h:GoodS s t)(h0:s.k≠0):Zcw.g s.k s.o s.a s.b s.c s.u s.e s.nm=Z ((odL s.k s.o).map (wtx s t),()):=by
 obtain⟨ek,he⟩:=JO h;obtain⟨ra,ha,ha2⟩:=rrn s.a;obtain⟨rb,hb,hb2⟩:=rrn s.b;obtain⟨rc,hc,hc2⟩:=rrn s.c;have hod:=wH h;have hel:(et t).length<=1300:=by
  cases t with
  |none=>simp[et]
  |some x=>
   have hx:=(mq h).2.2 x rfl;have h1:=dV x hx.1 hx.2.1;have h2:=hx.2.2.2;show x.txt.length<=1300;omega
 unfold Zcw.g;generalize 1000+s.k.toNat+s.o.toNat+s.a.toNat+s.b.toNat+s.c.toNat+s.e.length+s.nm.length=n;unfold Zcw.f Zcw.j26;rw[he,NE,ha,NE,hb,NE,hc,NE];simp only[dt];have A:Od.A∈odL s.k s.o->ra=rn s.a:=λg=>ha2 (hod _ g)
 have B:Od.B∈odL s.k s.o->rb=rn s.b:=λg=>hb2 (hod _ g)
 have C:Od.C∈odL s.k s.o->rc=rn s.c:=λg=>hc2 (hod _ g)
 have hkr:=wG h;have hq:([61,32]:Str).length+(et t).length<=9223372036854775807:=by simp;omega
 have hk:s.k=1\/s.k=2\/s.k=3\/s.k=4\/s.k=5\/s.k=6\/s.k=7\/s.k=8\/s.k=9\/s.k=10:=by omega
 clear hod ha2 hb2 hc2 he hel hkr;generalize s.o=o at A B C⊢;generalize s.k=k at A B C hk⊢;rcases hk with rfl|rfl|rfl|rfl|rfl|rfl|rfl|rfl|rfl|rfl
 ·by_cases ho:o=0
  ·subst ho;rw[A (by simp[odL]),C (by simp[odL])];rfl
  ·have e:odL 1 o=[.A,.B,.C]:=by unfold odL;rw[I rfl,S ho]
   rw[e] at A B C⊢;rw[A (by simp),B (by simp),C (by simp),I rfl,S ho];rfl
 ·by_cases ho:o=0
  ·subst ho;rw[A (by simp[odL])];rfl
  ·have e:odL 2 o=[.A,.B,.E]:=by unfold odL;rw[S (by decide),I rfl,S ho]
   rw[e] at A B C⊢;rw[A (by simp),B (by simp),S (by decide),I rfl,S ho];rfl
 ·rw[A (by simp[odL])];rfl
 ·rw[A (by simp[odL])];rfl
 ·rw[A (by simp[odL]),B (by simp[odL])];rfl
 ·rw[C (by simp[odL])];rfl
 ·rfl
 ·rw[A (by simp[odL]),S (by decide),S (by decide),S (by decide),S (by decide),S (by decide),S (by decide),I (by decide),I hq];rfl
 ·rfl
 ·rfl
def mZ:D->Y Str->Str
 |_,[]=>[]
 |i,x::r=>(if 0<i then[44] else[])++(32::(x++mZ (i+1) r))
theorem AQ:∀(r:Y Str) (i:D),0<i->mZ i r=(r.map (([44,32]:Str)++·)).flatten
 |[],_,_=>rfl
 |x::r,i,h=>by
  rw[mZ,I h,AQ r (i+1) (by omega),NY,List.flatten_cons];simp
theorem JL(x:Str)(r:Y Str):mZ 0 (x::r)=32::L.sjoinR [44,32] (x::r):=by
 rw[mZ,S (by decide),AQ r 1 (by decide)];rfl
theorem GY(n:D)(b:Y Str)(hb:b.length<=1000):∀(m i:D) (acc:Str),i<=b.length->b.length-i<m->acc.length+(mZ i (b.drop i)).length<=1000000 ->
  Zao.l13 n m acc b (i:X)=Z (acc++mZ i (b.drop i),0,()):=by
 intro m
 induction m with
 |zero=>intro i _ _ h;omega
 |succ m ih=>
  intro i acc hi hm hlen;rw[Zao.l13];unfold Zao.j17;simp only[dt,NM];by_cases h:i<b.length
  ·have hd:b.drop i=b.getD i []::b.drop (i+1):=by
    rw[Oe h,NN,NQ h];rfl
   have W1:zaa.wrap ((i:X)+1)=((i+1:D):X):=by rw[w64 (by omega)];omega
   rw[hd,mZ] at hlen⊢;have hc:(0:X)<=(i:X)/\(i:X)<(b.length:X):=by omega
   rw[I (by omega),W1];generalize b.getD i []=x at hlen⊢;by_cases h0:0<i;·rw[I h0] at hlen⊢;simp only[NP,N7,Ol] at hlen;rw[I (show(0:X)<(i:X) by omega),I (by simp;omega),I (by simp;omega),I hc,I (by simp;omega),ih (i+1) _ (by omega) (by omega) (by simp;omega)];simp
   ·rw[S h0] at hlen⊢;simp only[NP,N7,Ol] at hlen;rw[S (show ¬(0:X)<(i:X) by omega),I (by simp;omega),I hc,I (by simp;omega),ih (i+1) _ (by omega) (by omega) (by simp;omega)];simp
  ·rw[S (by omega),List.drop_eq_nil_of_le (by omega),mZ,N9]
theorem Jl{s:Sm}{t:H Tr}(h:GoodS s t)(h0:s.k≠0):∃d r,odL s.k s.o=d::r:=by
 have hkr:=wG h;cases e:odL s.k s.o with
 |cons d r=>exact⟨d,r,rfl⟩
 |nil=>
  exfalso;unfold odL at e
  repeat' split at e
  all_goals first|omega|cases e
abbrev lc(lb:Str)(s:Sm):H (Str×X×Unit):=Zao.g lb s.k s.o s.a s.b s.c s.u s.e s.nm
theorem Cg{s:Sm}{t:H Tr}(h:GoodS s t)(hnm:s.nm.length<=1000000){lb:Str}(hlb:lb=[]\/aF lb=G):lc lb s=Z (ltx lb s t,0,()):=by
 have hL:=K8 h hlb;have hll:lb.length<=12:=by
  rcases hlb with rfl|hlb;·simp
  ·unfold aF at hlb;simp only[NJ,NH] at hlb;exact hlb.1.1.1.2
 have hel:=mq h;obtain⟨r,hr,hr2⟩:=JG (s:=s) (by omega) (λx hx=>by
  rw[hel.2.1] at hx;cases t with
  |none=>cases hx
  |some y=>exact Og (iH y (hel.2.2 y rfl).1 x hx) (by decide)) hnm
 rw[hr2.2 (IV h)] at hr;have J10:∀(n:D) (acc:Str),10<=n->s.k≠0->acc.length+(stx s t).length<=100000->Zao.j10 n acc s.k s.o s.a s.b s.c s.u s.e s.nm=Z (acc++stx s t,0,()):=λn acc hn h0 hacc=>by
  obtain⟨d,rr,hdr⟩:=Jl h h0;have hst:stx s t=mtx s++mZ 0 ((odL s.k s.o).map (wtx s t)):=by
   unfold stx;rw[S h0,hdr,NY,JL]
  rw[hst] at hacc⊢;rw[NP] at hacc;unfold Zao.j10;rw[LG h h0,NE];dsimp only;rw[I (by omega),LJ h h0,NE];have h3:=sj s.k s.o;have:=GY n ((odL s.k s.o).map (wtx s t)) (by rw[Ow];omega) n 0 (acc++mtx s) (by omega) (by rw[Ow];omega) (by rw[Om,NP];omega);rw[Om] at this;rw[show((0:D):X)=0 from rfl] at this;rw[this,NW]
 have J3:∀n,10<=n->Zao.j3 n lb s.k s.o s.a s.b s.c s.u s.e s.nm=Z (ltx lb s t,0,()):=λn hn=>by
  have hL2:=hL;unfold ltx at hL2;unfold Zao.j3 Zao.j6 ltx;simp only[dt];by_cases hl:lb=[]
  ·subst hl;rw[S (by decide),I rfl];rw[I rfl] at hL2;by_cases h0:s.k=0
   ·rw[I h0];unfold stx;rw[I h0]
   ·rw[S h0,S (by decide),J10 n [] hn h0 (by simp;omega),Oc]
  ·rw[I (by simp[hl]),I (by simp;omega),S hl];rw[S hl] at hL2;by_cases h0:s.k=0
   ·rw[I h0,I h0]
   ·rw[S h0] at hL2;rw[S h0,S h0,I (by simp[hl]),I (by simp;omega),J10 n _ hn h0 (by simp at hL2⊢;omega)];simp
 unfold lc Zao.g;have hN:10<=1000+lb.length+s.k.toNat+s.o.toNat+s.a.toNat+s.b.toNat+s.c.toNat+s.e.length+s.nm.length:=by omega
 generalize 1000+lb.length+s.k.toNat+s.o.toNat+s.a.toNat+s.b.toNat+s.c.toNat+s.e.length+s.nm.length=n at hN;unfold Zao.f;rw[hr,J3 n hN,xY lb (by omega)];simp only[NE];rcases hlb with rfl|hlb;·rfl
 ·rw[hlb];have:lb≠[]:=by rintro rfl;exact absurd hlb (by decide)
  rw[I (by simp[this]),I (by decide),S (by decide)]
end Rv
namespace Rv
open Go
end Rv
namespace Rv
open Go
section
variable{l:Y bn}(hl:l.length<=1000000)(hlen:∀t∈l,t.2.2.1.length<=100000)
end
end Rv
namespace Rv
open Go
section
variable{l:Y bn}(hl:l.length<=1000000)(hlen:∀t∈l,t.2.2.1.length<=100000)
end
end Rv
namespace Rv
open Go
end Rv
namespace Rv
open Go
end Rv
namespace Rv
open Go
abbrev smL(x:Ln):Sm:=⟨x.2.1.1,x.2.1.2.1,x.2.1.2.2.1,x.2.1.2.2.2.1,x.2.1.2.2.2.2.1,x.2.1.2.2.2.2.2.1,x.2.1.2.2.2.2.2.2.1,x.2.1.2.2.2.2.2.2.2.1⟩
def ET(x:Ln):Prop:=∃p:Str×X,fG x.1 (smL x)=Z (p.1,p.2,())/\lc x.1 (smL x)=Z (p.1,p.2,())/\p.1.length<=5000
def prE(P:Ln->Str×X):D->Y Ln->Except (D×X) (Y Str)
 |_,[]=>.ok []
 |i,x::r=>if(P x).2≠0 then .error (i+1,(P x).2) else match prE P (i+1) r with
  | .error e=>.error e
  | .ok l=>.ok ((P x).1::l)
def EA(out:Y Str):Except (D×X) (Y Str)->Y Str×X×X×Unit
 | .ok l=>(out++l,0,0,())
 | .error x=>([],(x.1:X),x.2,())
def outT(out:Str):Except (D×X) (Y Str)->Str×X×X×Unit
 | .ok l=>(out++(l.map (·++[10])).flatten,0,0,())
 | .error x=>([],(x.1:X),x.2,())
section
variable{P:Ln->Str×X}{l:Y Ln}(hl:l.length<=4096)
 (hP:∀x∈l,fG x.1 (smL x)=Z ((P x).1,(P x).2,())/\lc x.1 (smL x)=Z ((P x).1,(P x).2,())/\(P x).1.length<=5000)
include hl hP
theorem ED(n:D):∀(m i:D) (out:Y Str),i<=l.length->l.length-i<m->out.length=i ->
  Zcx.l5 n m out l (l.length:X) (i:X)=Z (EA out (prE P i (l.drop i))):=by
 intro m
 induction m with
 |zero=>intro i out _ h;omega
 |succ m ih=>
  intro i out hi hm ho;rw[Zcx.l5];simp only[dt,NM];by_cases h:i<l.length
  ·have hd:l.drop i=l.getD i zL::l.drop (i+1):=by
    rw[Oe h,NN,NQ h];rfl
   have hg:l.getD i zL∈l:=by rw[NN,NQ h];exact Oo h
   have W1:zaa.wrap ((i:X)+1)=((i+1:D):X):=by rw[w64 (by omega)];omega
   have hx:=(hP _ hg).1;generalize l.getD i zL=x at hd hx⊢;have hp1:Zec.g x.1 x.2.1.1 x.2.1.2.1 x.2.1.2.2.1 x.2.1.2.2.2.1 x.2.1.2.2.2.2.1 x.2.1.2.2.2.2.2.1 x.2.1.2.2.2.2.2.2.1 x.2.1.2.2.2.2.2.2.2.1=Z ((P x).1,(P x).2,()):=by
    unfold Zec.g Zec.f;rw[show Zaf.g x.1 x.2.1.1 x.2.1.2.1 x.2.1.2.2.1 x.2.1.2.2.2.1 x.2.1.2.2.2.2.1 x.2.1.2.2.2.2.2.1 x.2.1.2.2.2.2.2.2.1 x.2.1.2.2.2.2.2.2.2.1=Z ((P x).1,(P x).2,()) from hx,NE]
   rw[I (by omega),I (by omega),hp1,NE,hd,prE,W1];dsimp only;by_cases he:(P x).2≠0;·rw[I he,I he];rfl
   ·rw[S he,S he,I (by simp;omega),ih (i+1) _ (by omega) (by omega) (by simp[ho])];cases prE P (i+1) (l.drop (i+1)) with
    |error x=>rfl
    |ok r=>show Z (_++r,_)=Z (_++_,_);rw[NW];rfl
  ·obtain rfl:i=l.length:=by omega
   rw[S (by omega),OG,prE];simp[EA]
theorem yK(n:D):∀(m i:D) (out:Str),i<=l.length->l.length-i<m->out.length<=5001*i ->
  Zck.l5 n m l out (i:X)=Z (outT out (prE P i (l.drop i))):=by
 intro m
 induction m with
 |zero=>intro i out _ h;omega
 |succ m ih=>
  intro i out hi hm ho;rw[Zck.l5];simp only[dt,NM];by_cases h:i<l.length
  ·have hd:l.drop i=l.getD i zL::l.drop (i+1):=by
    rw[Oe h,NN,NQ h];rfl
   have hg:l.getD i zL∈l:=by rw[NN,NQ h];exact Oo h
   have W1:zaa.wrap ((i:X)+1)=((i+1:D):X):=by rw[w64 (by omega)];omega
   obtain⟨_,hx,hx5⟩:=hP _ hg;generalize l.getD i zL=x at hd hx hx5⊢;have hp1:Zao.g x.1 x.2.1.1 x.2.1.2.1 x.2.1.2.2.1 x.2.1.2.2.2.1 x.2.1.2.2.2.2.1 x.2.1.2.2.2.2.2.1 x.2.1.2.2.2.2.2.2.1 x.2.1.2.2.2.2.2.2.2.1=Z ((P x).1,(P x).2,()):=hx;rw[I (by omega),I (by omega),I (by omega),hp1,NE,hd,prE,W1];dsimp only;by_cases he:(P x).2≠0;·rw[I he,I he];rfl
   ·rw[S he,S he,I (by omega),I (by simp;omega),ih (i+1) _ (by omega) (by omega) (by simp;omega)];cases prE P (i+1) (l.drop (i+1)) with
    |error x=>rfl
    |ok r=>show Z (_++_,_)=Z (_++_,_);simp
  ·obtain rfl:i=l.length:=by omega
   rw[S (by omega),OG,prE];simp[outT]
end
theorem Dc{P:Ln->Str×X}:∀(l:Y Ln) (i:D) (r:Y Str),(∀x∈l,(P x).1.length<=5000)->prE P i l=.ok r->r.length=l.length/\((r.map (·++[10])).flatten).length<=5001*l.length
 |[],i,r,_,h=>by rw[prE] at h;cases h;simp
 |x::l,i,r,hx,h=>by
  rw[prE] at h;split at h;·cases h
  ·cases hr:prE P (i+1) l with
   |error e=>rw[hr] at h;cases h
   |ok q=>
    rw[hr] at h;cases h;obtain⟨h1,h2⟩:=Dc l (i+1) q (λy hy=>hx y (NU _ hy)) hr;have:=hx x (OB ..);refine⟨by simp[h1],?_⟩;rw[NY,List.flatten_cons,NP,NP,List.length_singleton,N7];omega
theorem G7:∀(l:Y Str),L.sjoinR [10] (l++[[]])=(l.map (·++[10])).flatten
 |[]=>rfl
 |x::l=>by
  have ih:∀m:Y Str,((m++[[]]).map (([10]:Str)++·)).flatten=[10]++(m.map (·++[10])).flatten:=by
   intro m
   induction m with
   |nil=>rfl
   |cons y m ih=>rw[List.cons_append,NY,List.flatten_cons,ih,NY,List.flatten_cons];simp
  show x++((l++[[]]).map (([10]:Str)++·)).flatten=(x++[10])++(l.map (·++[10])).flatten;rw[ih];simp
theorem Db{P:Ln->Str×X}:∀(l:Y Ln) (i:D) (e:D×X),prE P i l=.error e->e.2≠0
 |[],i,r,h=>by rw[prE] at h;cases h
 |x::l,i,r,h=>by
  rw[prE] at h;split at h;·rename_i g;cases h;exact g
  ·cases hr:prE P (i+1) l with
   |error e=>rw[hr] at h;cases h;exact Db l _ _ hr
   |ok q=>rw[hr] at h;cases h
theorem BZ(l:Y Ln)(hl:l.length<=4096)(h:∀x∈l,ET x):∃r,Zed.g l=Z r/\Zck.g l=Z r:=by
 have hP:∃P:Ln->Str×X,∀x∈l,fG x.1 (smL x)=Z ((P x).1,(P x).2,())/\lc x.1 (smL x)=Z ((P x).1,(P x).2,())/\(P x).1.length<=5000:=
  ⟨λx=>(((fG x.1 (smL x)).getD ([],0,())).1,((fG x.1 (smL x)).getD ([],0,())).2.1),λx hx=>by
   obtain⟨p,h1,h2,h3⟩:=h x hx;show fG x.1 (smL x)=Z (((fG x.1 (smL x)).getD ([],0,())).1,((fG x.1 (smL x)).getD ([],0,())).2.1,())/\lc x.1 (smL x)=Z (((fG x.1 (smL x)).getD ([],0,())).1,((fG x.1 (smL x)).getD ([],0,())).2.1,())/\(((fG x.1 (smL x)).getD ([],0,())).1).length<=5000;rw[h1];exact⟨rfl,h2,h3⟩⟩
 obtain⟨P,hP⟩:=hP;have h1:=ED hl hP (1000+l.length) (1000+l.length) 0 [] (by omega) (by omega) rfl;have h2:=yK hl hP (1000+l.length) (1000+l.length) 0 [] (by omega) (by omega) (by simp);rw[show((0:D):X)=0 from rfl,Om] at h1 h2;refine⟨outT [] (prE P 0 l),?_,?_⟩
 ·unfold Zed.g Zed.f Zcx.g Zcx.f;rw[S (by simp;omega),h1,NE];cases hr:prE P 0 l with
  |error e=>
   have:=Db _ _ _ hr;unfold EA outT;dsimp only;rw[I (by simpa using this)]
  |ok r=>
   obtain⟨g1,g2⟩:=Dc l 0 r (λx hx=>(hP x hx).2.2) hr;have hm:5001*l.length<=5001*4096:=Nat.mul_le_mul_left _ hl;unfold EA outT;dsimp only;rw[S (show ¬F ((0:X)≠0)=G by decide),I (by simp;omega)];unfold L.sjoinO;rw[Oc,G7,I ⟨by omega,by simp;omega⟩,NE,Oc]
 ·unfold Zck.g Zck.f;rw[S (by simp;omega),h2]
end Rv
namespace Rv
open Go
theorem Dq:Zdi.g=Z (G,()):=by decide +kernel
end Rv
namespace Rv
open Go
def qF(c:Y Sym):Y Sym:=(c.take 12).map λz=>(z.1.take 20,z.2.1,())
theorem MZ(a b:Y X)(c:Y Sym)(ha:a.length<=9223372036854775807)(hb:b.length<=9223372036854775807)(hc:∀z∈c,z.1.length<=9223372036854775807):Zbf.g a b c=Z (a.take 30,b.take 30,qF c,()):=by
 unfold Zbf.g Zbf.f;have m30:∀l:Y X,l.length<=9223372036854775807->mn (l.length:X) 30=((min l.length 30:D):X):=λl _=>by unfold mn;split<;>omega
 have t30:∀l:Y X,(l.take (min l.length 30)).drop 0=l.take 30:=λl=>by
  rw[Om,List.take_eq_take_iff];omega
 rw[m30 a ha,m30 b hb,I ⟨by omega,by omega⟩,I ⟨by omega,by omega⟩,NM,NM,t30,t30];generalize hn:1000+a.length+b.length+c.length=n;have loop:∀(m i:D) (o:Y Sym),i<=12->12-i<m->o=((c.take i).map λz=>(z.1.take 20,z.2.1,()))->Zbf.l3 n m (i:X) a b c [] [] [] (a.take 30) (b.take 30) o=Z (a.take 30,b.take 30,qF c,()):=by
  intro m
  induction m with
  |zero=>intro i o _ h;omega
  |succ m ih=>
   intro i o hi hm ho;have fin:(c.take i=c.take 12)->Zbf.j8 n [] [] [] (a.take 30) (b.take 30) o=Z (a.take 30,b.take 30,qF c,()):=λh=>by
    unfold Zbf.j8 qF;rw[ho,h]
   rw[Zbf.l3];by_cases h1:i<c.length
   ·rw[I (by simpa using h1)];by_cases h2:i<12
    ·have hz:(c.getD i zSy).1.length<=9223372036854775807:=hc _ (yT h1);have hol:o.length<=12:=by rw[ho];simp;omega
     have htk:c.take (i+1)=c.take i++[c.getD i zSy]:=by
      rw[List.take_succ,NN,NQ h1];rfl
     rw[I (by simp;omega),I ⟨by omega,by omega⟩,NM];generalize c.getD i zSy=z at hz htk⊢;have hmn:mn (z.1.length:X) 20=((min z.1.length 20:D):X):=by unfold mn;split<;>omega
     have ht:(z.1.take (min z.1.length 20)).drop 0=z.1.take 20:=by rw[Om,List.take_eq_take_iff];omega
     rw[hmn,I ⟨by omega,by omega⟩,NM,ht,I (by simp;omega),w64 (by omega)];exact ih (i+1) _ (by omega) (by omega) (by rw[htk,OA,ho];rfl)
    ·rw[S (by simp;omega)];obtain rfl:i=12:=by omega
     exact fin rfl
   ·rw[S (by simpa using h1)];exact fin (by rw[List.take_of_length_le (by omega),List.take_of_length_le (by omega)])
 exact loop n 0 [] (by omega) (by omega) (by simp)
theorem FB{ws ss:Y X}(h:oo ws ss)(ys:Y Sym)(i:X)(hi:-9223372036854775808<=i/\i<=9223372036854775807):∃x:Sm,Zal.g ws ss ys i=Z (x.k,x.o,x.a,x.b,x.c,x.u,x.e,x.nm,())/\Zam.g ws ss ys i=Z (x.k,x.o,x.a,x.b,x.c,x.u,x.e,x.nm,())/\x.e.length<=1000:=by
 have hw:=h.w;have zero:Zal.g ws ss ys i=Z (stN 0 [])->Zam.g ws ss ys i=Z (stN 0 [])->∃x:Sm,Zal.g ws ss ys i=Z (x.k,x.o,x.a,x.b,x.c,x.u,x.e,x.nm,())/\Zam.g ws ss ys i=Z (x.k,x.o,x.a,x.b,x.c,x.u,x.e,x.nm,())/\x.e.length<=1000:=
  λh1 h2=>⟨⟨0,0,0,0,0,zab,[],[]⟩,h1,h2,Nat.zero_le _⟩
 by_cases h0:i<0
 ·refine zero ?_ ?_
  ·unfold Zal.g Zal.f;rw[S (by simpa using h0)];rfl
  ·unfold Zam.g Zam.f;rw[S (by simpa using h0)];rfl
 ·by_cases h1:(ws.length:X)<=i
  ·refine zero ?_ ?_
   ·unfold Zal.g Zal.f;rw[I (by simpa using h0),I (by simpa using h1)];rfl
   ·unfold Zam.g Zam.f;rw[I (by simpa using h0),I (by simpa using h1)];rfl
  ·obtain⟨k,rfl⟩:∃k:D,i=(k:X):=⟨i.toNat,by omega⟩
   obtain⟨x1,x2,x3,x4,x5,x6,x7,x8,hx⟩:∃x1 x2 x3 x4 x5 x6 x7 x8,jm ws ss k=(x1,x2,x3,x4,x5,x6,x7,x8,()):=⟨_,_,_,_,_,_,_,_,rfl⟩
   have hl:(jm ws ss k).2.2.2.2.2.2.1.length<=1000:=by
    have n1:=λv=>(uq v).2
    unfold jm;split;·simp[stN]
    ·split
     ·split
      ·simp[stN,nmE]
      ·have:=n1 (ws.getD k 0);simp only[stN,nmE,NP,N7,Ol];omega
     ·dsimp only;split
      ·have:=n1 (ws.getD k 0);simp only[stN];omega
      ·split
       ·split
        ·simp[nmE]
        ·have:=n1 (ws.getD k 0);simp only[stN];omega
       ·dsimp only;split
        ·have:=n1 (fT (ws.getD k 0)).2.2.2.2.2.1;omega
        ·simp
   rw[hx] at hl;exact⟨⟨x1,x2,x3,x4,x5,x6,x7,x8⟩,by rw[zy h ys k (by omega),hx],by rw[xq h ys k (by omega),hx],hl⟩
theorem FY(g:GLn)(hs:g.tx.length<=98):ET g.ln:=
 ⟨(g.tx,0),EC g.hg g.hl,Cg g.hg (by have:=KV g.hg;omega) g.hl,by show g.tx.length<=5000;omega⟩
theorem dall_wf{a b:Y X}{c:Y Sym}{i:X}(h:(a.length<=maxLen/\∀x∈a,(Lit.int .u32 x).wf=G)/\(b.length<=maxLen/\∀x∈b,(Lit.int .i64 x).wf=G)/\(c.length<=maxLen/\∀z∈c,z.1.length<=140737488351232/\(Lit.int .i64 z.2.1).wf=G/\True))(hi:(Lit.int .i64 i).wf=G):rivetlaw23_DisasmAll.g a b c i=Z (G,()):=by
 obtain⟨⟨h1,h2⟩,⟨h3,h4⟩,h5,h6⟩:=h;have hi:=Ni hi;unfold rivetlaw23_DisasmAll.g;generalize hN:1000+a.length+b.length+c.length+i.toNat=n;unfold rivetlaw23_DisasmAll.f;rw[Dq,NE,MZ a b c (Km h1) (Km h3) (λz hz=>Og (h6 z hz).1 (by decide)),NE];dsimp only;have hwl:(a.take 30).length<=30:=by simp;omega
 have hsl:(b.take 30).length<=30:=by simp;omega
 have hyl:(qF c).length<=12:=by simp[qF];omega
 have hyn:∀z∈qF c,z.1.length<=20:=λz hz=>by
  obtain⟨y,_,rfl⟩:=N8.1 hz;simp;omega
 have hr:∀x∈a.take 30,0<=x/\x<=4294967295:=λx hx=>Nj (h2 x (List.mem_of_mem_take hx))
 generalize a.take 30=ws at hwl hr;generalize b.take 30=ss at hsl;generalize qF c=ys at hyl hyn;have hW:oo ws ss:=⟨by omega,by omega,hr⟩
 obtain⟨e,m1,m2⟩:=CL (ws:=ws) (ss:=ss) (ys:=ys) (by omega) (by omega) (by omega) hr;obtain⟨f,m3,m4⟩:=AO (ws:=ws) (ss:=ss) (ys:=ys) (by omega) (by omega) (by omega) hr λz hz=>by have:=hyn z hz;omega
 obtain rfl:=m4.uniq m2;have hlines:∃(l:Y Ln) (e:X),Zcm.g ws ss ys=Z (l,e,())/\Zac.g ws ss ys=Z (l,e,())/\l.length<=4096/\(∀x∈l,Bb x)/\(e=0->∀x∈l,ET x):=by
  by_cases h0:f=0
  ·have O:=m2.okO h0 hr;have hll:=zV O;refine⟨qO ws ss ys,0,FI O,EL O (λz hz=>by have:=hyn z hz;omega) (by omega),by omega,λx hx=>?_,λ_ x hx=>?_⟩
   ·obtain⟨g,rfl,_,_⟩:=yj O x hx;exact(mq g.hg).1
   ·obtain⟨g,rfl,_,g3⟩:=yj O x hx;exact FY g g3
  ·refine⟨[],f,?_,?_,Nat.zero_le _,λx hx=>(by cases hx),λh=>absurd h h0⟩
   ·unfold Zcm.g L.linesO;rw[m1];dsimp only;rw[S h0]
   ·unfold Zac.g Zac.f;rw[m3,NE];dsimp only;rw[I (by simpa using h0)]
 obtain⟨l,e,l1,l2,l3,l4,l5⟩:=hlines;have hsrc:∃(s:Str) (k:X),Zcy.g ws ss ys=Z (s,k,())/\Zdo.g ws ss ys=Z (s,k,()):=by
  unfold Zcy.g Zcy.f Zdo.g Zdo.f;rw[l1,l2,NE,NE];dsimp only;by_cases h0:e=0;·obtain⟨r,r1,r2⟩:=BZ l l3 (l5 h0);rw[S (by simpa using h0),S (by simpa using h0),r1,r2];exact⟨r.1,r.2.2.1,rfl,rfl⟩
  ·rw[I (by simpa using h0),I (by simpa using h0)];exact⟨[],e,rfl,rfl⟩
 obtain⟨s,k,s1,s2⟩:=hsrc;rw[l1,NE,l2,NE,s1,NE,s2,NE];dsimp only;have line:∀j:X,(-9223372036854775808<=j/\j<=9223372036854775807)->∃x:Sm,Zal.g ws ss ys j=Z (x.k,x.o,x.a,x.b,x.c,x.u,x.e,x.nm,())/\Zam.g ws ss ys j=Z (x.k,x.o,x.a,x.b,x.c,x.u,x.e,x.nm,())/\Zcb.g x.k x.o x.a x.b x.c x.u x.e x.nm x.k x.o x.a x.b x.c x.u x.e x.nm=Z (G,()):=λj hj=>by
  obtain⟨x,x1,x2,x3⟩:=FB hW ys j hj;exact⟨x,x1,x2,yf x x3⟩
 have hsame:=Ci l (by omega) l4;have loop:∀(sh:H (zac×Unit)) (m d:D),d<=ws.length+2->ws.length+2-d<m->rivetlaw23_DisasmAll.l8 sh n m i G l e l e s k s k ((d:X)-1) ws ss ys=Z (G,()):=by
  intro sh m
  induction m with
  |zero=>intro d _ h;omega
  |succ m ih=>
   intro d hd h;rw[rivetlaw23_DisasmAll.l8];by_cases hle:(d:X)-1<=(ws.length:X);·obtain⟨x,x1,x2,x3⟩:=line ((d:X)-1) (by omega);rw[I (by simpa using hle),x1,NE,x2,NE];dsimp only;rw[x3,NE];dsimp only;rw[S (by simp),w64 (by omega),show(d:X)-1+1=((d+1:D):X)-1 by omega];exact ih (d+1) (by omega) (by omega)
   ·obtain⟨x,x1,x2,x3⟩:=line i hi;rw[S (by simpa using hle),I rfl,hsame,NE];dsimp only;rw[I rfl,I (by simp),I (by simp),I (by simp),x1,NE,x2,NE];dsimp only;rw[x3,NE]
 have:=loop Zdi.g n 0 (by omega) (by omega);rw[Dq] at this;exact this
end Rv
