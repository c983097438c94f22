/- Texts put together. -/
import Derived.Test.YtfhnodllolpjgaaGreatDoorM2
import Derived.Test.YtfhnodllolpjgaaGreatDoorG1
import Derived.Test.YtfhnodllolpjgaaGreatDoorM1
set_option linter.all false
namespace Rv
open Go
abbrev dIt:Item:=((0:Int),((0:Int),(([]:Str),())))
theorem sN(s:Str)(hs:s.length<=1000000)(k lv:Nat):Zba.g s (k:Int) (lv:Int)=some (brkT (decide (k<lv)) s,()):=by
 unfold Zba.g Zba.f brkT;by_cases h:k<lv;·rw[if_pos (by simp;omega),if_pos (by simp;omega),if_pos (by simp;omega),if_pos (by simpa using h)];simp
 ·rw[if_neg (by simp;omega),if_neg (by simpa using h)]
theorem OB(n:Int)(h:0<=n/\n<=4294967295):Zdc.g (IntKind.u64.wrap n) 10=some (Lib.itoa n,()):=by
 rw[wB (by omega)];unfold Zdc.g Zdc.f L.formatUintO;rw[if_pos ⟨rfl,h.1,by omega⟩];rfl
def parts(st:List Tr):List (Str×Int×Unit):=st.map fun t=>(t.txt,(t.tight:Int),())
theorem eu(st:List Tr):(parts st).length=st.length:=by simp[parts]
theorem fu(a b:List Tr):parts (a++b)=parts a++parts b:=by simp[parts]
theorem Au{e:List Item}{i:Nat}{x:Item}{r:List Item}(h:e.drop i=x::r):i<e.length/\e.getD i dIt=x/\e.drop (i+1)=r:=by
 have hi:i<e.length:=by
  apply Classical.byContradiction;intro hn;rw[List.drop_eq_nil_of_le (by omega)] at h;cases h
 have hd:e.drop i=e.getD i dIt::e.drop (i+1):=by
  rw[P5 hi,PM,PI hi];rfl
 rw[hd,List.cons.injEq] at h;exact⟨hi,h.1,h.2⟩
theorem wY(n:Nat)(rl)(st on:List Tr)(e:List Item)(i:Nat)(he:e.length<=1000)(hi:i<e.length)(s:Str)(k:Int)(hst:st.length+on.length<=1000) :
  Zae.j23 n rl (parts (st++on)) (on.length:Int) e (e.length:Int) (i:Int) s k=rl (parts st++[(s,k,())]) e (e.length:Int) ((i+1:Nat):Int):=by
 unfold Zae.j23;have hl:(parts (st++on)).length=st.length+on.length:=by rw[eu];simp
 have hw:IntKind.i64.wrap (((parts (st++on)).length:Int)-(on.length:Int))=(st.length:Int):=by rw[hl,w64 (by omega)];omega
 have ht:(parts (st++on)).take st.length=parts st:=by
  rw[fu];exact List.take_left' (eu st)
 rw[hw,hl,if_pos (by omega),PN,ht,if_pos (by rw[eu];simp;omega),w64 (by omega)];rfl
theorem nG(e:List Item)(he:e.length<=1000)(n:Nat):∀t:Tr,t.ok->t.plain->∀(st:List Tr) (m i:Nat) (rest:List Item),st.length+t.post.length<=1000->e.drop i=t.post++rest ->
  Zae.l5 n (m+t.post.length) (parts st) e (e.length:Int) (i:Int)=Zae.l5 n m (parts (st++[t])) e (e.length:Int) ((i+t.post.length:Nat):Int)
 | .num v,ho,hp,st,m,i,rest,hst,hd=>by
  obtain⟨h1,h2,_⟩:=Au (x:=(1,v,[],())) (r:=rest) hd;show Zae.l5 n (m+1) (parts st) e (e.length:Int) (i:Int)=_;rw[Zae.l5];simp only[dt,PN];rw[if_pos (by omega),if_pos (by omega),h2];dsimp only;rw[mK,Pn];have e0:(aC (1,v,[],())).1=0:=rfl;dsimp only;rw[e0,if_pos (by rw[eu,w64 (by simp[Tr.post] at hst;omega)];omega),if_pos rfl,OB v ho,Pn];have:=wY n (Zae.l5 n m) st [] e i he h1 (Lib.itoa v) 2 (by simp[Tr.post] at hst⊢;omega);rw[P8] at this;rw[show((0:Int))=(([]:List Tr).length:Int) from rfl,this,fu];rfl
 | .nam s,ho,hp,st,m,i,rest,hst,hd=>by
  obtain⟨h1,h2,_⟩:=Au (x:=(2,0,s,())) (r:=rest) hd;show Zae.l5 n (m+1) (parts st) e (e.length:Int) (i:Int)=_;rw[Zae.l5];simp only[dt,PN];rw[if_pos (by omega),if_pos (by omega),h2];dsimp only;rw[mK,Pn];have e0:(aC (2,0,s,())).1=0:=rfl;dsimp only;rw[e0,if_pos (by rw[eu,w64 (by simp[Tr.post] at hst;omega)];omega),if_neg (show ¬(2:Int)=1 by decide),if_pos rfl];have:=wY n (Zae.l5 n m) st [] e i he h1 s 2 (by simp[Tr.post] at hst⊢;omega);rw[P8] at this;rw[show((0:Int))=(([]:List Tr).length:Int) from rfl,this,fu];rfl
 | .neg x,ho,hp,st,m,i,rest,hst,hd=>by
  have hP:(Tr.neg x).post=x.post++[(3,0,[],())]:=rfl;rw[hP,Pz] at hd;rw[hP] at hst⊢;simp only[Pt,PG,P6] at hst⊢;have hx:=nG e he n x ho hp st (m+1) i ((3,0,[],())::rest) (by omega) hd;rw[show m+(x.post.length+(0+1))=m+1+x.post.length by omega,hx];have hd2:e.drop (i+x.post.length)=(3,0,[],())::rest:=by
   rw[<- List.drop_drop,hd];exact List.drop_left' rfl
  obtain⟨h1,h2,_⟩:=Au hd2;have hl:=gu x ho hp;rw[Zae.l5];simp only[dt,PN];rw[if_pos (by omega),if_pos (by omega),h2];dsimp only;rw[mK,Pn];have e0:(aC (3,0,[],())).1=1:=rfl;have hpl:(parts (st++[x])).length=st.length+1:=by rw[eu];simp
  have hw:IntKind.i64.wrap (((parts (st++[x])).length:Int)-1)=(st.length:Int):=by rw[hpl,w64 (by omega)];omega
  have hon:((parts (st++[x])).take (parts (st++[x])).length).drop st.length=[(x.txt,(x.tight:Int),())]:=by
   rw[List.take_length,fu];exact List.drop_left' (eu st)
  dsimp only;rw[e0,hw,if_pos (by rw[hpl];omega),if_neg (show ¬(3:Int)=1 by decide),if_neg (show ¬(3:Int)=2 by decide),if_pos rfl];simp only[PN,hon];rw[if_pos (by simp),show([(x.txt,(x.tight:Int),())]:List (Str×Int×Unit)).getD (0:Int).toNat (([]:Str),((0:Int),()))=(x.txt,(x.tight:Int),()) from rfl];dsimp only;rw[show(2:Int)=((2:Nat):Int) from rfl,sN x.txt (by omega),Pn];dsimp only;have hb:=iD (decide (x.tight<2)) x.txt;rw[if_pos (by simp;omega)];have:=wY n (Zae.l5 n m) st [x] e (i+x.post.length) he h1 ([45]++brkT (decide (x.tight<2)) x.txt) 2 (by simp;omega);rw[show(1:Int)=(([x]:List Tr).length:Int) from rfl,show((2:Nat):Int)=2 from rfl,this,fu];rfl
 | .br x,_,hp,_,_,_,_,_,_=>hp.elim
 | .bin o a b,ho,hp,st,m,i,rest,hst,hd=>by
  have hP:(Tr.bin o a b).post=a.post++b.post++[(o.kind,0,[],())]:=rfl;rw[hP,Pz,Pz] at hd;rw[hP] at hst⊢;simp only[Pt,PG,P6] at hst⊢;have hxa:=nG e he n a ho.1 hp.1 st (m+1+b.post.length) i (b.post++((o.kind,0,[],())::rest)) (by omega) hd;have hd2:e.drop (i+a.post.length)=b.post++((o.kind,0,[],())::rest):=by
   rw[<- List.drop_drop,hd];exact List.drop_left' rfl
  have hxb:=nG e he n b ho.2 hp.2 (st++[a]) (m+1) (i+a.post.length) ((o.kind,0,[],())::rest) (by simp;omega) hd2;rw[show m+(a.post.length+b.post.length+(0+1))=m+1+b.post.length+a.post.length by omega,hxa,hxb];have hd3:e.drop (i+a.post.length+b.post.length)=(o.kind,0,[],())::rest:=by
   rw[<- List.drop_drop,hd2];exact List.drop_left' rfl
  obtain⟨h1,h2,_⟩:=Au hd3;have hla:=gu a ho.1 hp.1;have hlb:=gu b ho.2 hp.2;rw[Zae.l5];simp only[dt,PN];rw[if_pos (by omega),if_pos (by omega),h2];dsimp only;rw[mK,Pn];have e0:(aC (o.kind,0,[],())).1=2:=by cases o<;>rfl
  have hpl:(parts (st++[a]++[b])).length=st.length+2:=by rw[eu];simp
  have hw:IntKind.i64.wrap (((parts (st++[a]++[b])).length:Int)-2)=(st.length:Int):=by rw[hpl,w64 (by omega)];omega
  have hon:((parts (st++[a]++[b])).take (parts (st++[a]++[b])).length).drop st.length=[(a.txt,(a.tight:Int),()),(b.txt,(b.tight:Int),())]:=by
   rw[List.take_length,Pz,fu];exact List.drop_left' (eu st)
  dsimp only;rw[e0,hw,if_pos (by rw[hpl];omega),if_neg (show ¬o.kind=1 by cases o<;>decide),if_neg (show ¬o.kind=2 by cases o<;>decide),if_neg (show ¬o.kind=3 by cases o<;>decide)];simp only[PN,hon];have g0:([(a.txt,(a.tight:Int),()),(b.txt,(b.tight:Int),())]:List (Str×Int×Unit)).getD (0:Int).toNat (([]:Str),((0:Int),()))=(a.txt,(a.tight:Int),()):=rfl;have g1:([(a.txt,(a.tight:Int),()),(b.txt,(b.tight:Int),())]:List (Str×Int×Unit)).getD (1:Int).toNat (([]:Str),((0:Int),()))=(b.txt,(b.tight:Int),()):=rfl;simp only[g0,g1];have hb0:=iD (decide (a.tight<0)) a.txt;have hb1:=iD (decide (a.tight<1)) a.txt;have hc1:=iD (decide (b.tight<1)) b.txt;have hc2:=iD (decide (b.tight<2)) b.txt;have t0:Zba.g a.txt (a.tight:Int) (0:Int)=some (brkT (decide (a.tight<0)) a.txt,()):=sN a.txt (by omega) a.tight 0;have t1:Zba.g a.txt (a.tight:Int) (1:Int)=some (brkT (decide (a.tight<1)) a.txt,()):=sN a.txt (by omega) a.tight 1;have u1:Zba.g b.txt (b.tight:Int) (1:Int)=some (brkT (decide (b.tight<1)) b.txt,()):=sN b.txt (by omega) b.tight 1;have u2:Zba.g b.txt (b.tight:Int) (2:Int)=some (brkT (decide (b.tight<2)) b.txt,()):=sN b.txt (by omega) b.tight 2;have fin:=fun s k=>wY n (Zae.l5 n m) st [a,b] e (i+a.post.length+b.post.length) he h1 s k (by have:=Tr.post_pos a;have:=Tr.post_pos b;simp only[PG,P6];omega)
  have hab:st++[a]++[b]=st++[a,b]:=by simp
  rw[hab];cases o with
  |add=>
   rw[if_pos (show Opr.add.kind=4 from rfl),if_pos (by simp),t0,Pn];dsimp only[Opr.tight];rw[if_pos (by simp only[Pt,PG,P6];omega),if_pos (by simp),u1,Pn];dsimp only;rw[if_pos (by simp only[Pt,PG,P6];omega),show(2:Int)=(([a,b]:List Tr).length:Int) from rfl,fin,fu,Pz,show i+a.post.length+b.post.length+1=i+(a.post.length+b.post.length+(0+1)) by omega];rfl
  |sub=>
   rw[if_neg (show ¬Opr.sub.kind=4 by decide),if_pos (show Opr.sub.kind=5 from rfl),if_pos (by simp),t0,Pn];dsimp only[Opr.tight];rw[if_pos (by simp only[Pt,PG,P6];omega),if_pos (by simp),u1,Pn];dsimp only;rw[if_pos (by simp only[Pt,PG,P6];omega),show(2:Int)=(([a,b]:List Tr).length:Int) from rfl,fin,fu,Pz,show i+a.post.length+b.post.length+1=i+(a.post.length+b.post.length+(0+1)) by omega];rfl
  |mul=>
   rw[if_neg (show ¬Opr.mul.kind=4 by decide),if_neg (show ¬Opr.mul.kind=5 by decide),if_pos (show Opr.mul.kind=6 from rfl),if_pos (by simp),t1,Pn];dsimp only[Opr.tight];rw[if_pos (by simp only[Pt,PG,P6];omega),if_pos (by simp),u2,Pn];dsimp only;rw[if_pos (by simp only[Pt,PG,P6];omega),show(2:Int)=(([a,b]:List Tr).length:Int) from rfl,fin,fu,Pz,show i+a.post.length+b.post.length+1=i+(a.post.length+b.post.length+(0+1)) by omega];rfl
theorem GG{t:Tr}(ho:t.ok)(hp:t.plain)(hw:gM t.post)(hl:t.post.length<=64):Zae.g t.post=some (t.txt,0,()):=by
 unfold Zae.g Zae.f;rw[yJ t.post (by omega),EC hw hl,Pn];dsimp only;rw[if_neg (show ¬(!true)=true by decide)];obtain⟨N,hN⟩:∃N,1000+t.post.length=N+1+t.post.length:=⟨999,by omega⟩
 rw[hN];have:=nG t.post (by omega) (N+1+t.post.length) t ho hp [] (N+1) 0 [] (by simp;omega) (by simp);rw[show parts []=[] from rfl,show((0:Nat):Int)=0 from rfl] at this;rw[this,Zae.l5];simp only[dt];rw[if_neg (by omega),if_pos (by rw[eu];simp)];rfl
end Rv
namespace Rv
open Go
abbrev R:=af
abbrev aL:ai:=((0:Int),((0:Int),(([]:Str),((0:Int),()))))
theorem lX(l:List ai)(p:Nat)(out:List Item)(hp:p<l.length):Zbb.g l p out 0=some ((l.getD p aL).1,(l.getD p aL).2.1,(l.getD p aL).2.2.1,(l.getD p aL).2.2.2.1,true,l,(p:Int),out,0,()):=by
 unfold Zbb.g Zbb.f;simp only[df,dt];rw[if_pos (by simp),if_pos (by omega),if_neg (by omega),if_pos (by omega),PN]
theorem vQ(l:List ai)(p:Nat)(out:List Item)(hp:l.length<=p):Zbb.g l p out 0=some (0,0,[],0,false,l,(p:Int),out,0,()):=by
 unfold Zbb.g Zbb.f;simp only[df,dt];rw[if_pos (by simp),if_pos (by omega),if_pos (by omega)]
theorem Kj(l:List ai)(p:Int)(out:List Item)(e:Int)(he:e≠0):Zbb.g l p out e=some (0,0,[],0,false,l,p,out,e,()):=by
 unfold Zbb.g Zbb.f;simp only[df];rw[if_neg (by simpa using he)]
theorem jC(n:Nat)(all:List Str)(hall:all.length<=100)(ok:Bool)(l:List ai)(p:Int)(out:List Item)(e k a:Int)(tx:Str)(nn:Int):∀(m i:Nat),i<=all.length->all.length-i<m ->
  Zaf.l3 n m ok all (all.length:Int) (i:Int) l p out e k a tx nn=if ok=true/\k=3/\tx∈all.drop i then some (tx,true,l,IntKind.i64.wrap (p+1),out,e,()) else some ([],false,l,p,out,e,()):=by
 intro m
 induction m with
 |zero=>intro i _ h;omega
 |succ m ih=>
  intro i hi hm;rw[Zaf.l3];simp only[dt,Zaf.j8,PN];by_cases h:i<all.length
  ·have hd:all.drop i=all.getD i []::all.drop (i+1):=by
    rw[P5 h,PM,PI h];rfl
   have hih:=ih (i+1) (by omega) (by omega);rw[if_pos (by omega),if_pos (by omega),w64 (x:=(i:Int)+1) (by omega),show(i:Int)+1=((i+1:Nat):Int) by omega,hih,hd];generalize all.getD i []=s;by_cases h1:ok=true
   ·rw[if_pos h1];by_cases h2:k=3
    ·rw[if_pos h2];by_cases h3:tx=s
     ·rw[if_pos h3,if_pos ⟨h1,h2,by simp[h3]⟩,h3]
     ·rw[if_neg h3];by_cases h4:tx∈all.drop (i+1)
      ·rw[if_pos ⟨h1,h2,h4⟩,if_pos ⟨h1,h2,by simp[h4]⟩]
      ·rw[if_neg (fun h=>h4 h.2.2),if_neg (fun h=>by simp[h3,h4] at h)]
    ·rw[if_neg h2,if_neg (fun h=>h2 h.2.1),if_neg (fun h=>h2 h.2.1)]
   ·rw[if_neg h1,if_neg (fun h=>h1 h.1),if_neg (fun h=>h1 h.1)]
  ·have:i=all.length:=by omega
   subst this;rw[if_neg (by omega),if_neg (fun h=>by simp at h)]
theorem qJ(all:List Str)(hall:all.length<=100)(l:List ai)(p:Int)(out:List Item)(e:Int)(he:e≠0):Zaf.g all l p out e=some ([],false,l,p,out,e,()):=by
 unfold Zaf.g Zaf.f;rw[Kj l p out e he,Pn];have:=jC (1000+all.length+l.length+p.toNat+out.length+e.toNat) all hall false l p out e 0 0 [] 0 (1000+all.length+l.length+p.toNat+out.length+e.toNat) 0 (by omega) (by omega);rw[if_neg (fun h=>by cases h.1)] at this;exact this
def At(l:List ai)(p:Nat)(k:List Bt):Prop:=(l.drop p).map bare=k
theorem At.cons{l:List ai}{p:Nat}{b:Bt}{k:List Bt}(h:At l p (b::k)):p<l.length/\bare (l.getD p aL)=b/\At l (p+1) k:=by
 unfold At at h;have hp:p<l.length:=by
  apply Classical.byContradiction;intro hn;rw[List.drop_eq_nil_of_le (by omega)] at h;cases h
 have hd:l.drop p=l.getD p aL::l.drop (p+1):=by
  rw[P5 hp,PM,PI hp];rfl
 rw[hd,PK,List.cons.injEq] at h;exact⟨hp,h.1,h.2⟩
theorem At.app{l:List ai}{k':List Bt}:∀{k:List Bt}{p:Nat},At l p (k++k')->At l (p+k.length) k'/\p+k.length<=l.length\/k=[]
 |[],_,_=>.inr rfl
 |b::k,p,h=>by
  obtain⟨h1,_,h3⟩:=At.cons h;rcases At.app h3 with⟨h4,h5⟩|rfl;·left;rw[PG,show p+(k.length+1)=p+1+k.length by omega];exact⟨h4,h5⟩
  ·left;exact⟨h3,by simp;omega⟩
theorem At.app'{l:List ai}{k k':List Bt}{p:Nat}(h:At l p (k++k')):At l (p+k.length) k':=by
 rcases At.app h with⟨h,_⟩|rfl;·exact h
 ·exact h
theorem At.len{l:List ai}{k k':List Bt}{p:Nat}(h:At l p (k++k'))(hk:k≠[]):p+k.length<=l.length:=by
 rcases At.app h with⟨_,h⟩|rfl;·exact h
 ·exact absurd rfl hk
def noS(all:List Str)(k:List Bt):Prop:=∀b r,k=b::r->¬(b.1=3/\b.2.1∈all)
theorem mU(all:List Str)(hall:all.length<=100){l:List ai}{p:Nat}{s:Str}{v:Int}{k:List Bt}(h:At l p ((3,s,v)::k))(hl:l.length<=1000000)(hs:s∈all)(out:List Item):Zaf.g all l p out 0=some (s,true,l,((p+1:Nat):Int),out,0,()):=by
 obtain⟨h1,h2,_⟩:=At.cons h;unfold Zaf.g Zaf.f;rw[lX l p out h1,Pn];simp only[bare,Pv] at h2;have:=jC (1000+all.length+l.length+(p:Int).toNat+out.length+(0:Int).toNat) all hall true l p out 0 (l.getD p aL).1 (l.getD p aL).2.1 (l.getD p aL).2.2.1 (l.getD p aL).2.2.2.1 (1000+all.length+l.length+(p:Int).toNat+out.length+(0:Int).toNat) 0 (by omega) (by omega);rw[if_pos ⟨rfl,h2.1,by rw[h2.2.1];simpa using hs⟩,h2.2.1,w64 (by omega)] at this;dsimp only;rw[h2.2.1];exact this
theorem uE(all:List Str)(hall:all.length<=100){l:List ai}{p:Nat}{k:List Bt}(h:At l p k)(hs:noS all k)(out:List Item):Zaf.g all l p out 0=some ([],false,l,(p:Int),out,0,()):=by
 unfold Zaf.g Zaf.f;cases k with
 |nil=>
  have hp:l.length<=p:=by
   unfold At at h;have:=congrArg List.length h;simp at this;omega
  rw[vQ l p out hp,Pn];have:=jC (1000+all.length+l.length+(p:Int).toNat+out.length+(0:Int).toNat) all hall false l p out 0 0 0 [] 0 (1000+all.length+l.length+(p:Int).toNat+out.length+(0:Int).toNat) 0 (by omega) (by omega);rw[if_neg (fun h=>by cases h.1)] at this;exact this
 |cons b r=>
  obtain⟨h1,h2,_⟩:=At.cons h;rw[lX l p out h1,Pn];have hb:=hs b r rfl;have:=jC (1000+all.length+l.length+(p:Int).toNat+out.length+(0:Int).toNat) all hall true l p out 0 (l.getD p aL).1 (l.getD p aL).2.1 (l.getD p aL).2.2.1 (l.getD p aL).2.2.2.1 (1000+all.length+l.length+(p:Int).toNat+out.length+(0:Int).toNat) 0 (by omega) (by omega);rw[if_neg (fun h=>hb (by rw[<- h2];exact⟨h.2.1,h.2.2⟩))] at this;exact this
theorem put_eq(a b:Int)(c:Str)(l:List ai)(p:Int)(out:List Item)(e:Int)(ho:out.length<=1000000):Zar.g a b c l p out e=some (l,p,out++[(a,b,c,())],e,()):=by
 unfold Zar.g Zar.f;rw[if_pos (by simp;omega)]
theorem oI(x:Int)(l:List ai)(p:Int)(out:List Item):Zax.g x l p out 0=some (l,p,out,x,()):=by
 unfold Zax.g Zax.f;rw[if_pos (by decide)]
abbrev dA:List Str:=[[42]]
abbrev dH:List Str:=[[43],[45]]
def okF(t:Tr):Prop:=∀(l:List ai) (p:Nat) (out:List Item) (rest:List Bt) (d q:Nat),l.length<=1000000->out.length+t.post.length<=1000000->At l p (t.toksA 2++rest)->d<=9->6*(9-d)+1<=q ->
 (d+t.depA 2<=8->(R q).expr_parser_factor (d:Int) l p out 0=some (l,((p+(t.toksA 2).length:Nat):Int),out++t.post,0,())) /\
 (¬d+t.depA 2<=8->∃(p':Int) (out':List Item),(R q).expr_parser_factor (d:Int) l p out 0=some (l,p',out',24,())/\out'.length<=out.length+t.post.length)
def mc:Tr->Nat
 | .bin .mul a _=>mc a+1
 |_=>0
def okT(t:Tr):Prop:=∀(l:List ai) (p:Nat) (out:List Item) (rest:List Bt) (d q m n:Nat),l.length<=1000000->out.length+t.post.length<=1000000->At l p (t.toksA 1++rest)->d<=9->6*(9-d)+2<=q->mc t<m ->
 (d+t.depA 1<=8->((R q).expr_parser_sum_1_1 (d:Int) l p out 0).bind (fun y1=>expr_parser_row_c257.l1 n (R q) m dA y1.2.2.1 y1.2.2.2.1 y1.2.2.2.2.1 y1.2.2.2.2.2.1 y1.2.1)=expr_parser_row_c257.l1 n (R q) (m-mc t) dA l ((p+(t.toksA 1).length:Nat):Int) (out++t.post) 0 (d:Int)) /\
 (¬d+t.depA 1<=8->∃(p':Int) (out':List Item),((R q).expr_parser_sum_1_1 (d:Int) l p out 0).bind (fun y1=>expr_parser_row_c257.l1 n (R q) m dA y1.2.2.1 y1.2.2.2.1 y1.2.2.2.2.1 y1.2.2.2.2.2.1 y1.2.1)=some (l,p',out',24,(),(d:Int),())/\out'.length<=out.length+t.post.length)
def ac:Tr->Nat
 | .bin .add a _=>ac a+1
 | .bin .sub a _=>ac a+1
 |_=>0
def okS(t:Tr):Prop:=∀(l:List ai) (p:Nat) (out:List Item) (rest:List Bt) (d q m n:Nat),l.length<=1000000->out.length+t.post.length<=1000000->At l p (t.toks++rest)->noS dA rest->d<=9->6*(9-d)+4<=q->ac t<m ->
 (d+t.dep<=8->((R q).expr_parser_sum_1 (d:Int) l p out 0).bind (fun y1=>expr_parser_row_c256.l1 n (R q) m dH y1.2.2.1 y1.2.2.2.1 y1.2.2.2.2.1 y1.2.2.2.2.2.1 y1.2.1)=expr_parser_row_c256.l1 n (R q) (m-ac t) dH l ((p+t.toks.length:Nat):Int) (out++t.post) 0 (d:Int)) /\
 (¬d+t.dep<=8->∃(p':Int) (out':List Item),((R q).expr_parser_sum_1 (d:Int) l p out 0).bind (fun y1=>expr_parser_row_c256.l1 n (R q) m dH y1.2.2.1 y1.2.2.2.1 y1.2.2.2.2.1 y1.2.2.2.2.2.1 y1.2.1)=some (l,p',out',24,(),(d:Int),())/\out'.length<=out.length+t.post.length)
theorem LA:∀t:Tr,mc t<=t.post.length
 | .num _=>Nat.zero_le _
 | .nam _=>Nat.zero_le _
 | .neg _=>Nat.zero_le _
 | .bin .mul a b=>by have:=LA a;simp[mc,Tr.post];omega
 | .bin .add _ _=>Nat.zero_le _
 | .bin .sub _ _=>Nat.zero_le _
 | .br _=>Nat.zero_le _
end Rv
namespace Rv
open Go
theorem Be(x:Int)(l:List ai)(p:Int)(out:List Item)(e:Int)(he:e≠0):Zax.g x l p out e=some (l,p,out,e,()):=by
 unfold Zax.g Zax.f;rw[if_neg (by simpa using he)]
theorem uq(n:Nat)(r:ay)(m:Nat)(l:List ai)(p:Int)(out:List Item)(e d:Int)(he:e≠0):expr_parser_row_c257.l1 n r (m+1) dA l p out e d=some (l,p,out,e,(),d,()):=by
 rw[expr_parser_row_c257.l1,qJ dA (by simp) l p out e he,Pn];rfl
theorem uo(n:Nat)(r:ay)(m:Nat)(l:List ai)(p:Int)(out:List Item)(e d:Int)(he:e≠0):expr_parser_row_c256.l1 n r (m+1) dH l p out e d=some (l,p,out,e,(),d,()):=by
 rw[expr_parser_row_c256.l1,qJ dH (by simp) l p out e he,Pn];rfl
theorem JW(n:Nat)(r:ay)(m:Nat){l:List ai}{p:Nat}{k:List Bt}(h:At l p k)(hs:noS dA k)(out:List Item)(d:Int):expr_parser_row_c257.l1 n r (m+1) dA l p out 0 d=some (l,(p:Int),out,0,(),d,()):=by
 rw[expr_parser_row_c257.l1,uE dA (by simp) h hs out,Pn];rfl
theorem JV(n:Nat)(r:ay)(m:Nat){l:List ai}{p:Nat}{k:List Bt}(h:At l p k)(hs:noS dH k)(out:List Item)(d:Int):expr_parser_row_c256.l1 n r (m+1) dH l p out 0 d=some (l,(p:Int),out,0,(),d,()):=by
 rw[expr_parser_row_c256.l1,uE dH (by simp) h hs out,Pn];rfl
theorem Gd(q:Nat)(l:List ai)(p:Int)(out:List Item):(R (q+1)).expr_parser_factor 9 l p out 0=some (l,p,out,24,()):=by
 show expr_parser_factor.h (R q) 9 l p out 0=_;unfold expr_parser_factor.h expr_parser_factor.f;rw[if_neg (by decide),if_pos (by decide),oI,Pn]
theorem og{t:Tr} (H:∀(l:List ai) (p:Nat) (out:List Item) (rest:List Bt) (d q:Nat),l.length<=1000000->out.length+t.post.length<=1000000->At l p (t.toksA 2++rest)->d<=8->6*(9-d)<=q ->
  (d+t.depA 2<=8->expr_parser_factor.h (R q) (d:Int) l p out 0=some (l,((p+(t.toksA 2).length:Nat):Int),out++t.post,0,())) /\
  (¬d+t.depA 2<=8->∃(p':Int) (out':List Item),expr_parser_factor.h (R q) (d:Int) l p out 0=some (l,p',out',24,())/\out'.length<=out.length+t.post.length)):okF t:=by
 intro l p out rest d q hl ho hat hd hq;obtain⟨q,rfl⟩:∃q',q=q'+1:=⟨q-1,by omega⟩
 by_cases h9:d=9;·subst h9;refine⟨fun h=>absurd h (by omega),fun _=>⟨(p:Int),out,Gd q l p out,by omega⟩⟩
 ·exact H l p out rest d q hl ho hat (by omega) (by omega)
theorem BG{all:List Str}{b:Bt}{r:List Bt}(h:b.1≠3):noS all (b::r):=fun b' r' e h'=>by cases e;exact h h'.1
theorem vT{all:List Str}{b:Bt}{r:List Bt}(h:b.2.1 ∉ all):noS all (b::r):=fun b' r' e h'=>by cases e;exact h h'.2
theorem Ot(n:Int):okF (.num n):=og fun l p out rest d q hl ho hat hd hq=>by
 have hat:At l p ((2,Lib.itoa n,n)::rest):=hat
 obtain⟨h1,h2,_⟩:=At.cons hat
 simp only[bare,Pv] at h2;refine⟨fun _=>?_,fun h=>absurd (show d+(Tr.num n).depA 2<=8 from hd) h⟩;unfold expr_parser_factor.h expr_parser_factor.f;rw[if_neg (by decide),if_neg (by simp;omega),uE [[45],[40]] (by simp) hat (BG (show(2:Int)≠3 by decide)) out,Pn];dsimp only;rw[if_neg (show ¬decide (([]:Str)=[45])=true by decide),if_neg (show ¬decide (([]:Str)=[40])=true by decide),lX l p out h1,Pn];dsimp only;rw[if_pos rfl,if_pos (by rw[h2.1];decide),h2.2.2,put_eq _ _ _ _ _ _ _ (by omega),Pn];unfold expr_parser_factor.j19;dsimp only;rw[w64 (by omega)];rfl
theorem Oo{s:Str}(hs:az s=true):okF (.nam s):=og fun l p out rest d q hl ho hat hd hq=>by
 have hat:At l p ((1,s,0)::rest):=hat
 obtain⟨h1,h2,_⟩:=At.cons hat
 simp only[bare,Pv] at h2;refine⟨fun _=>?_,fun h=>absurd (show d+(Tr.nam s).depA 2<=8 from hd) h⟩;unfold expr_parser_factor.h expr_parser_factor.f;rw[if_neg (by decide),if_neg (by simp;omega),uE [[45],[40]] (by simp) hat (BG (show(1:Int)≠3 by decide)) out,Pn];dsimp only;rw[if_neg (show ¬decide (([]:Str)=[45])=true by decide),if_neg (show ¬decide (([]:Str)=[40])=true by decide),lX l p out h1,Pn];dsimp only;rw[if_pos rfl,if_neg (by rw[h2.1];decide),if_pos rfl,if_pos (by rw[h2.1];decide),h2.2.1,mD,hs,Pn];dsimp only;rw[if_pos rfl,put_eq _ _ _ _ _ _ _ (by omega),Pn];unfold expr_parser_factor.j19;dsimp only;rw[w64 (by omega)];rfl
theorem Oq{x:Tr}(hx:okF x):okF (.neg x):=og fun l p out rest d q hl ho hat hd hq=>by
 have hat:At l p (yF::(x.toksA 2++rest)):=by
  have e:(Tr.neg x).toksA 2++rest=yF::(x.toksA 2++rest):=rfl;rw[e] at hat;exact hat
 obtain⟨h1,_,hat2⟩:=At.cons hat
 have hpost:(Tr.neg x).post=x.post++[(3,0,[],())]:=rfl;have hdep:(Tr.neg x).depA 2=1+x.depA 2:=rfl;have htl:((Tr.neg x).toksA 2).length=1+(x.toksA 2).length:=by
  show(yF::x.toksA 2).length=_;rw[PG,Nat.add_comm]
 rw[hpost] at ho;simp only[Pt,PG,P6] at ho;obtain⟨g1,g2⟩:=hx l (p+1) out rest (d+1) q hl (by omega) hat2 (by omega) (by omega);rw[hdep,htl,hpost];unfold expr_parser_factor.h expr_parser_factor.f;rw[if_neg (by decide),if_neg (by simp;omega),mU [[45],[40]] (by simp) hat hl (by simp) out,Pn];dsimp only;rw[if_pos (show decide (([45]:Str)=[45])=true by decide),w64 (by omega),show(d:Int)+1=((d+1:Nat):Int) by omega];constructor;·intro h;rw[g1 (by omega),Pn];dsimp only;rw[put_eq _ _ _ _ _ _ _ (by simp;omega),Pn];dsimp only;rw[Pz,Qm]
 ·intro h;obtain⟨p',out',g3,g4⟩:=g2 (by omega);rw[g3,Pn];dsimp only;rw[put_eq _ _ _ _ _ _ _ (by omega),Pn];exact⟨p',_,rfl,by simp;omega⟩
theorem oz(b:Bool)(l:List Bt):l.length<=(brk b l).length:=by unfold brk;split<;>simp<;>omega
theorem D5:∀t:Tr,mc t<=t.toks.length
 | .num _=>Nat.zero_le _
 | .nam _=>Nat.zero_le _
 | .neg _=>Nat.zero_le _
 | .bin .mul a b=>by
  have h1:=D5 a;have h2:=oz (decide (a.tight<Opr.mul.tight)) a.toks;simp only[mc,Tr.toks,Pt,PG];omega
 | .bin .add _ _=>Nat.zero_le _
 | .bin .sub _ _=>Nat.zero_le _
 | .br _=>Nat.zero_le _
theorem xL:∀t:Tr,ac t<=t.toks.length
 | .num _=>Nat.zero_le _
 | .nam _=>Nat.zero_le _
 | .neg _=>Nat.zero_le _
 | .bin .mul _ _=>Nat.zero_le _
 | .bin .add a b=>by
  have h1:=xL a;have h2:=oz (decide (a.tight<Opr.add.tight)) a.toks;simp only[ac,Tr.toks,Pt,PG];omega
 | .bin .sub a b=>by
  have h1:=xL a;have h2:=oz (decide (a.tight<Opr.sub.tight)) a.toks;simp only[ac,Tr.toks,Pt,PG];omega
 | .br _=>Nat.zero_le _
theorem yH(t:Tr):t.toks≠[]:=by cases t<;>simp[Tr.toks]
theorem Ld(lv:Nat)(t:Tr):t.toksA lv≠[]:=by
 intro h;have h1:=oz (decide (t.tight<lv)) t.toks;have h2:(t.toksA lv).length=0:=by rw[h];rfl
 have h3:t.toks.length≠0:=fun h=>yH t (List.length_eq_zero_iff.1 h)
 unfold Tr.toksA at h2;omega
theorem Gf{t:Tr}(hT:okT t)(l:List ai)(p:Nat)(out:List Item)(rest:List Bt)(d q:Nat)(hl:l.length<=1000000)(ho:out.length+t.post.length<=1000000)(hat:At l p (t.toksA 1++rest))(hr:noS dA rest)(hd:d<=9)(hq:6*(9-d)+4<=q) :
  (d+t.depA 1<=8->(R q).expr_parser_sum_1 (d:Int) l p out 0=some ((),(d:Int),l,((p+(t.toksA 1).length:Nat):Int),out++t.post,0,())) /\
  (¬d+t.depA 1<=8->∃(p':Int) (out':List Item),(R q).expr_parser_sum_1 (d:Int) l p out 0=some ((),(d:Int),l,p',out',24,())/\out'.length<=out.length+t.post.length):=by
 obtain⟨q,rfl⟩:∃q',q=q'+2:=⟨q-2,by omega⟩
 have hmc:=LA t;show(_->expr_parser_sum_1.h (R (q+1)) d l p out 0=_)/\(_->∃p' out',expr_parser_sum_1.h (R (q+1)) d l p out 0=_/\_)
 unfold expr_parser_sum_1.h expr_parser_sum_1.f;have e:(R (q+1)).expr_parser_row_c257 dA l (p:Int) out 0 (d:Int)=expr_parser_row_c257.h (R q) dA l (p:Int) out 0 (d:Int):=rfl;rw[e];unfold expr_parser_row_c257.h expr_parser_row_c257.f;have hN:∃N,1000+dA.length+l.length+(p:Int).toNat+out.length+(0:Int).toNat+(d:Int).toNat=N:=⟨_,rfl⟩
 obtain⟨N,hN⟩:=hN;rw[hN];have hlen:=At.len hat (Ld 1 t)
 have h1:=D5 t;have h2:=oz (decide (t.tight<1)) t.toks;have hbig:mc t<N:=by unfold Tr.toksA at hlen;omega
 obtain⟨g1,g2⟩:=hT l p out rest d q N N hl ho hat hd (by omega) hbig;constructor
 ·intro h;rw[g1 h];obtain⟨m,hm⟩:∃m,N-mc t=m+1:=⟨N-mc t-1,by omega⟩
  rw[hm,JW N (R q) m (At.app' hat) hr,Pn]
 ·intro h;obtain⟨p',out',g3,g4⟩:=g2 h;rw[g3,Pn];exact⟨p',out',rfl,g4⟩
theorem AQ{t:Tr}(hF:okF t)(hA:t.toksA 1=t.toksA 2)(hD:t.depA 1=t.depA 2)(hm0:mc t=0):okT t:=by
 intro l p out rest d q m n hl ho hat hd hq hm;obtain⟨q,rfl⟩:∃q',q=q'+1:=⟨q-1,by omega⟩
 rw[hA] at hat
 obtain⟨g1,g2⟩:=hF l p out rest d q hl ho hat hd (by omega);have e:(R (q+1)).expr_parser_sum_1_1 (d:Int) l (p:Int) out 0=expr_parser_sum_1_1.h (R q) (d:Int) l (p:Int) out 0:=rfl;rw[e,hA,hD,hm0];unfold expr_parser_sum_1_1.h expr_parser_sum_1_1.f;constructor;·intro h;rw[g1 h,Pn,Pn];rfl
 ·intro h;obtain⟨p',out',g3,g4⟩:=g2 h;rw[g3,Pn,Pn];obtain⟨m,rfl⟩:∃m',m=m'+1:=⟨m-1,by omega⟩
  exact⟨p',out',uq n (R (q+1)) m l p' out' 24 d (by decide),g4⟩
theorem mx1{d x y:Nat}(h:d+max x y<=8):d+x<=8:=by omega
theorem mx2{d x y:Nat}(h:d+max x y<=8):d+y<=8:=by omega
theorem mx3{d x y:Nat}(h:¬d+max x y<=8)(h1:d+x<=8):¬d+y<=8:=by omega
theorem Ou{a b:Tr}(ha:okT a)(hb:okF b):okT (.bin .mul a b):=by
 intro l p out rest d q m n hl ho hat hd hq hm;have hA:(Tr.bin .mul a b).toksA 1=a.toksA 1++tOp .mul::b.toksA 2:=rfl;have hP:(Tr.bin .mul a b).post=a.post++b.post++[(6,0,[],())]:=rfl;have hD:(Tr.bin .mul a b).depA 1=max (a.depA 1) (b.depA 2):=rfl;have hM:mc (Tr.bin .mul a b)=mc a+1:=rfl;rw[hA,Pz,List.cons_append] at hat
 rw[hM] at hm;rw[hP] at ho;simp only[Pt,PG,P6] at ho;obtain⟨g1,g2⟩:=ha l p out (tOp .mul::(b.toksA 2++rest)) d q m n hl (by omega) hat hd hq (by omega);rw[hA,hP,hD,hM];clear hD;have hat1:=At.app' hat
 obtain⟨_,_,hat2⟩:=At.cons hat1;by_cases h1:d+a.depA 1<=8
 ·rw[g1 h1];obtain⟨m',hm'⟩:∃m',m-mc a=m'+1:=⟨m-mc a-1,by omega⟩
  rw[hm',expr_parser_row_c257.l1,mU dA (by simp) hat1 hl (by simp[tOp,Opr.byte]) _,Pn];dsimp only;rw[if_neg (show ¬(!true)=true by decide)];obtain⟨q,rfl⟩:∃q',q=q'+1:=⟨q-1,by omega⟩
  obtain⟨k1,k2⟩:=hb l (p+(a.toksA 1).length+1) (out++a.post) rest d q hl (by simp;omega) hat2 hd (by omega);have e:(R (q+1)).expr_parser_sum_1_1 (d:Int) l ((p+(a.toksA 1).length+1:Nat):Int) (out++a.post) 0=expr_parser_sum_1_1.h (R q) (d:Int) l ((p+(a.toksA 1).length+1:Nat):Int) (out++a.post) 0:=rfl;rw[e];unfold expr_parser_sum_1_1.h expr_parser_sum_1_1.f;constructor
  ·intro h;rw[k1 (mx2 h),Pn,Pn];dsimp only;rw[put_eq _ _ _ _ _ _ _ (by simp;omega),Pn];dsimp only;have e1:m-(mc a+1)=m':=by clear g1 g2 k1 k2;omega
   have e2:p+(a.toksA 1).length+1+(b.toksA 2).length=p+(a.toksA 1++tOp Opr.mul::b.toksA 2).length:=by simp;omega
   rw[e1,e2,Pz (out++a.post),Pz out,<- Pz a.post];rfl
  ·intro h;obtain⟨p',out',k3,k4⟩:=k2 (mx3 h h1);rw[k3,Pn,Pn];dsimp only;simp only[Pt] at k4;rw[put_eq _ _ _ _ _ _ _ (by omega),Pn];dsimp only;obtain⟨m'',rfl⟩:∃k,m'=k+1:=⟨m'-1,by clear g1 g2 k1 k2;omega⟩
   exact⟨p',_,uq n (R (q+1)) m'' l p' _ 24 d (by decide),by clear g1 g2 k1 k2;simp;omega⟩
 ·constructor
  ·intro h;exact absurd (mx1 h) h1
  ·intro h;obtain⟨p',out',g3,g4⟩:=g2 h1;exact⟨p',out',g3,by simp;omega⟩
theorem Nq{t:Tr}(hT:okT t)(hA:t.toks=t.toksA 1)(hD:t.dep=t.depA 1)(hm0:ac t=0):okS t:=by
 intro l p out rest d q m n hl ho hat hr hd hq hm;rw[hA] at hat
 obtain⟨g1,g2⟩:=Gf hT l p out rest d q hl ho hat hr hd hq;rw[hA,hD,hm0];constructor;·intro h;rw[g1 h,Pn];rfl
 ·intro h;obtain⟨p',out',g3,g4⟩:=g2 h;rw[g3,Pn];obtain⟨m,rfl⟩:∃m',m=m'+1:=⟨m-1,by clear g1 g2;omega⟩
  exact⟨p',out',uo n (R q) m l p' out' 24 d (by decide),g4⟩
theorem Lj{o:Opr}(ho':o=.add\/o=.sub){a b:Tr}(ha:okS a)(hb:okT b)(haA:a.toksA 0=a.toks):okS (.bin o a b):=by
 intro l p out rest d q m n hl ho hat hr hd hq hm;have hA:(Tr.bin o a b).toks=a.toks++tOp o::b.toksA 1:=by
  rcases ho' with rfl|rfl<;>(rw[<- haA];rfl)
 have hP:(Tr.bin o a b).post=a.post++b.post++[(o.kind,0,[],())]:=rfl;have hD:(Tr.bin o a b).dep=max a.dep (b.depA 1):=by
  rcases ho' with rfl|rfl;·show max (a.dep+if a.tight<0 then 1 else 0) (b.dep+if b.tight<0+1 then 1 else 0)=_;rw[if_neg (Nat.not_lt_zero _)];rfl
  ·show max (a.dep+if a.tight<0 then 1 else 0) (b.dep+if b.tight<0+1 then 1 else 0)=_;rw[if_neg (Nat.not_lt_zero _)];rfl
 have hM:ac (Tr.bin o a b)=ac a+1:=by rcases ho' with rfl|rfl<;>rfl
 have hin:[o.byte]∈dH:=by rcases ho' with rfl|rfl<;>decide
 have hno:noS dA (tOp o::(b.toksA 1++rest)):=vT (by rcases ho' with rfl|rfl<;>decide);have hk:(L.kinds [o.byte]).1=o.kind:=by rcases ho' with rfl|rfl<;>rfl
 rw[hA,Pz,List.cons_append] at hat
 rw[hM] at hm;rw[hP] at ho;simp only[Pt,PG,P6] at ho;obtain⟨g1,g2⟩:=ha l p out (tOp o::(b.toksA 1++rest)) d q m n hl (by omega) hat hno hd hq (by omega);rw[hA,hP,hD,hM];clear hD;have hat1:=At.app' hat
 obtain⟨_,_,hat2⟩:=At.cons hat1;by_cases h1:d+a.dep<=8
 ·rw[g1 h1];obtain⟨m',hm'⟩:∃m',m-ac a=m'+1:=⟨m-ac a-1,by clear g1 g2;omega⟩
  rw[hm',expr_parser_row_c256.l1,mU dH (by simp) hat1 hl hin _,Pn];dsimp only;rw[if_neg (show ¬(!true)=true by decide),hk];obtain⟨k1,k2⟩:=Gf hb l (p+a.toks.length+1) (out++a.post) rest d q hl (by simp;clear g1 g2;omega) hat2 hr hd hq;constructor
  ·intro h;rw[k1 (mx2 h),Pn];dsimp only;rw[put_eq _ _ _ _ _ _ _ (by clear g1 g2 k1 k2;simp;omega),Pn];dsimp only;have e1:m-(ac a+1)=m':=by clear g1 g2 k1 k2;omega
   have e2:p+a.toks.length+1+(b.toksA 1).length=p+(a.toks++tOp o::b.toksA 1).length:=by clear g1 g2 k1 k2;simp;omega
   rw[e1,e2,Pz (out++a.post),Pz out,<- Pz a.post]
  ·intro h;obtain⟨p',out',k3,k4⟩:=k2 (mx3 h h1);rw[k3,Pn];dsimp only;simp only[Pt] at k4;rw[put_eq _ _ _ _ _ _ _ (by clear g1 g2 k1 k2;omega),Pn];dsimp only;obtain⟨m'',rfl⟩:∃k,m'=k+1:=⟨m'-1,by clear g1 g2 k1 k2;omega⟩
   exact⟨p',_,uo n (R q) m'' l p' _ 24 d (by decide),by clear g1 g2 k1 k2;simp;omega⟩
 ·constructor
  ·intro h;exact absurd (mx1 h) h1
  ·intro h;obtain⟨p',out',g3,g4⟩:=g2 h1;exact⟨p',out',g3,by clear g1 g2;simp;omega⟩
theorem Cv{t:Tr}(hS:okS t)(l:List ai)(p:Nat)(out:List Item)(rest:List Bt)(d q:Nat)(hl:l.length<=1000000)(ho:out.length+t.post.length<=1000000)(hat:At l p (t.toks++rest))(hr:noS dA rest)(hr2:noS dH rest)(hd:d<=9)(hq:6*(9-d)+6<=q) :
  (d+t.dep<=8->(R q).expr_parser_sum (d:Int) l p out 0=some (l,((p+t.toks.length:Nat):Int),out++t.post,0,())) /\
  (¬d+t.dep<=8->∃(p':Int) (out':List Item),(R q).expr_parser_sum (d:Int) l p out 0=some (l,p',out',24,())/\out'.length<=out.length+t.post.length):=by
 obtain⟨q,rfl⟩:∃q',q=q'+2:=⟨q-2,by omega⟩
 show(_->expr_parser_sum.h (R (q+1)) d l p out 0=_)/\(_->∃p' out',expr_parser_sum.h (R (q+1)) d l p out 0=_/\_)
 unfold expr_parser_sum.h expr_parser_sum.f;have e:(R (q+1)).expr_parser_row_c256 dH l (p:Int) out 0 (d:Int)=expr_parser_row_c256.h (R q) dH l (p:Int) out 0 (d:Int):=rfl;rw[e];unfold expr_parser_row_c256.h expr_parser_row_c256.f;obtain⟨N,hN⟩:∃N,1000+dH.length+l.length+(p:Int).toNat+out.length+(0:Int).toNat+(d:Int).toNat=N:=⟨_,rfl⟩
 rw[hN];have hlen:=At.len hat (yH t)
 have h1:=xL t;have hbig:ac t<N:=by omega
 obtain⟨g1,g2⟩:=hS l p out rest d q N N hl ho hat hr hd (by omega) hbig;constructor
 ·intro h;rw[g1 h];obtain⟨m,hm⟩:∃m,N-ac t=m+1:=⟨N-ac t-1,by clear g1 g2;omega⟩
  rw[hm,JV N (R q) m (At.app' hat) hr2,Pn]
 ·intro h;obtain⟨p',out',g3,g4⟩:=g2 h;rw[g3,Pn];exact⟨p',out',rfl,g4⟩
theorem Dv{x:Tr}(hS:okS x)(l:List ai)(p:Nat)(out:List Item)(rest:List Bt)(d q:Nat)(hl:l.length<=1000000)(ho:out.length+x.post.length<=1000000)(hat:At l p (tLp::(x.toks++tRp::rest)))(hd:d<=8)(hq:6*(9-d)<=q) :
  (d+(x.dep+1)<=8->expr_parser_factor.h (R q) (d:Int) l p out 0=some (l,((p+(x.toks.length+2):Nat):Int),out++x.post,0,())) /\
  (¬d+(x.dep+1)<=8->∃(p':Int) (out':List Item),expr_parser_factor.h (R q) (d:Int) l p out 0=some (l,p',out',24,())/\out'.length<=out.length+x.post.length):=by
 obtain⟨_,_,hat2⟩:=At.cons hat
 have hn1:noS dA (tRp::rest):=vT (by decide);have hn2:noS dH (tRp::rest):=vT (by decide);obtain⟨g1,g2⟩:=Cv hS l (p+1) out (tRp::rest) (d+1) q hl ho hat2 hn1 hn2 (by omega) (by omega);unfold expr_parser_factor.h expr_parser_factor.f;rw[if_neg (by decide),if_neg (by simp;omega),mU [[45],[40]] (by simp) hat hl (by simp) out,Pn];dsimp only;rw[if_neg (show ¬decide (([40]:Str)=[45])=true by decide),if_pos (show decide (([40]:Str)=[40])=true by decide),w64 (by omega),show(d:Int)+1=((d+1:Nat):Int) by omega];constructor;·intro h;rw[g1 (by clear g1 g2;omega),Pn];dsimp only;rw[mU [[41]] (by simp) (At.app' hat2) hl (by simp) _,Pn];dsimp only;rw[if_neg (show ¬(!true)=true by decide),show p+1+x.toks.length+1=p+(x.toks.length+2) by clear g1 g2;omega]
 ·intro h;obtain⟨p',out',g3,g4⟩:=g2 (by clear g1 g2;omega);rw[g3,Pn];dsimp only;rw[qJ [[41]] (by simp) l p' out' 24 (by decide),Pn];dsimp only;rw[if_pos (show(!false)=true by decide),Be 23 l p' out' 24 (by decide),Pn];exact⟨p',out',rfl,g4⟩
theorem EG{x:Tr}(hS:okS x)(ht:x.tight<2):okF x:=og fun l p out rest d q hl ho hat hd hq=>by
 have hA:x.toksA 2=tLp::(x.toks++[tRp]):=by unfold Tr.toksA brk;rw[if_pos (by simpa using ht)]
 have hD:x.depA 2=x.dep+1:=by unfold Tr.depA;rw[if_pos ht]
 rw[hA] at hat⊢;rw[hD];have hat':At l p (tLp::(x.toks++tRp::rest)):=by
  have e:tLp::(x.toks++[tRp])++rest=tLp::(x.toks++tRp::rest):=by simp
  rw[e] at hat;exact hat
 have:=Dv hS l p out rest d q hl ho hat' hd hq;have e:(tLp::(x.toks++[tRp])).length=x.toks.length+2:=by simp
 rw[e];exact this
theorem OX{x:Tr}(hS:okS x):okF (.br x):=og fun l p out rest d q hl ho hat hd hq=>by
 have hA:(Tr.br x).toksA 2=tLp::(x.toks++[tRp]):=rfl;have hD:(Tr.br x).depA 2=x.dep+1:=by show 1+x.dep+(if(2:Nat)<2 then 1 else 0)=_;rw[if_neg (by omega)];omega
 have hP:(Tr.br x).post=x.post:=rfl;rw[hP] at ho⊢;rw[hA] at hat⊢;rw[hD];have hat':At l p (tLp::(x.toks++tRp::rest)):=by
  have e:tLp::(x.toks++[tRp])++rest=tLp::(x.toks++tRp::rest):=by simp
  rw[e] at hat;exact hat
 have:=Dv hS l p out rest d q hl ho hat' hd hq;have e:(tLp::(x.toks++[tRp])).length=x.toks.length+2:=by simp
 rw[e];exact this
theorem ui{t:Tr}(hF:okF t)(ht:t.tight=2)(hm0:mc t=0):okT t:=
 AQ hF (by unfold Tr.toksA;rw[ht];rfl) (by unfold Tr.depA;rw[ht];rfl) hm0
theorem om{t:Tr}(hT:okT t)(ht:1<=t.tight)(ha0:ac t=0):okS t:=
 Nq hT (by unfold Tr.toksA brk;rw[if_neg (by simp;omega)]) (by unfold Tr.depA;rw[if_neg (by omega),Nat.add_zero]) ha0
theorem gK:∀t:Tr,t.ok->okF t/\okT t/\okS t
 | .num n,_=>by
  have hF:=Ot n;have hT:=ui hF rfl rfl;exact⟨hF,hT,om hT (show 1<=2 by decide) rfl⟩
 | .nam s,h=>by
  have hF:=Oo h;have hT:=ui hF rfl rfl;exact⟨hF,hT,om hT (show 1<=2 by decide) rfl⟩
 | .neg x,h=>by
  have hF:=Oq (gK x h).1;have hT:=ui hF rfl rfl;exact⟨hF,hT,om hT (show 1<=2 by decide) rfl⟩
 | .br x,h=>by
  have hF:=OX (gK x h).2.2;have hT:=ui hF rfl rfl;exact⟨hF,hT,om hT (show 1<=2 by decide) rfl⟩
 | .bin .mul a b,h=>by
  have hT:=Ou (gK a h.1).2.1 (gK b h.2).1;have hS:=om hT (show 1<=1 by decide) rfl;exact⟨EG hS (show 1<2 by decide),hT,hS⟩
 | .bin .add a b,h=>by
  have hS:=Lj (.inl rfl) (gK a h.1).2.2 (gK b h.2).2.1 (by unfold Tr.toksA brk;rw[if_neg (by simp)]);have hF:=EG hS (show 0<2 by decide);exact⟨hF,AQ hF rfl rfl rfl,hS⟩
 | .bin .sub a b,h=>by
  have hS:=Lj (.inr rfl) (gK a h.1).2.2 (gK b h.2).2.1 (by unfold Tr.toksA brk;rw[if_neg (by simp)]);have hF:=EG hS (show 0<2 by decide);exact⟨hF,AQ hF rfl rfl rfl,hS⟩
theorem GD{t:Tr}(ht:t.ok)(l:List ai)(p:Nat)(rest:List Bt)(hl:l.length<=1000000)(hpost:t.post.length<=64)(hat:At l p (t.toks++rest))(hr:noS dA rest)(hr2:noS dH rest) :
  (t.dep<=8->Zat.g l p=some (t.post,((p+t.toks.length:Nat):Int),0,()))/\(¬t.dep<=8->Zat.g l p=some ([],0,24,())):=by
 unfold Zat.g Zat.f expr_parser_sum.g;obtain⟨g1,g2⟩:=Cv (gK t ht).2.2 l p [] rest 0 (1000+(0:Int).toNat+l.length+(p:Int).toNat+([]:List Item).length+(0:Int).toNat) hl (by simp;omega) hat hr hr2 (by omega) (by omega);constructor;·intro h;have:=g1 (by clear g1 g2;omega);rw[show((0:Nat):Int)=0 from rfl] at this;rw[this,Pn];dsimp only;rw[if_pos (show decide ((0:Int)=0)=true by decide),if_neg (by clear g1 g2 this;simp;omega),Qg];unfold Zat.j5;rw[if_neg (show ¬decide ((0:Int)≠0)=true by decide)]
 ·intro h;obtain⟨p',out',g3,g4⟩:=g2 (by clear g1 g2;omega);rw[show((0:Nat):Int)=0 from rfl] at g3;rw[g3,Pn];dsimp only;rw[if_neg (show ¬decide ((24:Int)=0)=true by decide)];unfold Zat.j5;rw[if_pos (show decide ((24:Int)≠0)=true by decide)]
end Rv
namespace Rv
open Go
theorem FW{s:Str}{b:List Bt}(h:bG s b)(hs:s.length<=1000000):∃ts:List ai,ts.map bare=b/\Zag.g s=some (ts,0,()):=by
 obtain⟨ts,h1,h2⟩:=h 0;refine⟨ts,h1,?_⟩;have:=h2 [] (.inl rfl);rw[P8,kX] at this;rw[ut s hs,this];simp[jr,aX]
theorem At.whole{ts:List ai}{b:List Bt}(h:ts.map bare=b):At ts 0 (b++[]):=by
 unfold At;rw[PZ,h,P8]
theorem D9(all:List Str):noS all []:=fun b r h=>by cases h
end Rv
namespace Rv
open Go
structure Sm where
 k:Int
 o:Int
 a:Int
 b:Int
 c:Int
 u:Bool
 e:List Item
 nm:Str
def jK(t:Tr):Prop:=t.ok/\t.plain/\gM t.post/\t.post.length<=64
def postO:Option Tr->List Item
 |none=>[]
 |some t=>t.post
inductive GoodS:Sm->Option Tr->Prop
 |none:GoodS ⟨0,0,0,0,0,false,[],[]⟩ none
 |ins0 {k o a b c:Int} {u:Bool}:bU k o a b c u->(k=1\/k=3\/k=4\/k=6)->GoodS ⟨k,o,a,b,c,u,[],[]⟩ none
 |ins1 {k o a b c:Int} {u:Bool} {t:Tr}:bU k o a b c u->(k=2\/k=5\/k=7)->jK t->GoodS ⟨k,o,a,b,c,u,t.post,[]⟩ (some t)
 |load {a:Int} {t:Tr}:rg a->jK t->GoodS ⟨8,0,a,0,0,false,t.post,[]⟩ (some t)
 |word {t:Tr}:jK t->GoodS ⟨9,0,0,0,0,false,t.post,[]⟩ (some t)
 |exp {nm:Str}:dB nm=true->GoodS ⟨10,0,0,0,0,false,[],nm⟩ none
def rn(a:Int):Str:=fH a.toNat
theorem Az{a:Int}(h:rg a):Zaw.g a=some (rn a,()):=by
 obtain⟨k,rfl⟩:∃k:Nat,a=(k:Int):=⟨a.toNat,by have:=h.1;omega⟩
 have:=(wu k (by have:=h.2;omega)).1;rw[this];unfold rn;rw[PN]
theorem OU(k:Nat):fH k≠[]:=by unfold fH;split<;>simp
theorem je(k:Int):Zcx.g k=some (decide (k=2\/k=5\/k=7\/k=8\/k=9),()):=by
 unfold Zcx.g Zcx.f;simp only[dt];by_cases h1:k=2;·simp[h1]
 ·by_cases h2:k=5
  ·simp[h2]
  ·by_cases h3:k=7
   ·simp[h3]
   ·by_cases h4:k=8
    ·simp[h4]
    ·by_cases h5:k=9
     ·simp[h5]
     ·simp[h1,h2,h3,h4,h5]
abbrev yn(s:Sm):Option (Bool×Unit):=Zaj.g s.k s.o s.a s.b s.c s.u s.e s.nm
theorem Kg{s:Sm}{t:Option Tr}(h:GoodS s t):yn s=some (true,()):=by
 have hw:∀t:Tr,jK t->Zaz.g t.post=some (true,()):=fun t h=>by
  rw[yJ t.post (by have:=h.2.2.2;omega),EC h.2.2.1 h.2.2.2]
 have hp:∀t:Tr,decide ((0:Int)<(t.post.length:Int))=true:=fun t=>by have:=t.post_pos;simp;omega
 cases h with
 |none=>rfl
 |@ins0 k o a b c u h hk=>
  unfold yn Zaj.g;generalize 1000+_+_+_+_+_+_+_=n;unfold Zaj.f;have hn:decide (k=2\/k=5\/k=7\/k=8\/k=9)=false:=by simp;omega
  have h10:decide (k=10)=false:=by simp;omega
  simp only[je,hn,Pn];rw[if_pos (by simp),if_neg (by decide),h10,if_neg (by simp)];unfold Zaj.j4 Zaj.j12;simp only[dt];rw[Bv h,Pn,if_neg (by omega),if_neg (by omega),if_neg (by omega),if_neg (by omega)]
 |@ins1 k o a b c u t h hk ht=>
  unfold yn Zaj.g;generalize 1000+_+_+_+_+_+_+_=n;unfold Zaj.f;have hn:decide (k=2\/k=5\/k=7\/k=8\/k=9)=true:=by simp;omega
  have h10:decide (k=10)=false:=by simp;omega
  simp only[je,hn,Pn,hp,hw t ht];rw[if_pos (by simp),if_pos (by decide),if_pos (by decide),h10,if_neg (by simp)];unfold Zaj.j4 Zaj.j12;simp only[dt];rw[Bv h,Pn,if_neg (by omega),if_neg (by omega),if_neg (by omega),if_neg (by omega)]
 |@load a t ha ht=>
  unfold yn Zaj.g;generalize 1000+_+_+_+_+_+_+_=n;unfold Zaj.f;simp only[je,Pn,hp,hw t ht];rw[if_pos (by simp),if_pos (by decide),if_pos (by decide),if_neg (by simp)];unfold Zaj.j4;simp only[Az ha,Pn];have:=OU a.toNat
  simp[rn,this]
 |@word t ht=>
  unfold yn Zaj.g;generalize 1000+_+_+_+_+_+_+_=n;unfold Zaj.f;simp only[je,Pn,hp,hw t ht];rw[if_pos (by simp),if_pos (by decide),if_pos (by decide),if_neg (by simp)];rfl
 |@exp nm hn=>
  have hne:nm≠[]:=by rintro rfl;exact absurd hn (by decide)
  unfold yn Zaj.g;generalize 1000+_+_+_+_+_+_+_=n;unfold Zaj.f;simp only[je,Pn];rw[if_pos (by simp),if_neg (by decide),if_neg (by simp[hne])];unfold Zaj.j4;simp only[si,hn,Pn];rfl
end Rv
namespace Rv
open Go
set_option maxRecDepth 100000
end Rv
namespace Rv
open Go
theorem zg{s:Sm}{t:Option Tr}(h:GoodS s t):s.e.length<=64/\s.e=postO t/\(∀x,t=some x->jK x):=by
 cases h with
 |none=>exact⟨by simp,rfl,fun x h=>by cases h⟩
 |ins0 _ _=>exact⟨by simp,rfl,fun x h=>by cases h⟩
 |ins1 _ _ ht=>exact⟨ht.2.2.2,rfl,fun x h=>by obtain rfl:=Pp h;exact ht⟩
 |load _ ht=>exact⟨ht.2.2.2,rfl,fun x h=>by obtain rfl:=Pp h;exact ht⟩
 |word ht=>exact⟨ht.2.2.2,rfl,fun x h=>by obtain rfl:=Pp h;exact ht⟩
 |exp _=>exact⟨by simp,rfl,fun x h=>by cases h⟩
end Rv
namespace Rv
open Go
inductive Od
 |A|B|C|E|Q|N
def Od.rd:Od->Fn
 | .A=>K.rdA | .B=>K.rdB | .C=>K.rdC | .E=>K.rdE | .Q=>K.rdQ | .N=>K.rdN
def Od.wr:Od->Fn
 | .A=>K.wrA | .B=>K.wrB | .C=>K.wrC | .E=>K.wrE | .Q=>K.wrQ | .N=>K.wrN
def odL(k o:Int):List Od:=
 if k=1 then(if o=0 then[.A,.C] else[.A,.B,.C]) else
 if k=2 then(if o=0 then[.A,.E] else[.A,.B,.E]) else
 if k=3\/k=4 then[.A] else
 if k=5 then[.A,.B,.E] else
 if k=6 then[.C] else
 if k=7\/k=9 then[.E] else
 if k=8 then[.A,.Q] else
 if k=10 then[.N] else[]
abbrev odF(d:Od):Fn×Fn×Unit:=(d.rd,d.wr,())
theorem uz(k o:Int):L.opsR k o=(odL k o).map odF:=by
 unfold L.opsR odL;split;·split<;>rfl
 ·split
  ·split<;>rfl
  ·repeat' split
   all_goals rfl
theorem uy(k o:Int):(odL k o).length<=3:=by
 unfold odL
 repeat' split
 all_goals simp
theorem eO{o:Int}(h:0<o):odL 1 o=[.A,.B,.C]:=by unfold odL;rw[if_pos rfl,if_neg (by omega)]
theorem uw{o:Int}(h:0<o):odL 2 o=[.A,.B,.E]:=by unfold odL;rw[if_neg (by decide),if_pos rfl,if_neg (by omega)]
theorem xC(n:Nat):∀(m:Nat) (s:Str),s.length<m->s.length<=1000000->Zbv.l1 n m s 32=some (s.dropWhile (· == 32),())
 |0,_,h,_=>by omega
 |m+1,[],_,_=>by rw[Zbv.l1];rfl
 |m+1,b::s,h,hs=>by
  rw[Zbv.l1];simp only[dt];have hb:bt (b::s) 0=(b.toNat:Int):=rfl;have h32:((b.toNat:Int)=32)=(b=32):=jR b 32 (by omega);rw[if_pos (by simp),if_pos (by simp),hb,List.dropWhile_cons];by_cases e:b=32
  ·rw[if_pos (h32.mpr e),if_pos (by simp;omega),if_pos (by simp[e])];have:((b::s).take ((((b::s).length:Nat):Int)).toNat).drop ((1:Int)).toNat=s:=by
    rw[PN,List.take_length];rfl
   rw[this];exact xC n m s (by simp at h;omega) (by simp at hs;omega)
  ·rw[if_neg (fun h=>e (h32.mp h)),if_neg (by simp[e])]
theorem CF(s:Str)(hs:s.length<=1000000):Zcn.g s [32]=some (s.dropWhile (· == 32),()):=by
 unfold Zcn.g Zcn.f;simp only[dt,df];by_cases h:s=[]
 ·subst h;rfl
 ·rw[if_pos h,if_neg (by decide),if_pos (by decide),if_pos (by decide),if_pos (by decide),if_pos (by decide)];have hb:bt [32] 0=32:=rfl;unfold Zbv.g Zbv.f;rw[hb,xC _ _ s (by omega) hs,Pn]
theorem GZ(n:Int)(h:0<=n):∃c r,Lib.itoa n=c::r/\c≠32:=by
 obtain⟨m,rfl⟩:∃m:Nat,n=m:=⟨n.toNat,by omega⟩
 have hi:Lib.itoa (m:Int)=Lib.decDigits m:=by unfold Lib.itoa;rw[if_neg (by omega)];rfl
 obtain⟨h1,h2⟩:=uk m;rw[hi];cases hd:Lib.decDigits m with
 |nil=>exact absurd hd h2
 |cons c r=>
  refine⟨c,r,rfl,?_⟩;rintro rfl;rw[hd] at h1;simp[isD] at h1
theorem Gs(b:Bool){s:Str}(h:∃c r,s=c::r/\c≠32):∃c r,brkT b s=c::r/\c≠32:=by
 unfold brkT;split;·exact⟨_,_,rfl,by decide⟩
 ·exact h
theorem CJ:∀t:Tr,t.ok->∃c r,t.txt=c::r/\c≠32
 | .num n,h=>GZ n h.1
 | .nam s,h=>by
  have h:az s=true:=h;cases s with
  |nil=>exact absurd h (by decide)
  |cons c r=>
   refine⟨c,r,rfl,?_⟩;rintro rfl;unfold az at h;simp only[Ps,Qj] at h;exact absurd h.1.2.1 (by decide)
 | .neg x,_=>⟨_,_,rfl,by decide⟩
 | .br x,_=>⟨_,_,rfl,by decide⟩
 | .bin o a b,h=>by
  obtain⟨c,r,h1,h2⟩:=Gs (decide (a.tight<o.tight)) (CJ a h.1);exact⟨c,_,by show brkT _ _++_=_;rw[h1];rfl,h2⟩
def et:Option Tr->Str
 |none=>[]
 |some t=>t.txt
def wtx(s:Sm)(t:Option Tr):Od->Str
 | .A=>rn s.a | .B=>rn s.b | .C=>rn s.c | .E=>et t | .Q=>61::32::et t | .N=>s.nm
def mO(s:Sm)(t:Option Tr):Od->Prop
 | .A=>rg s.a | .B=>rg s.b | .C=>rg s.c | .E=>∃x,t=some x/\jK x/\s.e=x.post | .Q=>∃x,t=some x/\jK x/\s.e=x.post | .N=>dB s.nm=true
theorem kg{s:Sm}{t:Option Tr}(h:GoodS s t):∀d∈odL s.k s.o,mO s t d:=by
 cases h with
 |none=>intro d hd;simp[odL] at hd
 |ins0 h hk=>
  cases h with
  |reg h1 h2 ha hb hc hu=>
   intro d hd;dsimp only at hd;rw[eO h1] at hd;simp only[Py,Qn,or_false] at hd;rcases hd with rfl|rfl|rfl;·exact ha
   ·exact hb
   ·exact hc
  |mov ha hc=>
   intro d hd;simp only[odL,if_true,Py,Qn,or_false] at hd;rcases hd with rfl|rfl;·exact ha
   ·exact hc
  |hi ha=>intro d hd;simp[odL] at hd;subst hd;exact ha
  |fl ha=>intro d hd;simp[odL] at hd;subst hd;exact ha
  |br ho hc=>intro d hd;simp[odL] at hd;subst hd;exact hc
  |imm=>simp at hk
  |movi=>simp at hk
  |mem=>simp at hk
  |jmp=>simp at hk
 |ins1 h hk ht=>
  cases h with
  |imm h1 h2 ha hb hu=>
   intro d hd;dsimp only at hd;rw[uw h1] at hd;simp only[Py,Qn,or_false] at hd;rcases hd with rfl|rfl|rfl;·exact ha
   ·exact hb
   ·exact⟨_,rfl,ht,rfl⟩
  |movi ha=>
   intro d hd;simp[odL] at hd;rcases hd with rfl|rfl;·exact ha
   ·exact⟨_,rfl,ht,rfl⟩
  |mem h1 h2 ha hb=>
   intro d hd;simp[odL] at hd;rcases hd with rfl|rfl|rfl;·exact ha
   ·exact hb
   ·exact⟨_,rfl,ht,rfl⟩
  |jmp ho=>intro d hd;simp[odL] at hd;subst hd;exact⟨_,rfl,ht,rfl⟩
  |reg=>simp at hk
  |mov=>simp at hk
  |hi=>simp at hk
  |fl=>simp at hk
  |br=>simp at hk
 |load ha ht=>
  intro d hd;simp[odL] at hd;rcases hd with rfl|rfl;·exact ha
  ·exact⟨_,rfl,ht,rfl⟩
 |word ht=>intro d hd;simp[odL] at hd;subst hd;exact⟨_,rfl,ht,rfl⟩
 |exp hn=>intro d hd;simp[odL] at hd;subst hd;exact hn
theorem wm(k:Nat):(fH k).length<=3:=by unfold fH;split<;>simp
theorem EE{s:Sm}{t:Option Tr}{d:Od}(h:mO s t d):(wtx s t d).length<=1300:=by
 have r:∀a:Int,(rn a).length<=1300:=fun a=>PW (wm _) (by decide)
 have e:(∃x,t=some x/\jK x/\s.e=x.post)->(et t).length<=1280:=by
  rintro⟨x,rfl,hx,_⟩;have:=gu x hx.1 hx.2.1;have:=hx.2.2.2;show x.txt.length<=1280;omega
 cases d with
 |A=>exact r _
 |B=>exact r _
 |C=>exact r _
 |E=>exact PW (e h) (by decide)
 |Q=>have:=e h;show(61::32::et t).length<=1300;simp;omega
 |N=>
  have h:dB s.nm=true:=h;unfold dB at h;simp only[Ps,Pw] at h;show s.nm.length<=1300;have:=h.1.1.1.2;omega
theorem Eb{s:Sm}{t:Option Tr}(h:∃x,t=some x/\jK x/\s.e=x.post)(q:Str)(hq:q=[]\/q=[61]) :
  Zcy.g s.k s.o s.a s.b s.c s.u s.e s.nm q=some (if q=[] then et t else 61::32::et t,()):=by
 obtain⟨x,rfl,hx,he⟩:=h;have hl:=gu x hx.1 hx.2.1;have hl2:=hx.2.2.2;unfold Zcy.g Zcy.f;rw[he,GG hx.1 hx.2.1 hx.2.2.1 hx.2.2.2,Pn];dsimp only;obtain⟨c,r,h1,h2⟩:=CJ x hx.1;rcases hq with rfl|rfl
 ·rw[if_pos (by decide),if_pos (by simp;omega),CF _ (by simp;omega),Pn,if_pos rfl];show some ((([]++[32])++x.txt).dropWhile (· == 32),())=some (x.txt,());rw[h1];have:(c == 32)=false:=by simpa using h2
  simp[List.dropWhile_cons,this]
 ·rw[if_pos (by decide),if_pos (by simp;omega),CF _ (by simp;omega),Pn,if_neg (by decide)];rfl
theorem Gc(s:Sm)(t:Option Tr)(out:List Str)(mn:Str)(n:Nat)(ods:List Od)(ho:∀d∈ods,mO s t d)(hl:ods.length<=3):∀(m i:Nat) (l:List Str),i<=ods.length->ods.length-i<m->l.length=i ->
  Zac.l12 n m out mn l (ods.map odF) (ods.length:Int) (i:Int) s.k s.o s.a s.b s.c s.u s.e s.nm=Zac.l12 n 1 out mn (l++(ods.drop i).map (wtx s t)) (ods.map odF) (ods.length:Int) (ods.length:Int) s.k s.o s.a s.b s.c s.u s.e s.nm:=by
 intro m
 induction m with
 |zero=>intro i _ _ h;omega
 |succ m ih=>
  intro i l hi hm hli;by_cases h:i<ods.length
  ·have hd:ods.drop i=ods[i]::ods.drop (i+1):=P5 h;have hg:(ods.map odF).getD ((i:Int)).toNat (((0,[]):Fn),(((0,[]):Fn),()))=odF ods[i]:=by
    rw[PN,PM,PI (by simpa using h)];simp
   have hok:=ho ods[i] (Qp h);have next:=fun x:Str=>ih (i+1) (l++[x]) (by omega) (by omega) (by simp[hli])
   rw[Zac.l12,if_pos (by simp;omega),if_pos (by simp;omega),hg,hd,PK];have W1:IntKind.i64.wrap ((i:Int)+1)=((i+1:Nat):Int):=by rw[w64 (by omega)];omega
   have fin:∀x:Str,(if(l.length+([x]:List Str).length)*16<=140737488355328/\0<16/\0<1 then(Zac.j15 n (Zac.l12 n m) out mn (l++([x]:List Str)) (ods.map odF) (ods.length:Int) (i:Int) s.k s.o s.a s.b s.c s.u s.e s.nm) else none) =
     Zac.l12 n 1 out mn (l++x::(ods.drop (i+1)).map (wtx s t)) (ods.map odF) (ods.length:Int) (ods.length:Int) s.k s.o s.a s.b s.c s.u s.e s.nm:=fun x=>by
    rw[if_pos (by simp;omega)];unfold Zac.j15;rw[W1,next x,Pz];rfl
   generalize hx:ods[i]=d at hok⊢;cases d with
   |A=>
    show(if K.wrA=K.wrA then _ else _)=_;rw[if_pos rfl];unfold Zbq.g Zbq.f Zct.g Zct.f;rw[if_pos rfl,Pn];dsimp only;rw[Az hok,Pn,Pn];exact fin _
   |B=>
    show(if K.wrB=K.wrA then _ else if K.wrB=K.wrB then _ else _)=_;rw[if_neg (by decide),if_pos rfl];unfold Zbq.g Zbq.f Zcu.g Zcu.f;rw[if_neg (by decide),if_pos rfl,Pn];dsimp only;rw[Az hok,Pn,Pn];exact fin _
   |C=>
    show(if K.wrC=K.wrA then _ else if K.wrC=K.wrB then _ else if K.wrC=K.wrC then _ else _)=_;rw[if_neg (by decide),if_neg (by decide),if_pos rfl];unfold Zbq.g Zbq.f Zcv.g Zcv.f;rw[if_neg (by decide),if_neg (by decide),if_pos rfl,Pn];dsimp only;rw[Az hok,Pn,Pn];exact fin _
   |E=>
    show(if K.wrE=K.wrA then _ else if K.wrE=K.wrB then _ else if K.wrE=K.wrC then _ else if K.wrE=K.wrE then _ else _)=_;rw[if_neg (by decide),if_neg (by decide),if_neg (by decide),if_pos rfl,Eb hok [] (.inl rfl),Pn];exact fin _
   |Q=>
    show(if K.wrQ=K.wrA then _ else if K.wrQ=K.wrB then _ else if K.wrQ=K.wrC then _ else if K.wrQ=K.wrE then _ else if K.wrQ=K.wrQ then _ else _)=_;rw[if_neg (by decide),if_neg (by decide),if_neg (by decide),if_neg (by decide),if_pos rfl,Eb hok [61] (.inr rfl),Pn];exact fin _
   |N=>
    show(if K.wrN=K.wrA then _ else if K.wrN=K.wrB then _ else if K.wrN=K.wrC then _ else if K.wrN=K.wrE then _ else if K.wrN=K.wrQ then _ else if K.wrN=K.wrN then _ else _)=_;rw[if_neg (by decide),if_neg (by decide),if_neg (by decide),if_neg (by decide),if_neg (by decide),if_pos rfl];unfold Zdv.g Zdv.f;rw[Pn];exact fin _
  ·have hi':i=ods.length:=by omega
   subst hi';rw[Qe,List.map_nil,P8,Zac.l12,Zac.l12];simp only[dt];rw[if_neg (by omega),if_neg (by omega)]
def hk(k:Int):Int:=if k=2 then 1 else if k=6 then 7 else k
def mtx(s:Sm):Str:=(if s.k=9\/s.k=10 then[46] else[])++L.mnemR (hk s.k) s.o s.u
def stx(s:Sm)(t:Option Tr):Str:=if s.k=0 then[] else mtx s++32::L.sjoinR [44,32] ((odL s.k s.o).map (wtx s t))
def ltx(lb:Str)(s:Sm)(t:Option Tr):Str:=if lb=[] then stx s t else lb++58::(if s.k=0 then[] else 32::stx s t)
theorem NP:∀e∈L.nameTbl,e.2.2.length<=6:=by decide +kernel
theorem mI(k o:Int)(u:Bool):(L.mnemR k o u).length<=6:=by
 by_cases h:L.mnemR k o u=[]
 ·rw[h];simp
 ·obtain⟨e,he,_,h2⟩:=vP h;rw[<- h2];exact NP e he
theorem Bh(sep:Str)(b:Nat):∀(l:List Str),(∀x∈l,x.length<=b)->((l.map (sep++·)).flatten).length<=(b+sep.length)*l.length
 |[],_=>by simp
 |y::r,h=>by
  have h1:=h y (by simp);have h2:=Bh sep b r fun z hz=>h z (by simp[hz])
  rw[PK,List.flatten_cons,Pt,Pt,PG,Nat.mul_add,Nat.mul_one];omega
theorem tJ(sep:Str)(b:Nat)(l:List Str)(h:∀x∈l,x.length<=b):(L.sjoinR sep l).length<=(b+sep.length)*l.length:=by
 cases l with
 |nil=>simp[L.sjoinR]
 |cons x r=>
  have h1:=h x (by simp);have h2:=Bh sep b r fun z hz=>h z (by simp[hz])
  rw[show L.sjoinR sep (x::r)=x++(r.map (sep++·)).flatten from rfl,Pt,PG,Nat.mul_add,Nat.mul_one];omega
theorem JO{k:Int}(h:0<=k)(h2:k<=10):-9223372036854775808<=hk k/\hk k<=9223372036854775807:=by unfold hk;split<;>(try split)<;>omega
theorem JN(k:Int):Zdj.g k=some (hk k,()):=by
 unfold Zdj.g Zdj.f hk;simp only[dt];split;·rfl
 ·split<;>rfl
theorem yR(k:Int):Zci.g k=some (decide (k=9\/k=10),()):=by
 unfold Zci.g Zci.f;simp only[df];by_cases h:k=9;·rw[if_neg (by simp[h])];simp[h]
 ·rw[if_pos h];simp[h]
abbrev H6(lb:Str)(s:Sm):Option (Str×Int×Unit):=Zac.g lb s.k s.o s.a s.b s.c s.u s.e s.nm
theorem DT{s:Sm}{t:Option Tr}(h:GoodS s t):0<=s.k/\s.k<=10/\0<=s.o/\s.o<=15:=by
 cases h with
 |none=>decide
 |ins0 h hk=>obtain⟨h1,h2,h3,h4⟩:=mi h;exact⟨by dsimp only;omega,by dsimp only;omega,h3,h4⟩
 |ins1 h hk ht=>obtain⟨h1,h2,h3,h4⟩:=mi h;exact⟨by dsimp only;omega,by dsimp only;omega,h3,h4⟩
 |load ha ht=>refine⟨?_,?_,?_,?_⟩<;>dsimp only<;>decide
 |word ht=>refine⟨?_,?_,?_,?_⟩<;>dsimp only<;>decide
 |exp hn=>refine⟨?_,?_,?_,?_⟩<;>dsimp only<;>decide
theorem FK{s:Sm}{t:Option Tr}(h:GoodS s t){lb:Str}(hlb:lb=[]\/az lb=true):H6 lb s=some (ltx lb s t,0,()):=by
 have hod:=kg h;have hkr:=DT h;have hl3:=uy s.k s.o;have hll:lb.length<=12:=by
  rcases hlb with rfl|hlb;·simp
  ·unfold az at hlb;simp only[Ps,Pw] at hlb;exact hlb.1.1.1.2
 have hbody:(L.sjoinR [44,32] ((odL s.k s.o).map (wtx s t))).length<=4000:=by
  have:=tJ [44,32] 1300 ((odL s.k s.o).map (wtx s t)) (fun x hx=>by
   obtain⟨d,hd,rfl⟩:=PQ.1 hx;exact EE (hod d hd))
  rw[PU] at this;have h2:(1300+([44,32]:Str).length)*(odL s.k s.o).length<=1302*3:=Nat.mul_le_mul (by decide) hl3;omega
 have hmt:(mtx s).length<=7:=by
  unfold mtx;have:=mI (hk s.k) s.o s.u;rw[Pt];split<;>simp<;>omega
 have hm:L.mnemO (hk s.k) s.o s.u=some (L.mnemR (hk s.k) s.o s.u,()):=Ki s.u (JO hkr.1 hkr.2.1) (by omega);have J17:∀(n:Nat) (out:List Str),(L.sjoinR [32] out).length<=10000->out.length<=10->Zac.j17 n out=some (L.sjoinR [32] out,0,()):=fun n out h1 h2=>by
  unfold Zac.j17 L.sjoinO;rw[if_pos ⟨by omega,by omega⟩,Pn]
 have J10:∀(n:Nat) (out:List Str),10<=n->out.length<=1->(∀x∈out,x.length<=13)->Zac.j10 n out (mtx s) s.k s.o s.a s.b s.c s.u s.e s.nm=some (L.sjoinR [32] (out++[mtx s,L.sjoinR [44,32] ((odL s.k s.o).map (wtx s t))]),0,()):=fun n out hn ho hx=>by
  unfold Zac.j10;have hlen:((L.opsR s.k s.o).length:Int)=((odL s.k s.o).length:Int):=by rw[uz,PU]
  rw[hlen,uz];have:=Gc s t out (mtx s) n (odL s.k s.o) hod hl3 n 0 [] (by omega) (by omega) rfl;rw[show((0:Nat):Int)=0 from rfl] at this;rw[this,PZ,Qg,Zac.l12];simp only[dt];rw[if_neg (by omega)];unfold L.sjoinO;rw[if_pos ⟨by omega,by rw[PU];omega⟩,Pn];dsimp only;rw[if_pos (by simp;omega)];refine J17 n _ ?_ (by simp;omega);generalize L.sjoinR [44,32] ((odL s.k s.o).map (wtx s t))=B at hbody;generalize mtx s=M at hmt
  match out,ho with
  |[],_=>simp[L.sjoinR];omega
  |[x],_=>have:=hx x (by simp);simp[L.sjoinR];omega
 have J6:∀(n:Nat) (out:List Str),10<=n->out.length<=1->(∀x∈out,x.length<=13)->Zac.j6 n out s.k s.o s.a s.b s.c s.u s.e s.nm=some (L.sjoinR [32] (out++(if s.k=0 then[] else[mtx s,L.sjoinR [44,32] ((odL s.k s.o).map (wtx s t))])),0,()):=fun n out hn ho hx=>by
  unfold Zac.j6;simp only[dt,JN,Pn,hm,yR];by_cases h0:s.k=0
  ·rw[if_neg (by simp[h0]),if_pos h0,P8];refine J17 n out ?_ (by omega)
   match out,ho with
   |[],_=>simp[L.sjoinR]
   |[x],_=>have:=hx x (by simp);simp[L.sjoinR];omega
  ·rw[if_pos h0,if_neg h0,<- J10 n out hn ho hx];unfold mtx;by_cases hd:s.k=9\/s.k=10
   ·rw[if_pos hd,if_pos (by have:=mI (hk s.k) s.o s.u;simp;omega),if_pos hd]
   ·rw[if_neg hd,if_neg hd];rfl
 have J3:∀n,10<=n->Zac.j3 n lb s.k s.o s.a s.b s.c s.u s.e s.nm=some (ltx lb s t,0,()):=fun n hn=>by
  unfold Zac.j3 ltx stx;by_cases hl:lb=[]
  ·subst hl;rw[if_neg (by decide),J6 n [] hn (by simp) (by simp),if_pos rfl];by_cases h0:s.k=0
   ·rw[if_pos h0,if_pos h0];rfl
   ·rw[if_neg h0,if_neg h0];simp[L.sjoinR]
  ·rw[if_pos (by simp[hl]),if_pos (by simp;omega),if_pos (by simp),J6 n _ hn (by simp) (by simp;omega),if_neg hl];by_cases h0:s.k=0
   ·rw[if_pos h0,if_pos h0];simp[L.sjoinR]
   ·rw[if_neg h0,if_neg h0,if_neg h0];simp[L.sjoinR]
 unfold H6 Zac.g;have hN:10<=1000+lb.length+s.k.toNat+s.o.toNat+s.a.toNat+s.b.toNat+s.c.toNat+s.e.length+s.nm.length:=by omega
 generalize 1000+lb.length+s.k.toNat+s.o.toNat+s.a.toNat+s.b.toNat+s.c.toNat+s.e.length+s.nm.length=n at hN;unfold Zac.f;have hmay:Zaj.g s.k s.o s.a s.b s.c s.u s.e s.nm=some (true,()):=Kg h;rw[hmay,J3 n hN,mD];simp only[Pn];rcases hlb with rfl|hlb;·rfl
 ·rw[hlb];have:lb≠[]:=by rintro rfl;exact absurd hlb (by decide)
  rw[if_pos (by simp[this]),if_pos (by decide),if_neg (by decide)]
end Rv
namespace Rv
open Go
theorem Ha(c:UInt8)(hc:c∈([40,41,42,43,45,44,58,61]:Str))(k:Int)(r:Str):aH k (c::r)=jr [(3,k,[c],0,())] (aH (k+1) r):=by
 have step:isL c=false/\isD c=false/\c≠46/\isS c=true/\c≠59/\c≠32/\c≠9:=by
  simp only[Py,Qn,or_false] at hc;rcases hc with rfl|rfl|rfl|rfl|rfl|rfl|rfl|rfl<;>decide
 obtain⟨h1,h2,h3,h4,h5,h6,h7⟩:=step;rw[d9,if_neg h5,if_neg (fun h=>h.elim h6 h7)];unfold iB;rw[if_neg (by simp[h1]),if_neg (by simp[h2]),if_neg (fun h=>h3 h.1),if_pos h4];dsimp only;rw[show k+((0:Nat):Int)+(([c]:Str).length:Int)=k+1 by simp,show 0+([c]:Str).length-1=0 from rfl,PZ];cases aH (k+1) r<;>rfl
def bO(s:Str)(b:List Bt):Prop:=∀k:Int,∃ts:List ai,ts.map bare=b/\∀r,aH k (s++r)=jr ts (aH (k+s.length) r)
theorem bO.scans{s:Str}{b:List Bt}(h:bO s b):bG s b:=fun k=>by
 obtain⟨ts,h1,h2⟩:=h k;exact⟨ts,h1,fun r _=>h2 r⟩
theorem bO.sig(c:UInt8)(hc:c∈([40,41,42,43,45,44,58,61]:Str)):bO [c] [(3,[c],0)]:=fun k=>⟨[(3,k,[c],0,())],rfl,fun r=>Ha c hc k r⟩
theorem bO.blank:bO [32] []:=fun k=>⟨[],rfl,fun r=>by
 show aH k (32::r)=_;rw[qf];show _=jr [] (aH (k+1) r);cases aH (k+1) r<;>rfl⟩
theorem tF:bG [] []:=fun k=>⟨[],rfl,fun r _=>by
 show aH k r=jr [] (aH (k+((0:Nat):Int)) r);rw[show k+((0:Nat):Int)=k by omega];cases aH k r<;>rfl⟩
theorem bO.app{s s':Str}{b b':List Bt}(h:bO s b)(h':bG s' b'):bG (s++s') (b++b'):=fun k=>by
 obtain⟨ts,h1,h2⟩:=h k;obtain⟨ts',h3,h4⟩:=h' (k+s.length);refine⟨ts++ts',by rw[P9,h1,h3],fun r hr=>?_⟩;rw[Pz,h2,h4 r hr,<- gL,Pt];congr 2;omega
theorem bO.appA{s s':Str}{b b':List Bt}(h:bO s b)(h':bO s' b'):bO (s++s') (b++b'):=fun k=>by
 obtain⟨ts,h1,h2⟩:=h k;obtain⟨ts',h3,h4⟩:=h' (k+s.length);refine⟨ts++ts',by rw[P9,h1,h3],fun r=>?_⟩;rw[Pz,h2,h4 r,<- gL,Pt];congr 2;omega
theorem bG.app{s s':Str}{b b':List Bt}(h:bG s b)(h':bG s' b')(hs:s'=[]\/∃c y,s'=c::y/\isW c=false):bG (s++s') (b++b'):=fun k=>by
 obtain⟨ts,h1,h2⟩:=h k;obtain⟨ts',h3,h4⟩:=h' (k+s.length);refine⟨ts++ts',by rw[P9,h1,h3],fun r hr=>?_⟩;have hok:okR (s'++r):=by
  rcases hs with rfl|⟨c,y,rfl,hc⟩;·exact hr
  ·exact .inr ⟨c,y++r,rfl,hc⟩
 rw[Pz,h2 _ hok,h4 r hr,<- gL,Pt];congr 2;omega
theorem bG.appA{s s':Str}{b b':List Bt}(h:bG s b)(h':bO s' b')(hs:∃c y,s'=c::y/\isW c=false):bO (s++s') (b++b'):=fun k=>by
 obtain⟨ts,h1,h2⟩:=h k;obtain⟨ts',h3,h4⟩:=h' (k+s.length);refine⟨ts++ts',by rw[P9,h1,h3],fun r=>?_⟩;have hok:okR (s'++r):=by
  obtain⟨c,y,rfl,hc⟩:=hs;exact .inr ⟨c,y++r,rfl,hc⟩
 rw[Pz,h2 _ hok,h4 r,<- gL,Pt];congr 2;omega
def kU(s:Str):Bool:=s.all isW&&(match s with|c::_=>isL c|[]=>false)
theorem lL{s:Str}(h:kU s=true):bG s [(1,s,0)]:=fun k=>by
 cases s with
 |nil=>exact absurd h (by decide)
 |cons c t=>
  unfold kU at h;simp only[Ps] at h;refine⟨[(1,k,c::t,0,())],rfl,fun r hr=>sw rfl h.1 (fun r hr=>?_) k hr⟩;have hword:aW (c::(t++r))=c::t:=by
   rw[<- List.cons_append];exact qO h.1 hr
  unfold iB;rw[if_pos h.2,hword]
theorem Iu{s:Str}(h:kU s=true):bG (46::s) [(4,s,0)]:=fun k=>by
 cases s with
 |nil=>exact absurd h (by decide)
 |cons c t=>
  unfold kU at h;simp only[Ps] at h;refine⟨[(4,k,c::t,0,())],rfl,fun r hr=>?_⟩;have hword:aW (c::t++r)=c::t:=qO h.1 hr;rw[List.cons_append,d9,if_neg (by decide),if_neg (by decide)];unfold iB;rw[if_neg (by decide),if_neg (by decide),if_pos ⟨rfl,c,rfl,h.2⟩,hword];dsimp only;rw[show(c::t++r).drop (1+(c::t).length-1)=r by rw[Nat.add_sub_cancel_left];exact List.drop_left' rfl,show k+((1:Nat):Int)+((c::t).length:Int)=k+((46::c::t).length:Int) by simp;omega];cases aH (k+((46::c::t).length:Int)) r<;>rfl
theorem uZ{s:Str}(h:az s=true):bG s [(1,s,0)]:=fun k=>⟨_,rfl,fun r hr=>w9 h k hr⟩
theorem lG{s:Str}(h:dB s=true):az s=true:=by
 unfold dB at h;simp only[Ps,Pw,Bool.not_eq_true'] at h;unfold az;simp only[Ps,Pw,Bool.not_eq_true'];have hd:∀n:Nat,n<256->isA (UInt8.ofNat n)=true->isD (UInt8.ofNat n)=false:=by decide +kernel
 have:=hd (s.getD 0 0).toNat (UInt8.toNat_lt _)
 rw[UInt8.ofNat_toNat] at this;exact⟨⟨⟨⟨h.1.1.1.1,h.1.1.1.2⟩,this h.1.1.2⟩,h.2⟩,h.1.2⟩
theorem kD{a:Int}(h:rg a):kU (rn a)=true:=by
 have:∀k:Nat,k<16->kU (fH k)=true:=by decide +kernel
 exact this a.toNat (by have:=h.1;have:=h.2;omega)
theorem MU:∀e∈L.nameTbl,kU e.2.2=true:=by decide +kernel
theorem zw{k o:Int}{u:Bool}(h:L.mnemR k o u≠[]):kU (L.mnemR k o u)=true:=by
 obtain⟨e,he,_,h2⟩:=vP h;rw[<- h2];exact MU e he
def i0B(k o:Nat)(u:Bool):Bool:=((k == 1||k == 2)&&decide (o<12)&&(!u||(o == 0&&k == 2)||(decide (8<=o)&&decide (o<=10))))||((k == 3||k == 4)&&o == 0&&!u)||(k == 5&&decide (o<4)&&!u)||k == 6||k == 7
theorem NF:∀k:Nat,k<8->∀o:Nat,o<16->∀u:Bool,i0B k o u=true->L.mnemR (hk (k:Int)) (o:Int) u≠[]:=by decide +kernel
theorem DV{k o a b c:Int}{u:Bool}(h:bU k o a b c u):L.mnemR (hk k) o u≠[]:=by
 obtain⟨h1,h2,h3,h4⟩:=mi h;obtain⟨k',rfl⟩:∃k':Nat,k=(k':Int):=⟨k.toNat,by omega⟩
 obtain⟨o',rfl⟩:∃o':Nat,o=(o':Int):=⟨o.toNat,by omega⟩
 refine NF k' (by omega) o' (by omega) u ?_;generalize hk':(k':Int)=K at h;generalize ho':(o':Int)=O at h;have kk:∀n:Nat,K=(n:Int)->k'=n:=fun n e=>by omega
 have oo:∀n:Nat,O=(n:Int)->o'=n:=fun n e=>by omega
 unfold i0B;cases h with
 |reg q1 q2 _ _ _ q3=>
  rw[kk 1 rfl];have:o'<12:=by omega
  cases u with
  |false=>simp[this]
  |true=>
   have:=q3 rfl;have:8<=o'/\o'<=10:=by omega
   simp[*]
 |mov _ _=>rw[kk 1 rfl,oo 0 rfl];decide
 |imm q1 q2 _ _ q3=>
  rw[kk 2 rfl];have:o'<12:=by omega
  cases u with
  |false=>simp[this]
  |true=>
   have:=q3 rfl;have:8<=o'/\o'<=10:=by omega
   simp[*]
 |movi _=>rw[kk 2 rfl,oo 0 rfl];cases u<;>decide
 |hi _=>rw[kk 3 rfl,oo 0 rfl];decide
 |fl _=>rw[kk 4 rfl,oo 0 rfl];decide
 |mem q1 q2 _ _=>
  rw[kk 5 rfl];have:o'<4:=by omega
  simp[this]
 |br _ _=>rw[kk 6 rfl];simp
 |jmp _=>rw[kk 7 rfl];simp
theorem rU{s:Sm}{t:Option Tr}(h:GoodS s t)(h0:s.k≠0):L.mnemR (hk s.k) s.o s.u≠[]:=by
 cases h with
 |none=>exact absurd rfl h0
 |ins0 h _=>exact DV h
 |ins1 h _ _=>exact DV h
 |load _ _=>exact(by decide +kernel:L.mnemR (hk 8) 0 false≠[])
 |word _=>exact(by decide +kernel:L.mnemR (hk 9) 0 false≠[])
 |exp _=>exact(by decide +kernel:L.mnemR (hk 10) 0 false≠[])
def Av:List (List Bt)->List Bt
 |[]=>[]
 |x::r=>x++(r.map ((3,[44],0)::·)).flatten
def mtk(s:Sm):Bt:=(if s.k=9\/s.k=10 then 4 else 1,L.mnemR (hk s.k) s.o s.u,0)
def ek:Option Tr->List Bt
 |none=>[]
 |some t=>t.toks
def wtk(s:Sm)(t:Option Tr):Od->List Bt
 | .A=>[(1,rn s.a,0)] | .B=>[(1,rn s.b,0)] | .C=>[(1,rn s.c,0)] | .E=>ek t | .Q=>(3,[61],0)::ek t | .N=>[(1,s.nm,0)]
def stk(s:Sm)(t:Option Tr):List Bt:=if s.k=0 then[] else mtk s::Av ((odL s.k s.o).map (wtk s t))
def ltk(lb:Str)(s:Sm)(t:Option Tr):List Bt:=if lb=[] then stk s t else(1,lb,0)::(3,[58],0)::stk s t
theorem Cj{s:Sm}{t:Option Tr}{d:Od}(h:mO s t d):bG (wtx s t d) (wtk s t d):=by
 cases d with
 |A=>exact lL (kD h)
 |B=>exact lL (kD h)
 |C=>exact lL (kD h)
 |E=>obtain⟨x,rfl,hx,_⟩:=h;exact iW x hx.1
 |Q=>
  obtain⟨x,rfl,hx,_⟩:=h;exact((bO.sig 61 (by decide)).appA bO.blank).app (iW x hx.1)
 |N=>exact uZ (lG h)
theorem FV{s:Sm}{t:Option Tr}:∀(l:List Od),(∀d∈l,mO s t d)->bG (L.sjoinR [44,32] (l.map (wtx s t))) (Av (l.map (wtk s t)))
 |[],_=>tF
 |d::l,h=>by
  have tail:∀l:List Od,(∀d∈l,mO s t d)->bG (((l.map (wtx s t)).map (([44,32]:Str)++·)).flatten) (((l.map (wtk s t)).map ((3,[44],0)::·)).flatten)/\((((l.map (wtx s t)).map (([44,32]:Str)++·)).flatten)=[]\/∃c y,(((l.map (wtx s t)).map (([44,32]:Str)++·)).flatten)=c::y/\isW c=false):=by
   intro l
   induction l with
   |nil=>intro _;exact⟨tF,.inl rfl⟩
   |cons e l ih=>
    intro h;obtain⟨h1,h2⟩:=ih fun d hd=>h d (PE _ hd)
    have h3:=Cj (h e (Qc ..));refine⟨?_,.inr ⟨44,_,rfl,by decide⟩⟩;have:=(((bO.sig 44 (by decide)).appA bO.blank).app h3).app h1 h2;simpa using this
  obtain⟨h1,h2⟩:=tail l fun d hd=>h d (PE _ hd)
  exact(Cj (h d (Qc ..))).app h1 h2
theorem zN{s:Sm}{t:Option Tr}(h:GoodS s t):bG (stx s t) (stk s t):=by
 unfold stx stk;by_cases h0:s.k=0;·rw[if_pos h0,if_pos h0];exact tF
 ·rw[if_neg h0,if_neg h0];have hw:=zw (rU h h0);have hm:bG (mtx s) [mtk s]:=by
   unfold mtx mtk;by_cases hd:s.k=9\/s.k=10;·rw[if_pos hd,if_pos hd];exact Iu hw
   ·rw[if_neg hd,if_neg hd];exact lL hw
  exact hm.app (bO.blank.app (FV _ (kg h))) (.inr ⟨32,_,rfl,by decide⟩)
theorem Iw{s:Sm}{t:Option Tr}(h:GoodS s t){lb:Str}(hlb:lb=[]\/az lb=true):bG (ltx lb s t) (ltk lb s t):=by
 unfold ltx ltk;by_cases hl:lb=[]
 ·rw[if_pos hl,if_pos hl];exact zN h
 ·rw[if_neg hl,if_neg hl];have h1:=uZ (hlb.resolve_left hl);have h2:bG (58::(if s.k=0 then[] else 32::stx s t)) ((3,[58],0)::stk s t):=by
   by_cases h0:s.k=0;·rw[if_pos h0,show stk s t=[] by unfold stk;rw[if_pos h0]];exact(bO.sig 58 (by decide)).scans
   ·rw[if_neg h0];exact(bO.sig 58 (by decide)).app (bO.blank.app (zN h))
  exact h1.app h2 (.inr ⟨58,_,rfl,by decide⟩)
theorem Ng{s:Sm}{t:Option Tr}(h:GoodS s t):(stx s t).length<=4100:=by
 unfold stx;split;·simp
 ·have:=tJ [44,32] 1300 ((odL s.k s.o).map (wtx s t)) (fun x hx=>by
   obtain⟨d,hd,rfl⟩:=PQ.1 hx;exact EE (kg h d hd))
  rw[PU] at this;have h2:(1300+([44,32]:Str).length)*(odL s.k s.o).length<=1302*3:=Nat.mul_le_mul (by decide) (uy _ _);have h3:(mtx s).length<=7:=by
   unfold mtx;have:=mI (hk s.k) s.o s.u;rw[Pt];split<;>simp<;>omega
  rw[Pt,PG];omega
theorem ym{s:Sm}{t:Option Tr}(h:GoodS s t){lb:Str}(hlb:lb=[]\/az lb=true):(ltx lb s t).length<=5000:=by
 have h1:=Ng h;have hll:lb.length<=12:=by
  rcases hlb with rfl|hlb;·simp
  ·unfold az at hlb;simp only[Ps,Pw] at hlb;exact hlb.1.1.1.2
 unfold ltx;split;·omega
 ·rw[Pt,PG];split
  ·simp;omega
  ·rw[PG];omega
end Rv
namespace Rv
open Go
def gI(l:List ai)(p:Nat)(c:UInt8):Bool:=decide (p<l.length)&&decide ((l.getD p aL).1=3)&&decide ((l.getD p aL).2.2.1=[c])
abbrev XR:=Except Int (List Item×Nat)
def xF(l:List ai)(S F:Nat->XR)(p:Nat):XR:=
 if gI l p 45=true then(match F (p+1) with | .error e=>.error e | .ok r=>.ok (r.1++[(3,0,[],())],r.2))
 else if gI l p 40=true then(match S (p+1) with | .error e=>.error e | .ok r=>if gI l r.2 41=true then .ok (r.1,r.2+1) else .error 23)
 else if p<l.length/\(l.getD p aL).1=2 then .ok ([(1,(l.getD p aL).2.2.2.1,[],())],p+1)
 else if p<l.length/\(l.getD p aL).1=1/\az (l.getD p aL).2.2.1=true then .ok ([(2,0,(l.getD p aL).2.2.1,())],p+1)
 else .error 23
def lT(l:List ai)(F:Nat->XR):Nat->List Item->Nat->XR
 |0,it,p=>.ok (it,p)
 |m+1,it,p=>if gI l p 42=true then(match F (p+1) with | .error e=>.error e | .ok r=>lT l F m (it++r.1++[(6,0,[],())]) r.2) else .ok (it,p)
def xT(l:List ai)(F:Nat->XR)(p:Nat):XR:=match F p with | .error e=>.error e | .ok r=>lT l F (l.length+1) r.1 r.2
def lS(l:List ai)(T:Nat->XR):Nat->List Item->Nat->XR
 |0,it,p=>.ok (it,p)
 |m+1,it,p=>if gI l p 43=true then(match T (p+1) with | .error e=>.error e | .ok r=>lS l T m (it++r.1++[(4,0,[],())]) r.2)
  else if gI l p 45=true then(match T (p+1) with | .error e=>.error e | .ok r=>lS l T m (it++r.1++[(5,0,[],())]) r.2) else .ok (it,p)
def xS(l:List ai)(F:Nat->XR)(p:Nat):XR:=match xT l F p with | .error e=>.error e | .ok r=>lS l (xT l F) (l.length+1) r.1 r.2
def pF(l:List ai):Nat->Nat->XR
 |0,_=>.error 24
 |q+1,p=>xF l (xS l (pF l q)) (pF l q) p
def dC(l:List ai)(p:Nat):List Item×Int×Int×Unit:=
 match xS l (pF l 9) p with
 | .error e=>([],0,e,())
 | .ok r=>if 64<r.1.length then([],0,24,()) else(r.1,(r.2:Int),0,())
structure OkX (l:List ai) (p:Nat) (it:List Item) (p':Nat):Prop where
 lt:p<p'
 le:p'<=l.length
 len:it.length<=p'-p
 well:gM it
 good:(∀t∈l,0<=t.2.2.2.1/\t.2.2.2.1<=4294967295)->∀x∈it,vJ x
def iN(l:List ai)(p:Nat):XR->Prop
 | .error e=>e=23\/e=24
 | .ok r=>OkX l p r.1 r.2
theorem MF{l:List ai}{p:Nat}{c:UInt8}(h:gI l p c=true):p<l.length:=by
 unfold gI at h;simp only[Ps,Pw] at h;exact h.1.1
theorem zb{l:List ai}{p:Nat}(h:p<l.length):l.getD p aL∈l:=by
 rw[PM,PI h];exact Qp h
theorem Mt{l:List ai}{S F:Nat->XR}(hS:∀p,iN l p (S p))(hF:∀p,iN l p (F p))(p:Nat):iN l p (xF l S F p):=by
 unfold xF;split
 ·rename_i h;have:=hF (p+1);cases hr:F (p+1) with
  |error e=>rw[hr] at this;exact this
  |ok r=>
   rw[hr] at this;have h1:=this.lt;have h2:=this.len;have h3:=this.le;refine⟨by dsimp only;omega,h3,by simp;omega,Lg this.well _ rfl,fun ht x hx=>?_⟩;simp only[PL,PV] at hx;rcases hx with hx|rfl;·exact this.good ht x hx
   ·exact⟨by decide,by decide,rfl⟩
 ·split
  ·have:=hS (p+1);cases hr:S (p+1) with
   |error e=>rw[hr] at this;exact this
   |ok r=>
    rw[hr] at this;dsimp only;split;·rename_i h;have h0:=MF h;have h1:=this.lt;have h2:=this.len;have h3:=this.le;exact⟨by dsimp only;omega,by dsimp only;omega,by dsimp only;omega,this.well,this.good⟩
    ·exact .inl rfl
  ·split
   ·rename_i h;refine⟨by dsimp only;omega,by have:=h.1;dsimp only;omega,by simp,rfl,fun ht x hx=>?_⟩;simp only[PV] at hx;subst hx;have:=ht _ (zb h.1);exact⟨this.1,this.2,rfl⟩
   ·split
    ·rename_i h;have hn:aC (2,0,(l.getD p aL).2.2.1,())=(0,true):=by
      generalize (l.getD p aL).2.2.1=tx at h;unfold aC;simp[h.2.2]
     refine⟨by dsimp only;omega,by have:=h.1;dsimp only;omega,by simp,?_,fun ht x hx=>?_⟩
     ·show enough 0 [((2,0,(l.getD p aL).2.2.1,()):Item)]=some 1;generalize ((2,0,(l.getD p aL).2.2.1,()):Item)=x at hn;simp[enough,hn]
     ·simp only[PV] at hx;subst hx;exact⟨by show(0:Int)<=0;decide,by show(0:Int)<=_;decide,by rw[hn]⟩
    ·exact .inl rfl
theorem rT{l:List ai}{a b c:Nat}{A B:List Item}(ha:OkX l a A b)(hb:OkX l (b+1) B c)(x:Item)(hx:aC x=(2,true))(h0:x.2.1=0):OkX l a (A++B++[x]) c:=by
 have h1:=ha.lt;have h2:=ha.len;have h3:=hb.lt;have h4:=hb.len;refine⟨by omega,hb.le,by simp;omega,Lh ha.well hb.well x hx,fun ht y hy=>?_⟩;simp only[PL,PV] at hy;rcases hy with(hy|hy)|rfl;·exact ha.good ht y hy
 ·exact hb.good ht y hy
 ·exact⟨by rw[h0];decide,by rw[h0];decide,by rw[hx]⟩
theorem Bo{l:List ai}{F:Nat->XR}(hF:∀p,iN l p (F p))(a:Nat):∀(m:Nat) (it:List Item) (p:Nat),OkX l a it p->iN l a (lT l F m it p)
 |0,it,p,h=>h
 |m+1,it,p,h=>by
  rw[lT];split
  ·have:=hF (p+1);cases hr:F (p+1) with
   |error e=>rw[hr] at this;exact this
   |ok r=>
    rw[hr] at this;exact Bo hF a m _ _ (rT h this _ rfl rfl)
  ·exact h
theorem ul{l:List ai}{F:Nat->XR}(hF:∀p,iN l p (F p))(p:Nat):iN l p (xT l F p):=by
 unfold xT;have:=hF p;cases hr:F p with
 |error e=>rw[hr] at this;exact this
 |ok r=>rw[hr] at this;exact Bo hF p _ _ _ this
theorem vK{l:List ai}{F:Nat->XR}(hF:∀p,iN l p (F p))(a:Nat):∀(m:Nat) (it:List Item) (p:Nat),OkX l a it p->iN l a (lS l F m it p)
 |0,it,p,h=>h
 |m+1,it,p,h=>by
  rw[lS];split
  ·have:=hF (p+1);cases hr:F (p+1) with
   |error e=>rw[hr] at this;exact this
   |ok r=>
    rw[hr] at this;exact vK hF a m _ _ (rT h this _ rfl rfl)
  ·split
   ·have:=hF (p+1);cases hr:F (p+1) with
    |error e=>rw[hr] at this;exact this
    |ok r=>
     rw[hr] at this;exact vK hF a m _ _ (rT h this _ rfl rfl)
   ·exact h
theorem jZ{l:List ai}{F:Nat->XR}(hF:∀p,iN l p (F p))(p:Nat):iN l p (xS l F p):=by
 unfold xS;have:=ul hF p;cases hr:xT l F p with
 |error e=>rw[hr] at this;exact this
 |ok r=>rw[hr] at this;exact vK (ul hF) p _ _ _ this
theorem dG(l:List ai):∀(q p:Nat),iN l p (pF l q p)
 |0,_=>.inr rfl
 |q+1,p=>Mt (jZ (dG l q)) (dG l q) p
theorem qI(all:List Str)(hall:all.length<=100)(l:List ai)(p:Nat)(hl:l.length<=1000000)(out:List Item):Zaf.g all l p out 0 =
  if p<l.length/\(l.getD p aL).1=3/\(l.getD p aL).2.2.1∈all then some ((l.getD p aL).2.2.1,true,l,((p+1:Nat):Int),out,0,()) else some ([],false,l,(p:Int),out,0,()):=by
 unfold Zaf.g Zaf.f;by_cases hp:p<l.length
 ·rw[lX l p out hp,Pn];dsimp only;have:=jC (1000+all.length+l.length+(p:Int).toNat+out.length+(0:Int).toNat) all hall true l p out 0 (l.getD p aL).1 (l.getD p aL).2.1 (l.getD p aL).2.2.1 (l.getD p aL).2.2.2.1 (1000+all.length+l.length+(p:Int).toNat+out.length+(0:Int).toNat) 0 (by omega) (by omega);rw[show((0:Nat):Int)=0 from rfl] at this;rw[this,w64 (by omega),PZ];by_cases h:(l.getD p aL).1=3/\(l.getD p aL).2.2.1∈all
  ·rw[if_pos ⟨rfl,h⟩,if_pos ⟨hp,h⟩];rfl
  ·rw[if_neg (fun g=>h g.2),if_neg (fun g=>h g.2)]
 ·rw[vQ l p out (by omega),Pn];dsimp only;have:=jC (1000+all.length+l.length+(p:Int).toNat+out.length+(0:Int).toNat) all hall false l p out 0 0 0 [] 0 (1000+all.length+l.length+(p:Int).toNat+out.length+(0:Int).toNat) 0 (by omega) (by omega);rw[show((0:Nat):Int)=0 from rfl] at this;rw[this,if_neg (fun g=>by cases g.1),if_neg (fun g=>hp g.1)]
theorem bE{l:List ai}{p:Nat}{c:UInt8}:gI l p c=true↔p<l.length/\(l.getD p aL).1=3/\(l.getD p aL).2.2.1=[c]:=by
 unfold gI;simp only[Ps,Pw,and_assoc]
theorem jy(a b:Int)(c:Str)(l:List ai)(p:Int)(out:List Item)(e:Int)(ho:out.length<=3000000):Zar.g a b c l p out e=some (l,p,out++[(a,b,c,())],e,()):=by
 unfold Zar.g Zar.f;rw[if_pos (by simp;omega)]
def EH(l:List ai)(out:List Item)(B:Nat)(r:Option (List ai×Int×List Item×Int×Unit)):XR->Prop
 | .ok x=>r=some (l,(x.2:Int),out++x.1,0,())
 | .error e=>∃p' out',r=some (l,p',out',e,())/\out'.length<=B
def Ja(l:List ai)(out:List Item)(d:Int)(B:Nat)(r:Option (List ai×Int×List Item×Int×Unit×Int×Unit)):XR->Prop
 | .ok x=>r=some (l,(x.2:Int),out++x.1,0,(),d,())
 | .error e=>∃p' out',r=some (l,p',out',e,(),d,())/\out'.length<=B
def BL(l:List ai)(q:Nat):Prop:=∀(p:Nat) (out:List Item) (Q:Nat),out.length+(l.length-p)<=1000000->6*q+1<=Q->EH l out (2000000+3*q) ((R Q).expr_parser_factor ((9-q:Nat):Int) l p out 0) (pF l q p)
def Kw(l:List ai)(q:Nat):Prop:=∀(p:Nat) (out:List Item) (Q:Nat),out.length+(l.length-p)<=1000000->6*q+4<=Q->∃r,(R Q).expr_parser_sum_1 ((9-q:Nat):Int) l p out 0=r.map (fun y=>((),((9-q:Nat):Int),y))/\EH l out (2000000+3*q+1) r (xT l (pF l q) p)
def NR(l:List ai)(q:Nat):Prop:=∀(p:Nat) (out:List Item) (Q:Nat),out.length+(l.length-p)<=1000000->6*q+6<=Q->EH l out (2000000+3*q+2) ((R Q).expr_parser_sum ((9-q:Nat):Int) l p out 0) (xS l (pF l q) p)
theorem oH{l:List ai}{p:Nat}{x:XR}{e:Int}(h:iN l p x)(hx:x=.error e):e≠0:=by
 subst hx;rcases h with rfl|rfl<;>decide
theorem Nt{l:List ai}(hl:l.length<=1000000){q:Nat}(hq9:q<=9)(hF:BL l q)(n:Nat)(Q:Nat)(hQ:6*q+2<=Q)(out:List Item):∀(m M:Nat) (it:List Item) (p:Nat),l.length-p<m->l.length-p<M->(out++it).length+(l.length-p)<=1000000 ->
  Ja l out ((9-q:Nat):Int) (2000000+3*q+1) (expr_parser_row_c257.l1 n (R Q) M dA l p (out++it) 0 ((9-q:Nat):Int)) (lT l (pF l q) m it p):=by
 intro m
 induction m with
 |zero=>intro M it p h;omega
 |succ m ih=>
  intro M it p hm hM ho;obtain⟨M,rfl⟩:∃M',M=M'+1:=⟨M-1,by omega⟩
  rw[expr_parser_row_c257.l1,qI dA (by simp) l p hl,lT];by_cases hs:gI l p 42=true
  ·have hs':=bE.1 hs;rw[if_pos ⟨hs'.1,hs'.2.1,by rw[hs'.2.2];decide⟩,if_pos hs,Pn,hs'.2.2];dsimp only;rw[if_neg (by decide)];obtain⟨Q,rfl⟩:∃Q',Q=Q'+1:=⟨Q-1,by omega⟩
   have e:(R (Q+1)).expr_parser_sum_1_1 ((9-q:Nat):Int) l ((p+1:Nat):Int) (out++it) 0=expr_parser_sum_1_1.h (R Q) ((9-q:Nat):Int) l ((p+1:Nat):Int) (out++it) 0:=rfl;rw[e];unfold expr_parser_sum_1_1.h expr_parser_sum_1_1.f;have hg:=dG l q (p+1);have hr:=hF (p+1) (out++it) Q (by omega) (by omega);cases hx:pF l q (p+1) with
   |error e=>
    rw[hx] at hr;obtain⟨p',out',h1,h2⟩:=hr;have hne:=oH hg hx;have hlt:=hs'.1;rw[h1,Pn,Pn];dsimp only;rw[jy _ _ _ _ _ _ _ (by omega),Pn];dsimp only;obtain⟨M,rfl⟩:∃M',M=M'+1:=⟨M-1,by omega⟩
    rw[uq n _ M l p' _ e _ hne];exact⟨p',_,rfl,by simp;omega⟩
   |ok r=>
    rw[hx] at hr hg;have hr:(R Q).expr_parser_factor ((9-q:Nat):Int) l ((p+1:Nat):Int) (out++it) 0=some (l,(r.2:Int),(out++it)++r.1,0,()):=hr;have g1:=hg.lt;have g2:=hg.len;have g3:=hg.le;rw[hr,Pn,Pn];dsimp only;rw[jy _ _ _ _ _ _ _ (by simp at ho⊢;omega),Pn];dsimp only;have:=ih M (it++r.1++[(6,0,[],())]) r.2 (by omega) (by omega) (by simp at ho⊢;omega);rw[show out++it++r.1++[((L.kinds [42]).1,0,[],())]=out++(it++r.1++[(6,0,[],())]) by simp[L.kinds]];exact this
  ·rw[if_neg (fun h=>hs (bE.2 ⟨h.1,h.2.1,by simpa using h.2.2⟩)),if_neg hs,Pn];rfl
theorem Nu{l:List ai}(hl:l.length<=1000000){q:Nat}(hq9:q<=9)(hF:BL l q):Kw l q:=by
 intro p out Q ho hQ;obtain⟨Q,rfl⟩:∃Q',Q=Q'+2:=⟨Q-2,by omega⟩
 have e:(R (Q+2)).expr_parser_sum_1 ((9-q:Nat):Int) l (p:Int) out 0=expr_parser_sum_1.h (R (Q+1)) ((9-q:Nat):Int) l (p:Int) out 0:=rfl;rw[e];unfold expr_parser_sum_1.h expr_parser_sum_1.f;have e2:(R (Q+1)).expr_parser_row_c257 dA l (p:Int) out 0 ((9-q:Nat):Int)=expr_parser_row_c257.h (R Q) dA l (p:Int) out 0 ((9-q:Nat):Int):=rfl;rw[e2];unfold expr_parser_row_c257.h expr_parser_row_c257.f;obtain⟨N,hN⟩:∃N,1000+dA.length+l.length+(p:Int).toNat+out.length+(0:Int).toNat+(((9-q:Nat):Int)).toNat=N:=⟨_,rfl⟩
 rw[hN];obtain⟨Q,rfl⟩:∃Q',Q=Q'+1:=⟨Q-1,by omega⟩
 have e3:(R (Q+1)).expr_parser_sum_1_1 ((9-q:Nat):Int) l (p:Int) out 0=expr_parser_sum_1_1.h (R Q) ((9-q:Nat):Int) l (p:Int) out 0:=rfl;rw[e3];unfold expr_parser_sum_1_1.h expr_parser_sum_1_1.f;have hg:=dG l q p;have hr:=hF p out Q (by omega) (by omega);unfold xT;cases hx:pF l q p with
 |error e=>
  rw[hx] at hr;obtain⟨p',out',h1,h2⟩:=hr;have hne:=oH hg hx;rw[h1,Pn,Pn];dsimp only;obtain⟨M,rfl⟩:∃M',N=M'+1:=⟨N-1,by omega⟩
  rw[uq _ _ M l p' _ e _ hne,Pn];exact⟨some (l,p',out',e,()),rfl,p',out',rfl,by omega⟩
 |ok r=>
  rw[hx] at hr hg;have hr:(R Q).expr_parser_factor ((9-q:Nat):Int) l (p:Int) out 0=some (l,(r.2:Int),out++r.1,0,()):=hr;have g1:=hg.lt;have g2:=hg.len;have g3:=hg.le;rw[hr,Pn,Pn];dsimp only;have:=Nt hl hq9 hF N (Q+1) (by omega) out (l.length+1) N r.1 r.2 (by omega) (by omega) (by simp;omega);generalize expr_parser_row_c257.l1 N (R (Q+1)) N dA l (r.2:Int) (out++r.1) 0 ((9-q:Nat):Int)=X at this;cases hy:lT l (pF l q) (l.length+1) r.1 r.2 with
  |error e=>
   rw[hy] at this;obtain⟨p',out',h1,h2⟩:=this;rw[h1,Pn];exact⟨some (l,p',out',e,()),rfl,p',out',rfl,h2⟩
  |ok x=>
   rw[hy] at this;have this:X=some (l,(x.2:Int),out++x.1,0,(),((9-q:Nat):Int),()):=this;rw[this,Pn];exact⟨some (l,(x.2:Int),out++x.1,0,()),rfl,rfl⟩
theorem Nn{l:List ai}(hl:l.length<=1000000){q:Nat}(hq9:q<=9)(hT:Kw l q)(n:Nat)(Q:Nat)(hQ:6*q+4<=Q)(out:List Item):∀(m M:Nat) (it:List Item) (p:Nat),l.length-p<m->l.length-p<M->(out++it).length+(l.length-p)<=1000000 ->
  Ja l out ((9-q:Nat):Int) (2000000+3*q+2) (expr_parser_row_c256.l1 n (R Q) M dH l p (out++it) 0 ((9-q:Nat):Int)) (lS l (xT l (pF l q)) m it p):=by
 intro m
 induction m with
 |zero=>intro M it p h;omega
 |succ m ih=>
  intro M it p hm hM ho;obtain⟨M,rfl⟩:∃M',M=M'+1:=⟨M-1,by omega⟩
  rw[expr_parser_row_c256.l1,qI dH (by simp) l p hl,lS];have step:∀(c:UInt8) (K:Int),(L.kinds [c]).1=K->gI l p c=true ->
    Ja l out ((9-q:Nat):Int) (2000000+3*q+2) (((R Q).expr_parser_sum_1 ((9-q:Nat):Int) l ((p+1:Nat):Int) (out++it) 0).bind fun y2=>(Zar.g ((L.kinds [c]).1) 0 ([]:Str) y2.2.2.1 y2.2.2.2.1 y2.2.2.2.2.1 y2.2.2.2.2.2.1).bind fun y3=>(expr_parser_row_c256.l1 n (R Q) M) dH y3.1 y3.2.1 y3.2.2.1 y3.2.2.2.1 y2.2.1)
     (match xT l (pF l q) (p+1) with | .error e=>.error e | .ok r=>lS l (xT l (pF l q)) m (it++r.1++[(K,0,[],())]) r.2):=by
   intro c K hK hs;have hs':=bE.1 hs;have hlt:=hs'.1;have hg:=ul (dG l q) (p+1);obtain⟨rr,h0,hr⟩:=hT (p+1) (out++it) Q (by omega) hQ;rw[h0];cases hx:xT l (pF l q) (p+1) with
   |error e=>
    rw[hx] at hr;obtain⟨p',out',h1,h2⟩:=hr;have hne:=oH hg hx;rw[h1,Qh,Pn];dsimp only;rw[jy _ _ _ _ _ _ _ (by omega),Pn];dsimp only;obtain⟨M,rfl⟩:∃M',M=M'+1:=⟨M-1,by omega⟩
    rw[uo n _ M l p' _ e _ hne];exact⟨p',_,rfl,by simp;omega⟩
   |ok r=>
    rw[hx] at hr hg;have hr:rr=some (l,(r.2:Int),(out++it)++r.1,0,()):=hr;have g1:=hg.lt;have g2:=hg.len;have g3:=hg.le;rw[hr,Qh,Pn];dsimp only;rw[jy _ _ _ _ _ _ _ (by simp at ho⊢;omega),Pn];dsimp only;have:=ih M (it++r.1++[(K,0,[],())]) r.2 (by omega) (by omega) (by simp at ho⊢;omega);rw[hK,show out++it++r.1++[(K,0,[],())]=out++(it++r.1++[(K,0,[],())]) by simp];exact this
  by_cases hs:gI l p 43=true;·have hs':=bE.1 hs;rw[if_pos ⟨hs'.1,hs'.2.1,by rw[hs'.2.2];decide⟩,if_pos hs,Pn,hs'.2.2];dsimp only;rw[if_neg (by decide)];exact step 43 4 rfl hs
  ·by_cases hs2:gI l p 45=true
   ·have hs':=bE.1 hs2;rw[if_pos ⟨hs'.1,hs'.2.1,by rw[hs'.2.2];decide⟩,if_neg hs,if_pos hs2,Pn,hs'.2.2];dsimp only;rw[if_neg (by decide)];exact step 45 5 rfl hs2
   ·rw[if_neg (fun h=>by
     have h3:=h.2.2;simp only[Py,Qn,or_false] at h3;rcases h3 with h3|h3;·exact hs (bE.2 ⟨h.1,h.2.1,h3⟩)
     ·exact hs2 (bE.2 ⟨h.1,h.2.1,h3⟩)),if_neg hs,if_neg hs2,Pn]
    rfl
theorem Np{l:List ai}(hl:l.length<=1000000){q:Nat}(hq9:q<=9)(hT:Kw l q):NR l q:=by
 intro p out Q ho hQ;obtain⟨Q,rfl⟩:∃Q',Q=Q'+2:=⟨Q-2,by omega⟩
 have e:(R (Q+2)).expr_parser_sum ((9-q:Nat):Int) l (p:Int) out 0=expr_parser_sum.h (R (Q+1)) ((9-q:Nat):Int) l (p:Int) out 0:=rfl;rw[e];unfold expr_parser_sum.h expr_parser_sum.f;have e2:(R (Q+1)).expr_parser_row_c256 dH l (p:Int) out 0 ((9-q:Nat):Int)=expr_parser_row_c256.h (R Q) dH l (p:Int) out 0 ((9-q:Nat):Int):=rfl;rw[e2];unfold expr_parser_row_c256.h expr_parser_row_c256.f;obtain⟨N,hN⟩:∃N,1000+dH.length+l.length+(p:Int).toNat+out.length+(0:Int).toNat+(((9-q:Nat):Int)).toNat=N:=⟨_,rfl⟩
 rw[hN];have hg:=ul (dG l q) p;obtain⟨rr,h0,hr⟩:=hT p out Q (by omega) (by omega);rw[h0];unfold xS;cases hx:xT l (pF l q) p with
 |error e=>
  rw[hx] at hr;obtain⟨p',out',h1,h2⟩:=hr;have hne:=oH hg hx;rw[h1,Qh,Pn];dsimp only;obtain⟨M,rfl⟩:∃M',N=M'+1:=⟨N-1,by omega⟩
  rw[uo _ _ M l p' _ e _ hne,Pn];exact⟨p',out',rfl,by omega⟩
 |ok r=>
  rw[hx] at hr hg;have hr:rr=some (l,(r.2:Int),out++r.1,0,()):=hr;have g1:=hg.lt;have g2:=hg.len;have g3:=hg.le;rw[hr,Qh,Pn];dsimp only;have:=Nn hl hq9 hT N Q (by omega) out (l.length+1) N r.1 r.2 (by omega) (by omega) (by simp;omega);generalize expr_parser_row_c256.l1 N (R Q) N dH l (r.2:Int) (out++r.1) 0 ((9-q:Nat):Int)=X at this;cases hy:lS l (xT l (pF l q)) (l.length+1) r.1 r.2 with
  |error e=>
   rw[hy] at this;obtain⟨p',out',h1,h2⟩:=this;rw[h1,Pn];exact⟨p',out',rfl,h2⟩
  |ok x=>
   rw[hy] at this;have this:X=some (l,(x.2:Int),out++x.1,0,(),((9-q:Nat):Int),()):=this;rw[this,Pn];rfl
theorem OY{l:List ai}(hl:l.length<=1000000){q:Nat}(hq9:q+1<=9)(hF:BL l q)(hS:NR l q):BL l (q+1):=by
 intro p out Q ho hQ;obtain⟨Q,rfl⟩:∃Q',Q=Q'+1:=⟨Q-1,by omega⟩
 have e:(R (Q+1)).expr_parser_factor ((9-(q+1):Nat):Int) l (p:Int) out 0=expr_parser_factor.h (R Q) ((9-(q+1):Nat):Int) l (p:Int) out 0:=rfl;rw[e];unfold expr_parser_factor.h expr_parser_factor.f;have hd:IntKind.i64.wrap (((9-(q+1):Nat):Int)+1)=((9-q:Nat):Int):=by rw[w64 (by omega)];omega
 rw[if_neg (by decide),if_neg (by simp;omega),qI [[45],[40]] (by simp) l p hl,hd];show EH l out _ _ (xF l (xS l (pF l q)) (pF l q) p);unfold xF;by_cases h1:gI l p 45=true
 ·have hs':=bE.1 h1;rw[if_pos ⟨hs'.1,hs'.2.1,by rw[hs'.2.2];decide⟩,if_pos h1,Pn,hs'.2.2];dsimp only;rw[if_pos (by decide)];have hlt:=hs'.1;have hg:=dG l q (p+1);have hr:=hF (p+1) out Q (by omega) (by omega);cases hx:pF l q (p+1) with
  |error e=>
   rw[hx] at hr;obtain⟨p',out',h3,h2⟩:=hr;rw[h3,Pn];dsimp only;rw[jy _ _ _ _ _ _ _ (by omega),Pn];exact⟨p',_,rfl,by simp;omega⟩
  |ok r=>
   rw[hx] at hr hg;have hr:(R Q).expr_parser_factor ((9-q:Nat):Int) l ((p+1:Nat):Int) out 0=some (l,(r.2:Int),out++r.1,0,()):=hr;have g1:=hg.lt;have g2:=hg.len;have g3:=hg.le;rw[hr,Pn];dsimp only;rw[jy _ _ _ _ _ _ _ (by simp;omega),Pn];show some (l,(r.2:Int),out++r.1++[(3,0,[],())],0,())=some (l,(r.2:Int),out++(r.1++[(3,0,[],())]),0,());rw[Pz]
 ·by_cases h2:gI l p 40=true
  ·have hs':=bE.1 h2;rw[if_pos ⟨hs'.1,hs'.2.1,by rw[hs'.2.2];decide⟩,if_neg h1,if_pos h2,Pn,hs'.2.2];dsimp only;rw[if_neg (by decide),if_pos (by decide)];have hlt:=hs'.1;have hg:=jZ (dG l q) (p+1);have hr:=hS (p+1) out Q (by omega) (by omega);cases hx:xS l (pF l q) (p+1) with
   |error e=>
    rw[hx] at hr;obtain⟨p',out',h3,h4⟩:=hr;have hne:=oH hg hx;rw[h3,Pn];dsimp only;rw[qJ _ (by simp) l p' out' e hne,Pn];dsimp only;rw[if_pos (show(!false)=true from rfl),Be 23 l p' out' e hne,Pn];exact⟨p',out',rfl,by omega⟩
   |ok r=>
    rw[hx] at hr hg;have hr:(R Q).expr_parser_sum ((9-q:Nat):Int) l ((p+1:Nat):Int) out 0=some (l,(r.2:Int),out++r.1,0,()):=hr;have g1:=hg.lt;have g2:=hg.len;have g3:=hg.le;rw[hr,Pn];dsimp only;rw[qI [[41]] (by simp) l r.2 hl];by_cases h3:gI l r.2 41=true;·have hs2:=bE.1 h3;rw[if_pos ⟨hs2.1,hs2.2.1,by rw[hs2.2.2];decide⟩,if_pos h3,Pn];dsimp only;rw[if_neg (by decide)];rfl
    ·rw[if_neg (fun h=>h3 (bE.2 ⟨h.1,h.2.1,by simpa using h.2.2⟩)),if_neg h3,Pn];dsimp only;rw[if_pos (show(!false)=true from rfl),oI,Pn];exact⟨_,_,rfl,by simp;omega⟩
  ·rw[if_neg (fun h=>by
     have h3:=h.2.2;simp only[Py,Qn,or_false] at h3;rcases h3 with h3|h3;·exact h1 (bE.2 ⟨h.1,h.2.1,h3⟩)
     ·exact h2 (bE.2 ⟨h.1,h.2.1,h3⟩)),if_neg h1,if_neg h2,Pn]
   dsimp only;rw[if_neg (show ¬decide (([]:Str)=[45])=true by decide),if_neg (show ¬decide (([]:Str)=[40])=true by decide)];by_cases hp:p<l.length
   ·rw[lX l p out hp,Pn];dsimp only;generalize ht:l.getD p aL=t;by_cases k2:t.1=2
    ·rw[if_pos (show true=true from rfl),if_pos (show decide (t.1=2)=true by simp[k2]),if_pos (show p<l.length/\t.1=2 from⟨hp,k2⟩),jy _ _ _ _ _ _ _ (by omega),Pn];unfold expr_parser_factor.j19;dsimp only;rw[w64 (by omega)];rfl
    ·rw[if_pos (show true=true from rfl),if_neg (show ¬decide (t.1=2)=true by simp[k2]),if_pos (show true=true from rfl),if_neg (show ¬(p<l.length/\t.1=2) from fun h=>k2 h.2)];by_cases k1:t.1=1
     ·rw[if_pos (show decide (t.1=1)=true by simp[k1]),mD,Pn];dsimp only;by_cases hL:az t.2.2.1=true
      ·rw[if_pos hL,if_pos (show p<l.length/\t.1=1/\az t.2.2.1=true from⟨hp,k1,hL⟩),jy _ _ _ _ _ _ _ (by omega),Pn];unfold expr_parser_factor.j19;dsimp only;rw[w64 (by omega)];rfl
      ·rw[if_neg hL,if_neg (show ¬(p<l.length/\t.1=1/\az t.2.2.1=true) from fun h=>hL h.2.2),oI,Pn];exact⟨_,_,rfl,by dsimp only;omega⟩
     ·rw[if_neg (show ¬decide (t.1=1)=true by simp[k1]),if_neg (show ¬(p<l.length/\t.1=1/\az t.2.2.1=true) from fun h=>k1 h.2.1),oI,Pn];exact⟨_,_,rfl,by dsimp only;omega⟩
   ·rw[vQ l p out (by omega),Pn];dsimp only;rw[if_neg (show ¬false=true by decide),if_neg (show ¬false=true by decide),if_neg (show ¬(p<l.length/\(l.getD p aL).1=2) from fun h=>hp h.1),if_neg (show ¬(p<l.length/\(l.getD p aL).1=1/\az (l.getD p aL).2.2.1=true) from fun h=>hp h.1),oI,Pn];exact⟨_,_,rfl,by dsimp only;omega⟩
theorem EF{l:List ai}(hl:l.length<=1000000):∀q,q<=9->BL l q
 |0,_=>fun p out Q ho hQ=>by
  obtain⟨Q,rfl⟩:∃Q',Q=Q'+1:=⟨Q-1,by omega⟩
  exact⟨_,_,Gd Q l p out,by omega⟩
 |q+1,h=>OY hl h (EF hl q (by omega)) (Np hl (by omega) (Nu hl (by omega) (EF hl q (by omega))))
theorem zC(l:List ai)(hl:l.length<=1000000)(p:Nat):Zat.g l p=some (dC l p):=by
 unfold Zat.g Zat.f expr_parser_sum.g;have hr:=Np hl (by decide) (Nu hl (by decide) (EF hl 9 (by decide))) p [] (1000+(0:Int).toNat+l.length+(p:Int).toNat+([]:List Item).length+(0:Int).toNat) (by simp;omega) (by omega);have hg:=jZ (dG l 9) p;unfold dC;cases hx:xS l (pF l 9) p with
 |error e=>
  rw[hx] at hr;obtain⟨p',out',h3,_⟩:=hr;have hne:=oH hg hx;rw[show((9-9:Nat):Int)=0 from rfl] at h3;rw[h3,Pn];dsimp only;rw[if_neg (by simpa using hne)];unfold Zat.j5;rw[if_pos (by simpa using hne)]
 |ok r=>
  rw[hx] at hr;have hr:(R (1000+(0:Int).toNat+l.length+(p:Int).toNat+([]:List Item).length+(0:Int).toNat)).expr_parser_sum ((9-9:Nat):Int) l (p:Int) [] 0=some (l,(r.2:Int),[]++r.1,0,()):=hr;rw[show((9-9:Nat):Int)=0 from rfl] at hr;rw[hr,Pn];dsimp only;rw[if_pos (show decide ((0:Int)=0)=true from rfl),Qg];by_cases h64:64<r.1.length;·rw[if_pos (by simp;omega),if_pos h64];unfold Zat.j5;rw[if_pos (by decide)]
  ·rw[if_neg (by simp;omega),if_neg h64];unfold Zat.j5;rw[if_neg (by decide)]
end Rv
namespace Rv
open Go
def pk(kd:Int)(l:List ai)(p:Nat)(e:Int):Str:=if e=0/\p<l.length/\(l.getD p aL).1=kd then(l.getD p aL).2.2.1 else[]
def chk(ok:Bool)(e:Int):Int:=if ok=false/\e=0 then 22 else e
theorem Eg(kd:Int)(l:List ai)(p:Nat)(e:Int):Zcj.g kd l p e=some (pk kd l p e,l,(p:Int),e,()):=by
 unfold Zcj.g Zcj.f pk;simp only[dt,df,PN];by_cases h:e=0
 ·rw[if_pos (by simp[h])];by_cases hp:p<l.length
  ·rw[if_pos (by omega),if_pos (by omega)];by_cases hk:(l.getD p aL).1=kd
   ·rw[if_neg (by simpa using hk),if_pos (by omega),if_pos ⟨h,hp,hk⟩]
   ·rw[if_pos (by simpa using hk),if_neg (fun g=>hk g.2.2)]
  ·rw[if_neg (by omega),if_neg (fun g=>hp g.2.1)]
 ·rw[if_neg (by simp[h]),if_neg (fun g=>h g.1)]
theorem uG(kd:Int)(l:List ai)(p:Nat)(e:Int)(hp:p<=9000000):Zbl.g kd l p e=some (pk kd l p e,l,((p+1:Nat):Int),e,()):=by
 unfold Zbl.g Zbl.f;rw[Eg,Pn];dsimp only;rw[w64 (by omega)];rfl
theorem fC(ok:Bool)(l:List ai)(p:Int)(e:Int):Zau.g ok l p e=some (l,p,chk ok e,()):=by
 unfold Zau.g Zau.f chk;cases ok
 ·by_cases h:e=0
  ·rw[if_pos (show(!false)=true from rfl),if_pos (by simp[h]),if_pos ⟨rfl,h⟩]
  ·rw[if_pos (show(!false)=true from rfl),if_neg (by simp[h]),if_neg (fun g=>h g.2)]
 ·rw[if_neg (by decide),if_neg (fun g=>by cases g.1)]
theorem HZ{l:List ai}(hl:∀t∈l,t.2.2.1.length<=1000000)(kd:Int)(p:Nat)(e:Int):(pk kd l p e).length<=1000000:=by
 unfold pk;split;·rename_i h;exact hl _ (zb h.2.1)
 ·simp
def chK(l:List ai)(p:Nat)(e:Int)(s:Sm):Int:=
 if s.k=1/\((bN (pk 1 l p e)).2=false\/(s.u=true/\s.o=0)) then 2 else if s.k=7/\(bN (pk 1 l p e)).2=true then 6 else s.k
abbrev smR(l:List ai)(p:Nat)(e:Int)(s:Sm):List ai×Int×Int×Int×Int×Int×Int×Int×Bool×List Item×Str×Unit:=(l,(p:Int),e,s.k,s.o,s.a,s.b,s.c,s.u,s.e,s.nm,())
theorem Gv{l:List ai}(hl:∀t∈l,t.2.2.1.length<=1000000)(p:Nat)(e:Int)(s:Sm):Zdd.g l p e s.k s.o s.a s.b s.c s.u s.e s.nm=some (smR l p e { s with k:=chK l p e s }):=by
 unfold Zdd.g Zdd.f chK;rw[Eg,Pn];dsimp only;rw[Il _ (HZ hl 1 p e),Pn];dsimp only;generalize (bN (pk 1 l p e)).2=is;simp only[dt];by_cases h1:s.k=1
 ·rw[if_pos h1];cases is
  ·rw[if_neg (by decide),if_pos ⟨h1,.inl rfl⟩]
  ·rw[if_pos (by decide)];by_cases hu:s.u=true
   ·rw[if_pos hu];by_cases ho:s.o=0
    ·rw[if_pos ho,if_pos ⟨h1,.inr ⟨hu,ho⟩⟩]
    ·rw[if_neg ho,if_neg (by omega),if_neg (fun g=>by rcases g.2 with g|g;cases g;exact ho g.2),if_neg (fun g=>by omega)]
   ·rw[if_neg hu,if_neg (by omega),if_neg (fun g=>by rcases g.2 with g|g;cases g;exact hu g.1),if_neg (fun g=>by omega)]
 ·have hm:(if s.k=1/\(is=false\/(s.u=true/\s.o=0)) then(2:Int) else if s.k=7/\is=true then 6 else s.k)=if s.k=7/\is=true then 6 else s.k:=if_neg (fun g=>h1 g.1)
  rw[if_neg h1,hm];by_cases h7:s.k=7
  ·rw[if_pos h7];cases is
   ·rw[if_neg (by decide),if_neg (fun g=>by cases g.2)]
   ·rw[if_pos rfl,if_pos ⟨h7,rfl⟩]
  ·have hm2:(if s.k=7/\is=true then(6:Int) else s.k)=s.k:=if_neg (fun g=>h7 g.1);rw[if_neg h7,hm2]
def rdE(l:List ai)(p:Nat)(e:Int)(s:Sm):Nat×Int×Sm:=if e=0 then((dC l p).2.1.toNat,(dC l p).2.2.1,{ s with e:=(dC l p).1 }) else(p,e,s)
def rd(l:List ai)(p:Nat)(e:Int)(s:Sm):Od->Nat×Int×Sm
 | .A=>(p+1,chk (bN (pk 1 l p e)).2 e,{ s with a:=(bN (pk 1 l p e)).1 })
 | .B=>(p+1,chk (bN (pk 1 l p e)).2 e,{ s with b:=(bN (pk 1 l p e)).1 })
 | .C=>(p+1,chk (bN (pk 1 l p e)).2 e,{ s with c:=(bN (pk 1 l p e)).1 })
 | .E=>rdE l p e s
 | .Q=>rdE l (p+1) (chk (decide (pk 3 l p e=[61])) e) s
 | .N=>(p+1,chk (dB (pk 1 l p e)) e,{ s with nm:=pk 1 l p e })
abbrev smO(l:List ai)(r:Nat×Int×Sm):=smR l r.1 r.2.1 r.2.2
theorem zD(l:List ai)(p:Nat):(dC l p).2.1=((dC l p).2.1.toNat:Int)/\(dC l p).2.1.toNat<=l.length:=by
 unfold dC;have hg:=jZ (dG l 9) p;cases hx:xS l (pF l 9) p with
 |error e=>exact⟨rfl,Nat.zero_le _⟩
 |ok r=>
  rw[hx] at hg;have:=hg.le;dsimp only;split;·exact⟨rfl,Nat.zero_le _⟩
  ·exact⟨by dsimp only;omega,by dsimp only;omega⟩
section
variable{l:List ai}(hl0:l.length<=1000000)(hl:∀t∈l,t.2.2.1.length<=1000000)
include hl0 in
theorem Ls(n p:Nat)(e:Int)(s:Sm):Zbd.j2 n l p e s.k s.o s.a s.b s.c s.u s.e s.nm=some (smO l (rdE l p e s)):=by
 unfold Zbd.j2 rdE;simp only[dt];by_cases h:e=0;·rw[if_pos h,if_pos h,zC l hl0 p,Pn];have:=(zD l p).1;show some (l,(dC l p).2.1,_)=some (l,((dC l p).2.1.toNat:Int),_);rw[<- this]
 ·rw[if_neg h,if_neg h]
include hl in
theorem yz(p:Nat)(hp:p<=9000000)(e:Int)(s:Sm)(d:Od)(f:Fn)(hd:(d=.A/\f=K.atA)\/(d=.B/\f=K.atB)\/(d=.C/\f=K.atC)):Zck.g f l p e s.k s.o s.a s.b s.c s.u s.e s.nm=some (smO l (rd l p e s d)):=by
 unfold Zck.g Zck.f;rw[uG 1 l p e hp,Pn];dsimp only;rw[Il _ (HZ hl 1 p e),Pn];dsimp only;rw[fC,Pn];dsimp only;rcases hd with⟨rfl,rfl⟩|⟨rfl,rfl⟩|⟨rfl,rfl⟩;·rw[if_pos rfl];rfl
 ·rw[if_neg (by decide),if_pos rfl];rfl
 ·rw[if_neg (by decide),if_neg (by decide),if_pos rfl];rfl
include hl0 in
theorem Ea(p:Nat)(hp:p<=9000000)(e:Int)(s:Sm):Zbd.g [] l p e s.k s.o s.a s.b s.c s.u s.e s.nm=some (smO l (rd l p e s .E))/\Zbd.g [61] l p e s.k s.o s.a s.b s.c s.u s.e s.nm=some (smO l (rd l p e s .Q)):=by
 constructor;·unfold Zbd.g Zbd.f;rw[if_neg (by decide)];exact Ls hl0 _ p e s
 ·unfold Zbd.g Zbd.f;rw[if_pos (by decide),uG 3 l p e hp,Pn];dsimp only;rw[fC,Pn];exact Ls hl0 _ (p+1) _ s
theorem MP(p:Nat)(hp:p<=9000000)(e:Int)(s:Sm):Zde.g l p e s.k s.o s.a s.b s.c s.u s.e s.nm=some (smO l (rd l p e s .N)):=by
 unfold Zde.g Zde.f;rw[uG 1 l p e hp,Pn];dsimp only;rw[si,Pn];dsimp only;rw[fC,Pn];rfl
def aI(l:List ai)(op:Int)(many i p:Nat)(e:Int)(s:Sm):Nat×Int×Sm:=
 let p1:=if 0<i then p+1 else p
 let e1:=if 0<i then chk (decide (pk 3 l p e=[44])) e else e
 let s1:=if i+1=many then { s with k:=chK l p1 e1 s } else s
 match (odL s1.k op)[i]? with
 |some d=>rd l p1 e1 s1 d
 |none=>(p1,e1,s1)
def aM(l:List ai)(op:Int)(many:Nat):Nat->Nat->Nat×Int×Sm->Nat×Int×Sm
 |0,_,r=>r
 |m+1,i,r=>aM l op many m (i+1) (aI l op many i r.1 r.2.1 r.2.2)
abbrev PR:=Str×Int×Int×Int×Int×Int×Bool×List Item×Str×Int×Unit
def nW(lb:Str)(e:Int)(s:Sm):PR:=if e≠0 then([],0,0,0,0,0,false,[],[],e,()) else(lb,s.k,s.o,s.a,s.b,s.c,s.u,s.e,s.nm,0,())
def lh(l:List ai)(lb:Str)(r:Nat×Int×Sm):PR:=nW lb (chk (decide (l.length<=r.1)) r.2.1) r.2.2
theorem oD(p:Nat)(e:Int)(s:Sm)(op:Int):(odL (chK l p e s) op).length=(odL s.k op).length:=by
 unfold chK;split;·rename_i h;rw[h.1];unfold odL;split<;>(first|contradiction|skip)<;>simp<;>split<;>rfl
 ·split
  ·rename_i h;rw[h.1];rfl
  ·rfl
theorem Pj(p:Nat)(e:Int)(s:Sm)(d:Od):(rd l p e s d).2.2.k=s.k:=by
 have h:∀p e,(rdE l p e s).2.2.k=s.k:=fun p e=>by unfold rdE;split<;>rfl
 cases d<;>first|rfl|exact h _ _
theorem Pk(p:Nat)(e:Int)(s:Sm)(d:Od):(rd l p e s d).1<=max (p+1) l.length:=by
 have h:∀p e,(rdE l p e s).1<=max p l.length:=fun p e=>by
  unfold rdE;have:=(zD l p).2;split<;>dsimp only<;>omega
 cases d with
 |A=>show p+1<=_;omega
 |B=>show p+1<=_;omega
 |C=>show p+1<=_;omega
 |N=>show p+1<=_;omega
 |E=>have:=h p e;show(rdE l p e s).1<=_;omega
 |Q=>exact h (p+1) _
theorem Og(op:Int)(many i p:Nat)(e:Int)(s:Sm):(odL (aI l op many i p e s).2.2.k op).length=(odL s.k op).length:=by
 unfold aI;dsimp only;split
 ·rw[Pj];split
  ·exact oD _ _ s op
  ·rfl
 ·dsimp only;split
  ·exact oD _ _ s op
  ·rfl
theorem Oh(op:Int)(many i p:Nat)(e:Int)(s:Sm):(aI l op many i p e s).1<=max (p+2) l.length:=by
 unfold aI;dsimp only;generalize hp1:(if 0<i then p+1 else p)=p1;have h1:p1<=p+1:=by rw[<- hp1];split<;>omega
 generalize (if 0<i then chk (decide (pk 3 l p e=[44])) e else e)=e1;split;·have:=Pk (l:=l) p1 e1 (if i+1=many then { s with k:=chK l p1 e1 s } else s) ‹Od›;omega
 ·dsimp only;omega
include hl0 hl in
theorem NG(n:Nat)(rl)(lb:Str)(op:Int)(many i:Nat)(p:Nat)(hp:p<=9000000)(e:Int)(s:Sm)(d:Od)(hd:(odL s.k op)[i]?=some d) :
  Zab.j19 n rl l lb op (many:Int) (i:Int) (many:Int) (i:Int) s.k s.o s.a s.b s.c s.u s.e s.nm l p e =
   Zab.j20 n rl l lb op (many:Int) (many:Int) (i:Int) (rd l p e s d).2.2.k (rd l p e s d).2.2.o (rd l p e s d).2.2.a (rd l p e s d).2.2.b (rd l p e s d).2.2.c (rd l p e s d).2.2.u (rd l p e s d).2.2.e (rd l p e s d).2.2.nm l (rd l p e s d).1 (rd l p e s d).2.1:=by
 unfold Zab.j19;have hi:i<(odL s.k op).length:=by
  rcases Nat.lt_or_ge i (odL s.k op).length with h|h;·exact h
  ·rw[List.getElem?_eq_none h] at hd;cases hd
 have hg:((odL s.k op).map odF).getD ((i:Int)).toNat (((0,[]):Fn),(((0,[]):Fn),()))=odF d:=by
  rw[PN,PM,Ql,hd];rfl
 rw[uz,hg,if_pos (by rw[PU];omega)];cases d with
 |A=>
  show(if K.rdA=K.rdA then _ else _)=_;rw[if_pos rfl,yz hl p hp e s .A _ (.inl ⟨rfl,rfl⟩),Pn]
 |B=>
  show(if K.rdB=K.rdA then _ else if K.rdB=K.rdB then _ else _)=_;rw[if_neg (by decide),if_pos rfl,yz hl p hp e s .B _ (.inr (.inl ⟨rfl,rfl⟩)),Pn]
 |C=>
  show(if K.rdC=K.rdA then _ else if K.rdC=K.rdB then _ else if K.rdC=K.rdC then _ else _)=_;rw[if_neg (by decide),if_neg (by decide),if_pos rfl,yz hl p hp e s .C _ (.inr (.inr ⟨rfl,rfl⟩)),Pn]
 |E=>
  show(if K.rdE=K.rdA then _ else if K.rdE=K.rdB then _ else if K.rdE=K.rdC then _ else if K.rdE=K.rdE then _ else _)=_;rw[if_neg (by decide),if_neg (by decide),if_neg (by decide),if_pos rfl,(Ea hl0 p hp e s).1,Pn]
 |Q=>
  show(if K.rdQ=K.rdA then _ else if K.rdQ=K.rdB then _ else if K.rdQ=K.rdC then _ else if K.rdQ=K.rdE then _ else if K.rdQ=K.rdQ then _ else _)=_;rw[if_neg (by decide),if_neg (by decide),if_neg (by decide),if_neg (by decide),if_pos rfl,(Ea hl0 p hp e s).2,Pn]
 |N=>
  show(if K.rdN=K.rdA then _ else if K.rdN=K.rdB then _ else if K.rdN=K.rdC then _ else if K.rdN=K.rdE then _ else if K.rdN=K.rdQ then _ else if K.rdN=K.rdN then _ else _)=_;rw[if_neg (by decide),if_neg (by decide),if_neg (by decide),if_neg (by decide),if_neg (by decide),if_pos rfl,MP p hp e s,Pn]
include hl0 hl in
theorem FE(n:Nat)(lb:Str)(op:Int)(many:Nat)(h3:many<=3):∀(M m i:Nat) (p:Nat) (e:Int) (s:Sm),i+m=many->m<M->p<=8000000+10*i->(odL s.k op).length=many ->
  Zab.l13 n M l lb op (many:Int) (many:Int) (i:Int) s.k s.o s.a s.b s.c s.u s.e s.nm l p e=some (lh l lb (aM l op many m i (p,e,s))):=by
 intro M
 induction M with
 |zero=>intro m i p e s _ h;omega
 |succ M ih=>
  intro m i p e s him hm hp hk;rw[Zab.l13];simp only[dt];cases m with
  |zero=>
   rw[if_neg (by omega),fC,Pn];dsimp only[aM];unfold Zab.j22 lh nW;simp only[dt];have:decide ((l.length:Int)<=(p:Int))=decide (l.length<=p):=by
    rw[Bool.eq_iff_iff,Pw,Pw];omega
   rw[this];split<;>rfl
  |succ m=>
   rw[if_pos (by omega)];dsimp only[aM];have hsk:=Og (l:=l) op many i p e s;have hsp:=Oh (l:=l) op many i p e s;have nxt:=fun h=>ih m (i+1) (aI l op many i p e s).1 (aI l op many i p e s).2.1 (aI l op many i p e s).2.2 (by omega) (by omega) (by omega) h
   rw[hsk] at nxt;have nxt:=nxt hk;have J:∀(p1:Nat) (e1:Int),p1<=9000000->p1=(if 0<i then p+1 else p)->e1=(if 0<i then chk (decide (pk 3 l p e=[44])) e else e) ->
     Zab.j17 n (Zab.l13 n M) l lb op (many:Int) (i:Int) (many:Int) (i:Int) s.k s.o s.a s.b s.c s.u s.e s.nm l p1 e1=some (lh l lb (aM l op many m (i+1) (aI l op many i p e s))):=by
    intro p1 e1 hp1 hp1' he1';have fin:∀s1:Sm,s1=(if i+1=many then { s with k:=chK l p1 e1 s } else s)->Zab.j19 n (Zab.l13 n M) l lb op (many:Int) (i:Int) (many:Int) (i:Int) s1.k s1.o s1.a s1.b s1.c s1.u s1.e s1.nm l p1 e1=some (lh l lb (aM l op many m (i+1) (aI l op many i p e s))):=by
     intro s1 hs1;have hlen:(odL s1.k op).length=many:=by
      rw[hs1];split;·rw[<- hk];exact oD _ _ s op
      ·exact hk
     obtain⟨d,hd⟩:∃d,(odL s1.k op)[i]?=some d:=⟨_,PI (by omega)⟩
     have hst:aI l op many i p e s=rd l p1 e1 s1 d:=by
      unfold aI;dsimp only;rw[<- hp1',<- he1',<- hs1,hd]
     rw[NG hl0 hl n _ lb op many i p1 hp1 e1 s1 d hd,<- hst];unfold Zab.j20;rw[w64 (by omega),show(i:Int)+1=((i+1:Nat):Int) by omega];exact nxt
    unfold Zab.j17;simp only[dt];have hw:IntKind.i64.wrap ((many:Int)-1)=(many:Int)-1:=w64 (by omega);rw[hw];by_cases hlast:i+1=many;·rw[if_pos (by omega),Gv hl p1 e1 s,Pn];exact fin { s with k:=chK l p1 e1 s } (by rw[if_pos hlast])
    ·rw[if_neg (by omega)];exact fin s (by rw[if_neg hlast])
   by_cases h0:0<i;·rw[if_pos (by omega),uG 3 l p e (by omega),Pn];dsimp only;rw[fC,Pn];exact J (p+1) _ (by omega) (by rw[if_pos h0]) (by rw[if_pos h0])
   ·rw[if_neg (by omega)];exact J p e (by omega) (by rw[if_neg h0]) (by rw[if_neg h0])
def gH(l:List ai)(lb:Str)(p:Nat)(e:Int):PR:=
 if e=0/\p<l.length then
  let t:=l.getD p aL
  let w:=L.ofR t.2.2.1
  let ok:=w.2.2.2.1&&(decide (t.1=4) == decide (w.1=9\/w.1=10))&&(decide (t.1=4)||decide (t.1=1))
  lh l lb (aM l w.2.1 (odL w.1 w.2.1).length (odL w.1 w.2.1).length 0 (p+1,chk ok e,⟨w.1,w.2.1,0,0,0,w.2.2.1,[],[]⟩))
 else nW lb e ⟨0,0,0,0,0,false,[],[]⟩
def jf(l:List ai):PR:=
 if 1<l.length/\(l.getD 0 aL).1=1/\gI l 1 58=true then gH l (l.getD 0 aL).2.2.1 2 (chk (az (l.getD 0 aL).2.2.1) 0) else gH l [] 0 0
include hl0 hl in
theorem Mw(n:Nat)(hn:10<=n)(lb:Str)(p:Nat)(hp:p<=2)(e:Int):Zab.j5 n l lb 0 0 0 0 0 false [] [] l p e=some (gH l lb p e):=by
 unfold Zab.j5 gH;simp only[dt];by_cases he:e=0
 ·rw[if_pos he];by_cases hp':p<l.length
  ·rw[if_pos (by omega),if_pos (by omega),if_pos ⟨he,hp'⟩,PN];unfold L.nameOfO;rw[Pn];generalize l.getD p aL=t;generalize L.ofR t.2.2.1=w;have J9:∀ok:Bool,Zab.j9 n l lb w.1 w.2.1 w.2.2.1 0 0 0 0 0 false [] [] l (p:Int) (chk ok e)=some (lh l lb (aM l w.2.1 (odL w.1 w.2.1).length (odL w.1 w.2.1).length 0 (p+1,chk ok e,⟨w.1,w.2.1,0,0,0,w.2.2.1,[],[]⟩))):=fun ok=>by
    unfold Zab.j9;have hlen:((L.opsR w.1 w.2.1).length:Int)=((odL w.1 w.2.1).length:Int):=by rw[uz,PU]
    rw[hlen,w64 (by omega)];have h3:=uy w.1 w.2.1;exact FE hl0 hl n lb w.2.1 (odL w.1 w.2.1).length h3 n (odL w.1 w.2.1).length 0 (p+1) (chk ok e) ⟨w.1,w.2.1,0,0,0,w.2.2.1,[],[]⟩ (by omega) (by omega) (by omega) rfl
   cases hok:w.2.2.2.1 with
   |false=>
    rw[if_neg (by decide),fC,Pn];exact J9 false
   |true=>
    rw[if_pos rfl,yR,Pn];dsimp only;cases hq:(decide (t.1=4) == decide (w.1=9\/w.1=10)) with
    |false=>
     rw[if_neg (by decide),fC,Pn];exact J9 false
    |true=>
     rw[if_pos rfl];by_cases h4:t.1=4;·rw[if_neg (by simp[h4]),fC,Pn,decide_eq_true h4];exact J9 true
     ·rw[if_pos (by simp[h4]),fC,Pn,decide_eq_false h4];exact J9 _
  ·rw[if_neg (by omega),if_neg (fun g=>hp' g.2)];unfold Zab.j22 nW;simp only[dt];split<;>rfl
 ·rw[if_neg he,if_neg (fun g=>he g.1)];unfold Zab.j22 nW;simp only[dt];split<;>rfl
include hl0 hl in
theorem zF:Zab.g l=some (jf l):=by
 unfold Zab.g;have hn:10<=1000+l.length:=by omega
 generalize 1000+l.length=n at hn;unfold Zab.f jf;have H:=Mw hl0 hl n hn;have H0:=H [] 0 (by decide) 0;rw[show((0:Nat):Int)=0 from rfl] at H0;simp only[dt];have t0:((0:Int)).toNat=0:=rfl;have t1:((1:Int)).toNat=1:=rfl;rw[t0,t1];by_cases h1:1<l.length
 ·rw[if_pos (by omega),if_pos (by omega)];by_cases k0:(l.getD 0 aL).1=1
  ·rw[if_pos k0,if_pos (by omega)];by_cases k1:(l.getD 1 aL).1=3
   ·rw[if_pos k1,if_pos (by omega)];by_cases k2:(l.getD 1 aL).2.2.1=[58]
    ·rw[if_pos k2,if_pos (by omega),mD,Pn];dsimp only;rw[fC,Pn,if_pos ⟨h1,k0,bE.2 ⟨h1,k1,k2⟩⟩];exact H _ 2 (by decide) _
    ·rw[if_neg k2,if_neg (fun g=>k2 (bE.1 g.2.2).2.2)];exact H0
   ·rw[if_neg k1,if_neg (fun g=>k1 (bE.1 g.2.2).2.1)];exact H0
  ·rw[if_neg k0,if_neg (fun g=>k0 g.2.1)];exact H0
 ·rw[if_neg (by omega),if_neg (fun g=>h1 g.1)];exact H0
end
end Rv
namespace Rv
open Go
theorem kC{a:Int}(h:rg a):bN (rn a)=(a,true):=by
 have:∀k:Nat,k<16->bN (fH k)=((k:Int),true):=by decide +kernel
 have h2:=this a.toNat (by have:=h.1;have:=h.2;omega)
 unfold rn;rw[h2];have:=h.1;rw[show((a.toNat:Nat):Int)=a by omega]
theorem Ik:bN []=(0,false):=by decide +kernel
theorem Dr{s:Str}(h:az s=true):(bN s).2=false:=by
 unfold bN;cases hf:(List.range 16).find? (fun k=>fH k == s) with
 |none=>rfl
 |some k=>
  obtain⟨h1,h2⟩:=qE hf;have:∀k:Nat,k<16->az (fH k)=false:=by decide +kernel
  rw[<- h2,this k h1] at h;cases h
theorem jN{l:List ai}{p:Nat}{kd:Int}{tx:Str}{v:Int}{k:List Bt}(h:At l p ((kd,tx,v)::k)):pk kd l p 0=tx:=by
 obtain⟨h1,h2,_⟩:=At.cons h;simp only[bare,Pv] at h2;unfold pk;rw[if_pos ⟨rfl,h1,h2.1⟩,h2.2.1]
theorem KF{l:List ai}{p:Nat}{kd:Int}{b:Bt}{k:List Bt}(h:At l p (b::k))(hb:b.1≠kd):pk kd l p 0=[]:=by
 obtain⟨h1,h2,_⟩:=At.cons h;unfold pk;rw[if_neg (fun g=>hb (by rw[<- h2];exact g.2.2))]
theorem sV{l:List ai}{p:Nat}{k:List Bt}{a:Int}(ha:rg a)(h:At l p ((1,rn a,0)::k))(s:Sm):rd l p 0 s .A=(p+1,0,{ s with a:=a }):=by
 show(p+1,chk (bN (pk 1 l p 0)).2 0,{ s with a:=(bN (pk 1 l p 0)).1 })=_;rw[jN h,kC ha];rfl
theorem KL{l:List ai}{p:Nat}{k:List Bt}{a:Int}(ha:rg a)(h:At l p ((1,rn a,0)::k))(s:Sm):rd l p 0 s .B=(p+1,0,{ s with b:=a }):=by
 show(p+1,chk (bN (pk 1 l p 0)).2 0,{ s with b:=(bN (pk 1 l p 0)).1 })=_;rw[jN h,kC ha];rfl
theorem KM{l:List ai}{p:Nat}{k:List Bt}{a:Int}(ha:rg a)(h:At l p ((1,rn a,0)::k))(s:Sm):rd l p 0 s .C=(p+1,0,{ s with c:=a }):=by
 show(p+1,chk (bN (pk 1 l p 0)).2 0,{ s with c:=(bN (pk 1 l p 0)).1 })=_;rw[jN h,kC ha];rfl
theorem Ph{l:List ai}{p:Nat}{k:List Bt}{nm:Str}(hn:dB nm=true)(h:At l p ((1,nm,0)::k))(s:Sm):rd l p 0 s .N=(p+1,0,{ s with nm:=nm }):=by
 show(p+1,chk (dB (pk 1 l p 0)) 0,{ s with nm:=pk 1 l p 0 })=_;rw[jN h,hn];rfl
def wK(x:Tr)(p:Nat)(s:Sm):Nat×Int×Sm:=if x.dep<=8 then(p+x.toks.length,0,{ s with e:=x.post }) else(0,24,{ s with e:=[] })
theorem yx{l:List ai}(hl:l.length<=1000000){p:Nat}{x:Tr}(hx:jK x){K:List Bt}(hK:noS dA K/\noS dH K)(h:At l p (x.toks++K))(s:Sm):rd l p 0 s .E=wK x p s:=by
 obtain⟨g1,g2⟩:=GD hx.1 l p K hl hx.2.2.2 h hK.1 hK.2;rw[zC l hl p] at g1 g2;show rdE l p 0 s=_;unfold rdE wK;rw[if_pos rfl];by_cases hd:x.dep<=8;·rw[if_pos hd,Pp (g1 hd)];dsimp only;rw[PN]
 ·rw[if_neg hd,Pp (g2 hd)];rfl
theorem Pi{l:List ai}(hl:l.length<=1000000){p:Nat}{x:Tr}(hx:jK x){K:List Bt}(hK:noS dA K/\noS dH K)(h:At l p ((3,[61],0)::(x.toks++K)))(s:Sm):rd l p 0 s .Q=wK x (p+1) s:=by
 obtain⟨_,_,h2⟩:=At.cons h;rw[<- yx hl hx hK h2 s];show rdE l (p+1) (chk (decide (pk 3 l p 0=[61])) 0) s=rdE l (p+1) 0 s;rw[jN h];rfl
theorem Jl(b:Bool){l:List Bt}(h:∃b r,l=b::r/\(b.1=1->az b.2.1=true)/\b.2.1≠[58]):∃x r,brk b l=x::r/\(x.1=1->az x.2.1=true)/\x.2.1≠[58]:=by
 unfold brk;split;·exact⟨tLp,_,rfl,fun h=>(by cases h),by decide⟩
 ·exact h
theorem tX:∀t:Tr,t.ok->∃b r,t.toks=b::r/\(b.1=1->az b.2.1=true)/\b.2.1≠[58]
 | .num n,h=>by
  refine⟨_,_,rfl,fun h=>(by cases h),fun e=>?_⟩;have e:Lib.itoa n=[58]:=e;obtain⟨m,rfl⟩:∃m:Nat,n=m:=⟨n.toNat,by have:=h.1;omega⟩
  have hi:Lib.itoa (m:Int)=Lib.decDigits m:=by unfold Lib.itoa;rw[if_neg (by omega)];rfl
  have:=(uk m).1;rw[<- hi,e] at this;exact absurd this (by decide)
 | .nam s,h=>by
  refine⟨_,_,rfl,fun _=>h,fun e=>?_⟩;have h:az s=true:=h;have e:s=[58]:=e;rw[e] at h;exact absurd h (by decide)
 | .neg x,_=>⟨yF,_,rfl,fun h=>(by cases h),by decide⟩
 | .br x,_=>⟨tLp,_,rfl,fun h=>(by cases h),by decide⟩
 | .bin o a b,h=>by
  obtain⟨x,r,h1,h2,h3⟩:=Jl (decide (a.tight<o.tight)) (tX a h.1);exact⟨x,_,by show brk _ _++_=_;rw[h1];rfl,h2,h3⟩
theorem BH{l:List ai}{p:Nat}{x:Tr}(hx:x.ok){k:List Bt}(h:At l p (x.toks++k)):(bN (pk 1 l p 0)).2=false:=by
 obtain⟨b,r,h1,h2,_⟩:=tX x hx;rw[h1] at h;by_cases hb:b.1=1;·obtain⟨b1,b2,b3⟩:=b;have hb:b1=1:=hb;subst hb;rw[jN h];exact Dr (h2 rfl)
 ·rw[KF h hb,Ik]
theorem jv{l:List ai}{op:Int}{many p:Nat}{s:Sm}{d:Od}(hm:many≠1)(hd:(odL s.k op)[0]?=some d):aI l op many 0 p 0 s=rd l p 0 s d:=by
 unfold aI;dsimp only;rw[if_neg (by omega),if_neg (by omega),if_neg (by omega),hd]
theorem Cs{l:List ai}{op:Int}{many i p:Nat}{s:Sm}{d:Od}{k:List Bt}(h0:0<i)(hm:i+1≠many)(hd:(odL s.k op)[i]?=some d)(h:At l p ((3,[44],0)::k)):aI l op many i p 0 s=rd l (p+1) 0 s d:=by
 unfold aI;dsimp only;rw[if_pos h0,if_pos h0,if_neg hm,hd,jN h];rfl
theorem lZ{l:List ai}{op:Int}{many i p:Nat}{s:Sm}{d:Od}{k:List Bt}{K:Int}(h0:0<i)(hm:i+1=many)(hK:chK l (p+1) 0 s=K)(hd:(odL K op)[i]?=some d)(h:At l p ((3,[44],0)::k)):aI l op many i p 0 s=rd l (p+1) 0 { s with k:=K } d:=by
 unfold aI;have hc:chk (decide (pk 3 l p 0=[44])) 0=0:=by rw[jN h];rfl
 dsimp only;rw[if_pos h0,if_pos h0,if_pos hm,hc,hK];dsimp only;rw[hd]
theorem kH{l:List ai}{op:Int}{many p:Nat}{s:Sm}{d:Od}{K:Int}(hm:many=1)(hK:chK l p 0 s=K)(hd:(odL K op)[0]?=some d):aI l op many 0 p 0 s=rd l p 0 { s with k:=K } d:=by
 subst hm;unfold aI;dsimp only;rw[if_neg (show ¬0<0 by decide),if_neg (show ¬0<0 by decide),if_pos (show 0+1=1 from rfl),hK];dsimp only;rw[hd]
def jo(q:Nat)(s:Sm)(t:Option Tr)(r:Nat×Int×Sm):Prop:=
 ((∀x,t=some x->x.dep<=8)->r=(q,0,s))/\((∃x,t=some x/\¬x.dep<=8)->∃s',r=(0,24,s'))
theorem jV{q:Nat}{s:Sm}{p:Nat}(hp:p=q):jo q s none (p,0,s):=⟨fun _=>by rw[hp],fun⟨x,h,_⟩=>by cases h⟩
theorem jW{q:Nat}{s s':Sm}{x:Tr}{p:Nat}(hp:p+x.toks.length=q)(hs:{ s' with e:=x.post }=s):jo q s (some x) (wK x p s'):=by
 unfold wK;constructor;·intro h;rw[if_pos (h x rfl),hs,hp]
 ·rintro⟨y,hy,hd⟩;obtain rfl:=Pp hy;rw[if_neg hd];exact⟨_,rfl⟩
theorem At.end{l:List ai}{p:Nat}(h:At l p [])(hp:p<=l.length):p=l.length:=by
 unfold At at h;have:=congrArg List.length h;simp at this;omega
theorem At.tot{l:List ai}{p:Nat}{k:List Bt}(h:At l p k)(hp:p<=l.length):p+k.length=l.length:=by
 unfold At at h;have:=congrArg List.length h;simp at this;omega
theorem dV{l:List ai}{p:Nat}{e:Int}{s:Sm}(h1:s.k≠1)(h7:s.k≠7):chK l p e s=s.k:=by
 unfold chK;rw[if_neg (fun g=>h1 g.1),if_neg (fun g=>h7 g.1)]
theorem Hd{l:List ai}(hl:l.length<=1000000){s:Sm}{t:Option Tr}(h:GoodS s t)(h0:s.k≠0){K:List Bt}(hK:noS dA K/\noS dH K){p:Nat}(hp:p<=l.length)(hat:At l p (Av ((odL s.k s.o).map (wtk s t))++K)) :
  jo (l.length-K.length) s t (aM l s.o (odL (hk s.k) s.o).length (odL (hk s.k) s.o).length 0 (p,0,⟨hk s.k,s.o,0,0,0,s.u,[],[]⟩)):=by
 cases h with
 |none=>exact absurd rfl h0
 |ins0 h hk0=>
  cases h with
  |reg q1 q2 ha hb hc hu=>
   rename_i o a b c u;dsimp only at hat⊢;rw[eO q1] at hat
   have hat:At l p ((1,rn a,0)::(3,[44],0)::(1,rn b,0)::(3,[44],0)::(1,rn c,0)::K):=hat
   obtain⟨_,_,a1⟩:=At.cons hat
   obtain⟨_,_,a2⟩:=At.cons a1;obtain⟨_,_,a3⟩:=At.cons a2;obtain⟨_,_,a4⟩:=At.cons a3;rw[show hk 1=1 from rfl,eO q1];show jo _ _ _ (aM l o 3 3 0 (p,0,_));simp only[aM];rw[jv (d:=.A) (by decide) (by rw[eO q1];rfl),sV ha hat];dsimp only;rw[Cs (d:=.B) (by decide) (by decide) (by rw[eO q1];rfl) a1,KL hb a2];dsimp only;rw[lZ (K:=1) (d:=.C) (by decide) (by decide) (by
    unfold chK;rw[jN a4,kC hc,if_neg (by rintro⟨_,h|h⟩;cases h;have:=h.2;dsimp only at this;omega),if_neg (by rintro⟨h,_⟩;exact absurd (show(1:Int)=7 from h) (by decide))]) (by rw[eO q1];rfl) a3,KM hc a4]
   exact jV (by have:=At.tot hat hp;simp at this;omega)
  |mov ha hc=>
   rename_i a c;have hat:At l p ((1,rn a,0)::(3,[44],0)::(1,rn c,0)::K):=hat
   obtain⟨_,_,a1⟩:=At.cons hat
   obtain⟨_,_,a2⟩:=At.cons a1;show jo _ _ _ (aM l 0 2 2 0 (p,0,_));simp only[aM];rw[jv (d:=.A) (by decide) rfl,sV ha hat];dsimp only;rw[lZ (K:=1) (d:=.C) (by decide) (by decide) (by
    unfold chK;rw[jN a2,kC hc,if_neg (by rintro⟨_,h|h⟩;cases h;exact absurd (show false=true from h.1) (by decide)),if_neg (by rintro⟨h,_⟩;exact absurd (show(1:Int)=7 from h) (by decide))];rfl) rfl a1,KM hc a2]
   exact jV (by have:=At.tot hat hp;simp at this;omega)
  |hi ha=>
   rename_i a;have hat:At l p ((1,rn a,0)::K):=hat
   show jo _ _ _ (aM l 0 1 1 0 (p,0,_));simp only[aM];rw[kH (K:=3) (d:=.A) rfl (dV (show(3:Int)≠1 by decide) (show(3:Int)≠7 by decide)) rfl,sV ha hat];exact jV (by have:=At.tot hat hp;simp at this;omega)
  |fl ha=>
   rename_i a;have hat:At l p ((1,rn a,0)::K):=hat
   show jo _ _ _ (aM l 0 1 1 0 (p,0,_));simp only[aM];rw[kH (K:=4) (d:=.A) rfl (dV (show(4:Int)≠1 by decide) (show(4:Int)≠7 by decide)) rfl,sV ha hat];exact jV (by have:=At.tot hat hp;simp at this;omega)
  |br ho hc=>
   rename_i o c u;have hat:At l p ((1,rn c,0)::K):=hat
   show jo _ _ _ (aM l o 1 1 0 (p,0,_));simp only[aM];rw[kH (K:=6) (d:=.C) rfl (by
    unfold chK;rw[jN hat,kC hc,if_neg (by rintro⟨h,_⟩;exact absurd (show(7:Int)=1 from h) (by decide)),if_pos ⟨rfl,rfl⟩]) rfl,KM hc hat]
   exact jV (by have:=At.tot hat hp;simp at this;omega)
  |imm=>simp at hk0
  |movi=>simp at hk0
  |mem=>simp at hk0
  |jmp=>simp at hk0
 |@ins1 _ _ _ _ _ _ x h hk0 hx=>
  cases h with
  |imm q1 q2 ha hb hu=>
   rename_i o a b u;dsimp only at hat⊢;rw[uw q1] at hat
   have hat:At l p ((1,rn a,0)::(3,[44],0)::(1,rn b,0)::(3,[44],0)::(x.toks++K)):=by rw[<- P8 x.toks];exact hat
   obtain⟨_,_,a1⟩:=At.cons hat
   obtain⟨_,_,a2⟩:=At.cons a1;obtain⟨_,_,a3⟩:=At.cons a2;obtain⟨_,_,a4⟩:=At.cons a3;rw[show hk 2=1 from rfl,eO q1];show jo _ _ _ (aM l o 3 3 0 (p,0,_));simp only[aM];rw[jv (d:=.A) (by decide) (by rw[eO q1];rfl),sV ha hat];dsimp only;rw[Cs (d:=.B) (by decide) (by decide) (by rw[eO q1];rfl) a1,KL hb a2];dsimp only;rw[lZ (K:=2) (d:=.E) (by decide) (by decide) (by
    unfold chK;rw[BH hx.1 a4,if_pos ⟨rfl,.inl rfl⟩]) (by rw[uw q1];rfl) a3,yx hl hx hK a4]
   exact jW (by have:=At.tot hat hp;simp at this;omega) rfl
  |movi ha=>
   rename_i a u;have hat:At l p ((1,rn a,0)::(3,[44],0)::(x.toks++K)):=by rw[<- P8 x.toks];exact hat
   obtain⟨_,_,a1⟩:=At.cons hat
   obtain⟨_,_,a2⟩:=At.cons a1;show jo _ _ _ (aM l 0 2 2 0 (p,0,_));simp only[aM];rw[jv (d:=.A) (by decide) rfl,sV ha hat];dsimp only;rw[lZ (K:=2) (d:=.E) (by decide) (by decide) (by
    unfold chK;rw[BH hx.1 a2,if_pos ⟨rfl,.inl rfl⟩]) rfl a1,yx hl hx hK a2]
   exact jW (by have:=At.tot hat hp;simp at this;omega) rfl
  |mem q1 q2 ha hb=>
   rename_i o a b;have hat:At l p ((1,rn a,0)::(3,[44],0)::(1,rn b,0)::(3,[44],0)::(x.toks++K)):=by rw[<- P8 x.toks];exact hat
   obtain⟨_,_,a1⟩:=At.cons hat
   obtain⟨_,_,a2⟩:=At.cons a1;obtain⟨_,_,a3⟩:=At.cons a2;obtain⟨_,_,a4⟩:=At.cons a3;show jo _ _ _ (aM l o 3 3 0 (p,0,_));simp only[aM];rw[jv (d:=.A) (by decide) rfl,sV ha hat];dsimp only;rw[Cs (d:=.B) (by decide) (by decide) rfl a1,KL hb a2];dsimp only;rw[lZ (K:=5) (d:=.E) (by decide) (by decide) (dV (show(5:Int)≠1 by decide) (show(5:Int)≠7 by decide)) rfl a3,yx hl hx hK a4];exact jW (by have:=At.tot hat hp;simp at this;omega) rfl
  |jmp ho=>
   rename_i o u;have hat:At l p (x.toks++K):=by rw[<- P8 x.toks];exact hat
   show jo _ _ _ (aM l o 1 1 0 (p,0,_));simp only[aM];rw[kH (K:=7) (d:=.E) rfl (by
    unfold chK;rw[BH hx.1 hat,if_neg (by rintro⟨h,_⟩;exact absurd (show(7:Int)=1 from h) (by decide)),if_neg (by rintro⟨_,h⟩;cases h)];rfl) rfl,yx hl hx hK hat]
   exact jW (by have:=At.tot hat hp;simp at this;omega) rfl
  |reg=>simp at hk0
  |mov=>simp at hk0
  |hi=>simp at hk0
  |fl=>simp at hk0
  |br=>simp at hk0
 |@load a x ha hx=>
  have hat:At l p ((1,rn a,0)::(3,[44],0)::(3,[61],0)::(x.toks++K)):=by rw[<- P8 x.toks];exact hat
  obtain⟨_,_,a1⟩:=At.cons hat
  obtain⟨_,_,a2⟩:=At.cons a1;show jo _ _ _ (aM l 0 2 2 0 (p,0,_));simp only[aM];rw[jv (d:=.A) (by decide) rfl,sV ha hat];dsimp only;rw[lZ (K:=8) (d:=.Q) (by decide) (by decide) (dV (show(8:Int)≠1 by decide) (show(8:Int)≠7 by decide)) rfl a1,Pi hl hx hK a2];exact jW (by have:=At.tot hat hp;simp at this;omega) rfl
 |@word x hx=>
  have hat:At l p (x.toks++K):=by rw[<- P8 x.toks];exact hat
  show jo _ _ _ (aM l 0 1 1 0 (p,0,_));simp only[aM];rw[kH (K:=9) (d:=.E) rfl (dV (show(9:Int)≠1 by decide) (show(9:Int)≠7 by decide)) rfl,yx hl hx hK hat];exact jW (by have:=At.tot hat hp;simp at this;omega) rfl
 |@exp nm hn=>
  have hat:At l p ((1,nm,0)::K):=hat
  show jo _ _ _ (aM l 0 1 1 0 (p,0,_));simp only[aM];rw[kH (K:=10) (d:=.N) rfl (dV (show(10:Int)≠1 by decide) (show(10:Int)≠7 by decide)) rfl,Ph hn hat];exact jV (by have:=At.tot hat hp;simp at this;omega)
end Rv
namespace Rv
open Go
theorem GQ(k:Int):(hk k=9\/hk k=10)↔(k=9\/k=10):=by
 unfold hk;split;·omega
 ·split<;>omega
def smP(lb:Str)(s:Sm):PR:=(lb,s.k,s.o,s.a,s.b,s.c,s.u,s.e,s.nm,0,())
def noP(e:Int):PR:=([],0,0,0,0,0,false,[],[],e,())
def gN(t:Option Tr):Prop:=∀x,t=some x->x.dep<=8
theorem ng{b:Bool}{e:Int}(h:e≠0):chk b e=e:=by unfold chk;rw[if_neg (fun g=>h g.2)]
theorem KN{l:List ai}{p:Nat}{e:Int}{s:Sm}(h:e≠0)(d:Od):(rd l p e s d).2.1=e:=by
 have hE:∀p,(rdE l p e s).2.1=e:=fun p=>by unfold rdE;rw[if_neg h]
 cases d with
 |E=>exact hE p
 |Q=>
  show(rdE l (p+1) (chk (decide (pk 3 l p e=[61])) e) s).2.1=e;rw[ng h];exact hE _
 |_=>exact ng h
theorem F6{l:List ai}{op:Int}{many i p:Nat}{e:Int}{s:Sm}(h:e≠0):(aI l op many i p e s).2.1=e:=by
 unfold aI;dsimp only;have:(if 0<i then chk (decide (pk 3 l p e=[44])) e else e)=e:=by
  split;·exact ng h
  ·rfl
 rw[this];split;·exact KN h _
 ·rfl
theorem xc{l:List ai}{op:Int}{many:Nat}{e:Int}(h:e≠0):∀(m i:Nat) (r:Nat×Int×Sm),r.2.1=e->(aM l op many m i r).2.1=e
 |0,_,_,hr=>hr
 |m+1,i,r,hr=>xc h m (i+1) _ (by rw[hr];exact F6 h)
theorem yV{l:List ai}{lb:Str}{r:Nat×Int×Sm}{e:Int}(h:e≠0)(hr:r.2.1=e):lh l lb r=noP e:=by
 unfold lh nW;rw[hr,ng h,if_pos h];rfl
abbrev Kk(K:List Bt):Prop:=noS dA K/\noS dH K
theorem Kl:Kk []:=⟨D9 _,D9 _⟩
theorem Fx:Kk [(3,[44],0)]:=by
 constructor<;>(intro b r h g;obtain⟨rfl,_⟩:=List.cons.inj h;exact absurd g.2 (by decide))
theorem E9{l:List ai}{lb:Str}{p:Nat}(hp:p<l.length)(h:(L.ofR (l.getD p aL).2.2.1).2.2.2.1=false):gH l lb p 0=noP 22:=by
 unfold gH;rw[if_pos ⟨rfl,hp⟩];dsimp only;rw[h];exact yV (by decide) (xc (by decide) _ _ _ rfl)
theorem wX{l:List ai}(hl:l.length<=1000000){s:Sm}{t:Option Tr}(h:GoodS s t){lb:Str}{K:List Bt}(hK:K=[]\/K=[(3,[44],0)]){p:Nat}(hp:p<=l.length)(hat:At l p (stk s t++K)) :
  (gN t->gH l lb p 0=if K=[] then smP lb s else noP 22)/\(¬gN t->gH l lb p 0=noP 24):=by
 have hKe:Kk K:=by rcases hK with rfl|rfl;exact Kl;exact Fx
 by_cases h0:s.k=0
 ·have hs:s=⟨0,0,0,0,0,false,[],[]⟩/\t=none:=by
   cases h with
   |none=>exact⟨rfl,rfl⟩
   |ins0 h hk=>dsimp only at h0;omega
   |ins1 h hk _=>dsimp only at h0;omega
   |load _ _=>exact absurd (show(8:Int)=0 from h0) (by decide)
   |word _=>exact absurd (show(9:Int)=0 from h0) (by decide)
   |exp _=>exact absurd (show(10:Int)=0 from h0) (by decide)
  obtain⟨rfl,rfl⟩:=hs;refine⟨fun _=>?_,fun g=>absurd (fun x hx=>by cases hx) g⟩;rcases hK with rfl|rfl
  ·have hat:At l p []:=hat
   have he:=At.end hat hp;rw[if_pos rfl];unfold gH;rw[if_neg (fun g=>by omega)];rfl
  ·have hat:At l p [(3,[44],0)]:=hat
   obtain⟨a1,a2,_⟩:=At.cons hat
   rw[if_neg (by simp)];refine E9 a1 ?_;simp only[bare,Pv] at a2;rw[a2.2.1];decide +kernel
 ·have hstk:stk s t=mtk s::Av ((odL s.k s.o).map (wtk s t)):=by unfold stk;rw[if_neg h0]
  rw[hstk] at hat
  obtain⟨a1,a2,a3⟩:=At.cons hat
  have hm:=rU h h0;have hof:=(MO hm).1;simp only[bare,mtk,Pv] at a2;have hk10:=DT h;have hloop:=Hd hl h h0 hKe (by omega) a3;unfold gH;rw[if_pos ⟨rfl,a1⟩];dsimp only;rw[a2.2.1,hof,a2.1];dsimp only;have hok:(true&&(decide ((if s.k=9\/s.k=10 then(4:Int) else 1)=4) == decide (hk s.k=9\/hk s.k=10))&&(decide ((if s.k=9\/s.k=10 then(4:Int) else 1)=4)||decide ((if s.k=9\/s.k=10 then(4:Int) else 1)=1)))=true:=by
   by_cases hd:s.k=9\/s.k=10;·rw[if_pos hd,decide_eq_true ((GQ s.k).2 hd)];rfl
   ·rw[if_neg hd,decide_eq_false (fun g=>hd ((GQ s.k).1 g))];rfl
  rw[hok,show chk true 0=0 from rfl];generalize aM l s.o (odL (hk s.k) s.o).length (odL (hk s.k) s.o).length 0 (p+1,0,⟨hk s.k,s.o,0,0,0,s.u,[],[]⟩)=r at hloop;obtain⟨e1,e2⟩:=hloop;constructor
  ·intro hd;rw[e1 hd];unfold lh;dsimp only;rcases hK with rfl|rfl
   ·rw[decide_eq_true (show l.length<=l.length-([]:List Bt).length from Px _)];rfl
   ·rw[decide_eq_false (show ¬l.length<=l.length-([(3,[44],0)]:List Bt).length by simp;omega),if_neg (by simp)];rfl
  ·intro hd;obtain⟨s',e⟩:=e2 (by
    apply Classical.byContradiction;intro hc;exact hd fun x hx=>Classical.byContradiction fun hx2=>hc ⟨x,hx,hx2⟩)
   rw[e];exact yV (by decide) rfl
theorem F7{s:Sm}{t:Option Tr}(h:GoodS s t){b c:Bt}{r:List Bt}(e:stk s t=b::c::r):c.2.1≠[58]:=by
 have hod:=kg h;have hname:∀n:Str,az n=true->n≠[58]:=fun n hn e=>by rw[e] at hn;exact absurd hn (by decide)
 have hreg:∀a,rg a->rn a≠[58]:=fun a ha e=>by
  have:=kD ha;rw[e] at this;exact absurd this (by decide)
 have first:∀d:Od,mO s t d->∀x y,wtk s t d=x::y->x.2.1≠[58]:=by
  intro d hd x y he;cases d with
  |A=>obtain⟨rfl,_⟩:=List.cons.inj he;exact hreg _ hd
  |B=>obtain⟨rfl,_⟩:=List.cons.inj he;exact hreg _ hd
  |C=>obtain⟨rfl,_⟩:=List.cons.inj he;exact hreg _ hd
  |N=>obtain⟨rfl,_⟩:=List.cons.inj he;exact hname _ (lG hd)
  |Q=>obtain⟨rfl,_⟩:=List.cons.inj he;decide
  |E=>
   obtain⟨z,rfl,hz,_⟩:=hd;obtain⟨b',r',h1,_,h3⟩:=tX z hz.1;have he:z.toks=x::y:=he;rw[h1] at he;obtain⟨rfl,_⟩:=List.cons.inj he;exact h3
 have ne:∀d:Od,mO s t d->wtk s t d≠[]:=by
  intro d hd;cases d with
  |E=>obtain⟨z,rfl,hz,_⟩:=hd;exact yH z
  |_=>simp[wtk]
 unfold stk at e;split at e;·cases e
 ·have e2:=(List.cons.inj e).2;cases hl:odL s.k s.o with
  |nil=>rw[hl] at e2;cases e2
  |cons d ds=>
   rw[hl] at e2 hod;have hd:=hod d (Qc ..);cases hw:wtk s t d with
   |nil=>exact absurd hw (ne d hd)
   |cons x y=>
    have e3:wtk s t d++((ds.map (wtk s t)).map ((3,[44],0)::·)).flatten=c::r:=e2;rw[hw] at e3;obtain⟨rfl,_⟩:=List.cons.inj e3;exact first d hd x y hw
theorem CB:∀x:Tr,x.ok->∀b∈x.toks,b.2.1.length<=1000:=by
 have hb:∀(q:Bool) (l:List Bt),(∀b∈l,b.2.1.length<=1000)->∀b∈brk q l,b.2.1.length<=1000:=by
  intro q l h b hm;unfold brk at hm;split at hm
  ·simp only[Py,PL,Qn,or_false] at hm;rcases hm with rfl|hm|rfl
   ·decide
   ·exact h b hm
   ·decide
  ·exact h b hm
 intro x
 induction x with
 |num n=>
  intro h b hm;have hm:b∈[((2:Int),Lib.itoa n,n)]:=hm;simp only[PV] at hm;subst hm;have:=gu (.num n) h trivial;exact PW this (show 20*1<=1000 by decide)
 |nam s=>
  intro h b hm;have hm:b∈[((1:Int),s,(0:Int))]:=hm;simp only[PV] at hm;subst hm;have:=gu (.nam s) h trivial;exact PW this (show 20*1<=1000 by decide)
 |neg x ih=>
  intro h b hm;have hm:b∈yF::brk (decide (x.tight<2)) x.toks:=hm;simp only[Py] at hm;rcases hm with rfl|hm;·decide
  ·exact hb _ _ (ih h) b hm
 |br x ih=>intro h b hm;exact hb true _ (ih h) b hm
 |bin o a c iha ihc=>
  intro h b hm;have hm:b∈brk (decide (a.tight<o.tight)) a.toks++tOp o::brk (decide (c.tight<o.tight+1)) c.toks:=hm;simp only[PL,Py] at hm;rcases hm with hm|rfl|hm;·exact hb _ _ (iha h.1) b hm
  ·show([o.byte]:Str).length<=1000;simp
  ·exact hb _ _ (ihc h.2) b hm
theorem zm{lb:Str}(h:az lb=true):lb.length<=12:=by
 unfold az at h;simp only[Ps,Pw] at h;exact h.1.1.1.2
theorem Et{s:Sm}{t:Option Tr}(h:GoodS s t):∀b∈stk s t,b.2.1.length<=1000:=by
 have hod:=kg h;have hr:∀a,(rn a).length<=1000:=fun a=>PW (wm _) (by decide)
 have one:∀d:Od,mO s t d->∀b∈wtk s t d,b.2.1.length<=1000:=by
  intro d hd b hb;cases d with
  |A=>simp only[wtk,PV] at hb;subst hb;exact hr _
  |B=>simp only[wtk,PV] at hb;subst hb;exact hr _
  |C=>simp only[wtk,PV] at hb;subst hb;exact hr _
  |N=>simp only[wtk,PV] at hb;subst hb;exact PW (zm (lG hd)) (by decide)
  |E=>obtain⟨z,rfl,hz,_⟩:=hd;exact CB z hz.1 b hb
  |Q=>
   obtain⟨z,rfl,hz,_⟩:=hd;simp only[wtk,Py] at hb;rcases hb with rfl|hb;·decide
   ·exact CB z hz.1 b hb
 intro b hb;unfold stk at hb;split at hb;·cases hb
 ·simp only[Py] at hb;rcases hb with rfl|hb
  ·exact PW (mI _ _ _) (by decide)
  ·cases hl:odL s.k s.o with
   |nil=>rw[hl] at hb;cases hb
   |cons d ds=>
    rw[hl] at hb hod;have hb:b∈wtk s t d++((ds.map (wtk s t)).map ((3,[44],0)::·)).flatten:=hb;simp only[PL,List.mem_flatten,PQ] at hb;rcases hb with hb|⟨l,⟨l',⟨d',hd',rfl⟩,rfl⟩,hb⟩;·exact one d (hod d (Qc ..)) b hb
    ·simp only[Py] at hb;rcases hb with rfl|hb
     ·decide
     ·exact one d' (hod d' (PE _ hd')) b hb
theorem Jg{l:List ai}{k:List Bt}(hb:l.map bare=k)(h:∀b∈k,b.2.1.length<=1000):∀t∈l,t.2.2.1.length<=1000000:=by
 intro t ht;have:=h (bare t) (by rw[<- hb];exact PQ.2 ⟨t,ht,rfl⟩);exact PW this (by decide)
theorem Kc{s:Sm}{t:Option Tr}(h:GoodS s t){lb:Str}(hlb:lb=[]\/az lb=true):∀b∈ltk lb s t,b.2.1.length<=1000:=by
 intro b hb;unfold ltk at hb;split at hb;·exact Et h b hb
 ·rename_i hne;simp only[Py] at hb;rcases hb with rfl|rfl|hb
  ·exact PW (zm (hlb.resolve_left hne)) (by decide)
  ·decide
  ·exact Et h b hb
theorem Kn{l:List ai}{s:Sm}{t:Option Tr}(h:GoodS s t){K:List Bt}(hK:K=[]\/K=[(3,[44],0)])(hat:At l 0 (stk s t++K)):¬(1<l.length/\(l.getD 0 aL).1=1/\gI l 1 58=true):=by
 rintro⟨h1,_,h3⟩;obtain⟨h1,_,h3⟩:=bE.1 h3;have tot:=At.tot hat (by omega)
 match hs:stk s t with
 |[]=>rcases hK with rfl|rfl<;>(rw[hs] at tot;simp at tot;omega)
 |[b]=>
  rw[hs] at tot hat
  rcases hK with rfl|rfl;·simp at tot;omega
  ·obtain⟨_,_,a1⟩:=At.cons hat
   obtain⟨_,a2,_⟩:=At.cons a1;have:(bare (l.getD (0+1) aL)).2.1=[44]:=by rw[a2]
   rw[show(bare (l.getD (0+1) aL)).2.1=(l.getD 1 aL).2.2.1 from rfl,h3] at this;exact absurd this (by decide)
 |b::c::r=>
  rw[hs] at hat
  obtain⟨_,_,a1⟩:=At.cons hat
  obtain⟨_,a2,_⟩:=At.cons a1;exact F7 h hs (by rw[<- a2];exact h3)
theorem Di{l:List ai}(hl:l.length<=1000000){s:Sm}{t:Option Tr}(h:GoodS s t){lb:Str}(hlb:lb=[]\/az lb=true){K:List Bt}(hK:K=[]\/K=[(3,[44],0)])(hb:l.map bare=ltk lb s t++K) :
  (gN t->Zab.g l=some (if K=[] then smP lb s else noP 22))/\(¬gN t->Zab.g l=some (noP 24)):=by
 have hlen:∀t∈l,t.2.2.1.length<=1000000:=by
  refine Jg hb fun b hb=>?_
  rcases PL.1 hb with hb|hb;·exact Kc h hlb b hb
  ·rcases hK with rfl|rfl
   ·cases hb
   ·rw[PV] at hb;subst hb;decide
 rw[zF hl hlen];have hat0:At l 0 (ltk lb s t++K):=by unfold At;rw[PZ];exact hb
 unfold jf;by_cases hne:lb=[]
 ·subst hne;have hat:At l 0 (stk s t++K):=hat0;rw[if_neg (Kn h hK hat)];obtain⟨g1,g2⟩:=wX hl h (lb:=[]) hK (Nat.zero_le _) hat
  exact⟨fun hd=>by rw[g1 hd],fun hd=>by rw[g2 hd]⟩
 ·have hok:=hlb.resolve_left hne;have hat:At l 0 ((1,lb,0)::(3,[58],0)::(stk s t++K)):=by unfold ltk at hat0;rw[if_neg hne] at hat0;exact hat0
  obtain⟨b0,b1,a1⟩:=At.cons hat
  obtain⟨b2,b3,a2⟩:=At.cons a1;simp only[bare,Pv] at b1 b3;rw[if_pos ⟨b2,b1.1,bE.2 ⟨b2,b3.1,b3.2.1⟩⟩,b1.2.1,hok,show chk true 0=0 from rfl];obtain⟨g1,g2⟩:=wX hl h (lb:=lb) hK (show 0+1+1<=l.length from b2) a2;exact⟨fun hd=>by rw[<- g1 hd],fun hd=>by rw[<- g2 hd]⟩
theorem FD{l:List ai}(hl:l.length<=1000000){s:Sm}{t:Option Tr}(h:GoodS s t){lb:Str}(hlb:lb=[]\/az lb=true)(hb:l.map bare=ltk lb s t) :
  (gN t->Zab.g l=some (smP lb s))/\(¬gN t->Zab.g l=some (noP 24)):=by
 have:=Di hl h hlb (.inl rfl) (by rw[P8];exact hb);rw[if_pos rfl] at this;exact this
theorem IM{s:Sm}{t:Option Tr}(h:GoodS s t){lb:Str}(hlb:lb=[]\/az lb=true) :
  ∃ts:List ai,ts.map bare=ltk lb s t/\ts.length<=5000/\Zag.g (ltx lb s t)=some (ts,0,())/\(gN t->Zab.g ts=some (smP lb s))/\(¬gN t->Zab.g ts=some (noP 24)):=by
 have hlen:=ym h hlb;obtain⟨ts,h1,h2⟩:=FW (Iw h hlb) (by omega);have hts:ts.length<=5000:=by
  have:=(nU (k:=0) (s:=ltx lb s t))
  rw[ut _ (by omega)] at h2;have:=congrArg (fun o=>(Option.map (fun y:List ai×Int×Unit=>y.1.length) o).getD 0) h2;simp at this;omega
 obtain⟨g1,g2⟩:=FD (by omega) h hlb h1;exact⟨ts,h1,hts,h2,g1,g2⟩
end Rv
namespace Rv
open Go
theorem eP{b:Bool}{e:Int}(h:chk b e=0):e=0/\b=true:=by
 unfold chk at h;split at h;·exact absurd h (by decide)
 ·rename_i g;refine⟨h,?_⟩;cases b
  ·exact absurd ⟨rfl,h⟩ g
  ·rfl
def iy(e:Int):Prop:=e=0\/e=22\/e=23\/e=24
theorem gz{b:Bool}{e:Int}(h:iy e):iy (chk b e):=by
 unfold chk;split;·exact .inr (.inl rfl)
 ·exact h
theorem wo{s:Str}(h:(bN s).2=true):rg (bN s).1:=by
 unfold bN at h⊢;cases hf:(List.range 16).find? (fun k=>fH k == s) with
 |none=>rw[hf] at h;cases h
 |some k=>have:=(qE hf).1;exact⟨by dsimp only;omega,by dsimp only;omega⟩
section
variable{l:List ai}(hw:∀t∈l,0<=t.2.2.2.1/\t.2.2.2.1<=4294967295)
theorem FC(p:Nat):iy (dC l p).2.2.1:=by
 unfold dC;have hg:=jZ (dG l 9) p;cases hx:xS l (pF l 9) p with
 |error e=>rw[hx] at hg;rcases hg with rfl|rfl;exact .inr (.inr (.inl rfl));exact .inr (.inr (.inr rfl))
 |ok r=>dsimp only;split;exact .inr (.inr (.inr rfl));exact .inl rfl
include hw in
theorem Dh{p:Nat}(h:(dC l p).2.2.1=0):∃t,jK t/\(dC l p).1=t.post:=by
 unfold dC at h⊢;have hg:=jZ (dG l 9) p;cases hx:xS l (pF l 9) p with
 |error e=>
  rw[hx] at h hg;have h:e=0:=h;rcases hg with rfl|rfl<;>cases h
 |ok r=>
  rw[hx] at h hg;dsimp only at h⊢;split at h;·cases h
  ·rename_i h64;rw[if_neg h64];obtain⟨t,h1,h2,h3⟩:=Nk hg.well (hg.good hw);exact⟨t,⟨h2,h3,by rw[h1];exact hg.well,by rw[h1];omega⟩,h1.symm⟩
theorem BU{p:Nat}{e:Int}{s:Sm}{d:Od}(h:(rd l p e s d).2.1=0):e=0:=by
 have hE:∀p e,(rdE l p e s).2.1=0->e=0:=fun p e h=>by
  unfold rdE at h;split at h;·assumption
  ·exact h
 cases d with
 |A=>exact(eP h).1
 |B=>exact(eP h).1
 |C=>exact(eP h).1
 |N=>exact(eP h).1
 |E=>exact hE _ _ h
 |Q=>exact(eP (hE _ _ h)).1
theorem OP{p:Nat}{e:Int}{s:Sm}{d:Od}(h:iy e):iy (rd l p e s d).2.1:=by
 have hE:∀p e,iy e->iy (rdE l p e s).2.1:=fun p e h=>by
  unfold rdE;split;·exact FC p
  ·exact h
 cases d with
 |A=>exact gz h
 |B=>exact gz h
 |C=>exact gz h
 |N=>exact gz h
 |E=>exact hE _ _ h
 |Q=>exact hE _ _ (gz h)
theorem step_ok{op:Int}{many i p:Nat}{e:Int}{s:Sm}(h:iy e):iy (aI l op many i p e s).2.1:=by
 unfold aI;dsimp only;have h1:iy (if 0<i then chk (decide (pk 3 l p e=[44])) e else e):=by split;exact gz h;exact h
 split;·exact OP h1
 ·exact h1
theorem yl{op:Int}{many:Nat}:∀(m i:Nat) (r:Nat×Int×Sm),iy r.2.1->iy (aM l op many m i r).2.1
 |0,_,_,h=>h
 |m+1,i,r,h=>yl m (i+1) _ (step_ok h)
theorem bD{op:Int}{many i p:Nat}{e:Int}{s:Sm}(h:(aI l op many i p e s).2.1=0):e=0:=by
 unfold aI at h;dsimp only at h;have h1:(if 0<i then chk (decide (pk 3 l p e=[44])) e else e)=0->e=0:=fun h=>by
  split at h;·exact(eP h).1
  ·exact h
 split at h;·exact h1 (BU h)
 ·exact h1 h
theorem oV{p:Nat}{s:Sm}(h:(rd l p 0 s .A).2.1=0):∃a,rg a/\(rd l p 0 s .A).2.2={ s with a:=a }:=⟨_,wo (eP h).2,rfl⟩
theorem Ic{p:Nat}{s:Sm}(h:(rd l p 0 s .B).2.1=0):∃a,rg a/\(rd l p 0 s .B).2.2={ s with b:=a }:=⟨_,wo (eP h).2,rfl⟩
theorem BS{p:Nat}{e:Int}{s:Sm}(h:(rd l p e s .C).2.1=0):∃a,rg a/\(rd l p e s .C).2.2={ s with c:=a }:=⟨_,wo (eP h).2,rfl⟩
theorem NZ{p:Nat}{s:Sm}(h:(rd l p 0 s .N).2.1=0):∃a,dB a=true/\(rd l p 0 s .N).2.2={ s with nm:=a }:=⟨_,(eP h).2,rfl⟩
include hw in
theorem oW{p:Nat}{e:Int}{s:Sm}(h:(rdE l p e s).2.1=0):∃t,jK t/\(rdE l p e s).2.2={ s with e:=t.post }:=by
 unfold rdE at h⊢;split at h;·rename_i he;rw[if_pos he];obtain⟨t,h1,h2⟩:=Dh hw h;exact⟨t,h1,by dsimp only;rw[h2]⟩
 ·rename_i he;exact absurd h he
theorem qL{op:Int}{many p:Nat}{s:Sm}{d:Od}(hm:many≠1)(hd:(odL s.k op)[0]?=some d):aI l op many 0 p 0 s=rd l p 0 s d:=jv hm hd
theorem IA{op:Int}{many i p:Nat}{s:Sm}{d:Od}(h0:0<i)(hm:i+1≠many)(hd:(odL s.k op)[i]?=some d)(h:(aI l op many i p 0 s).2.1=0):aI l op many i p 0 s=rd l (p+1) 0 s d:=by
 have key:aI l op many i p 0 s=rd l (p+1) (chk (decide (pk 3 l p 0=[44])) 0) s d:=by
  unfold aI;dsimp only;rw[if_pos h0,if_pos h0,if_neg hm,hd]
 rw[key] at h⊢;rw[BU h]
theorem uF{op:Int}{many i p:Nat}{s:Sm}(h0:0<i)(hm:i+1=many)(hl:i<(odL s.k op).length)(h:(aI l op many i p 0 s).2.1=0):∃K d,chK l (p+1) 0 s=K/\(odL K op)[i]?=some d/\aI l op many i p 0 s=rd l (p+1) 0 { s with k:=K } d:=by
 obtain⟨d,hd⟩:∃d,(odL (chK l (p+1) (chk (decide (pk 3 l p 0=[44])) 0) s) op)[i]?=some d:=⟨_,PI (by rw[oD];exact hl)⟩
 have key:aI l op many i p 0 s=rd l (p+1) (chk (decide (pk 3 l p 0=[44])) 0) { s with k:=chK l (p+1) (chk (decide (pk 3 l p 0=[44])) 0) s } d:=by
  unfold aI;dsimp only;rw[if_pos h0,if_pos h0,if_pos hm];dsimp only;rw[hd]
 have he:chk (decide (pk 3 l p 0=[44])) 0=0:=by rw[key] at h;exact BU h
 rw[he] at key hd;exact⟨_,d,rfl,hd,key⟩
theorem o8{op:Int}{p:Nat}{s:Sm}(hl:0<(odL s.k op).length):∃K d,chK l p 0 s=K/\(odL K op)[0]?=some d/\aI l op 1 0 p 0 s=rd l p 0 { s with k:=K } d:=by
 obtain⟨d,hd⟩:∃d,(odL (chK l p 0 s) op)[0]?=some d:=⟨_,PI (by rw[oD];exact hl)⟩
 exact⟨_,d,rfl,hd,kH rfl rfl hd⟩
theorem DD{p:Nat}{s:Sm}(h:s.k=1):chK l p 0 s=2\/(chK l p 0 s=1/\¬(s.u=true/\s.o=0)):=by
 unfold chK;split;·exact .inl rfl
 ·rename_i g;rw[if_neg (fun q=>by omega)];exact .inr ⟨h,fun q=>g ⟨h,.inr q⟩⟩
theorem Gu{p:Nat}{s:Sm}(h:s.k=7):chK l p 0 s=6\/chK l p 0 s=7:=by
 unfold chK;rw[if_neg (fun q=>by omega)];split;·exact .inl rfl
 ·exact .inr h
theorem MR:∀e∈L.nameTbl,(e.2.1.1=1/\0<=e.2.1.2.1/\e.2.1.2.1<12/\(e.2.1.2.2=true->e.2.1.2.1=0\/8<=e.2.1.2.1/\e.2.1.2.1<=10))\/((e.2.1.1=3\/e.2.1.1=4\/e.2.1.1=8\/e.2.1.1=9\/e.2.1.1=10)/\e.2.1.2.1=0/\e.2.1.2.2=false)\/(e.2.1.1=5/\0<=e.2.1.2.1/\e.2.1.2.1<4/\e.2.1.2.2=false)\/(e.2.1.1=7/\0<=e.2.1.2.1/\e.2.1.2.1<16):=by decide +kernel
theorem Kv{s:Str}(h:(L.ofR s).2.2.2.1=true):∃k o u,L.ofR s=(k,o,u,true,())/\((k=1/\0<=o/\o<12/\(u=true->o=0\/8<=o/\o<=10))\/((k=3\/k=4\/k=8\/k=9\/k=10)/\o=0/\u=false)\/(k=5/\0<=o/\o<4/\u=false)\/(k=7/\0<=o/\o<16)):=by
 unfold L.ofR at h⊢;cases hf:L.nameTbl.find? fun e=>e.2.2 == s with
 |none=>rw[hf] at h;cases h
 |some e=>exact⟨e.2.1.1,e.2.1.2.1,e.2.1.2.2,rfl,MR e (List.mem_of_find?_eq_some hf)⟩
include hw in
theorem F8{k o:Int}{u:Bool}(hk:(k=1/\0<=o/\o<12/\(u=true->o=0\/8<=o/\o<=10))\/((k=3\/k=4\/k=8\/k=9\/k=10)/\o=0/\u=false)\/(k=5/\0<=o/\o<4/\u=false)\/(k=7/\0<=o/\o<16))(p:Nat){e:Int}
  (h:(aM l o (odL k o).length (odL k o).length 0 (p,e,⟨k,o,0,0,0,u,[],[]⟩)).2.1=0):∃t,GoodS (aM l o (odL k o).length (odL k o).length 0 (p,e,⟨k,o,0,0,0,u,[],[]⟩)).2.2 t:=by
 have hnil:∀{α:Type}{x:α}{i:Nat},([]:List α)[i]?=some x->False:=fun h=>by simp at h
 rcases hk with⟨rfl,ho,ho2,hu⟩|⟨hk,rfl,rfl⟩|⟨rfl,ho,ho2,rfl⟩|⟨rfl,ho,ho2⟩
 ·by_cases h0:o=0
  ·subst h0;have e1:(odL 1 0).length=2:=rfl;rw[e1] at h⊢;simp only[aM] at h⊢;generalize hr0:aI l 0 2 0 p e ⟨1,0,0,0,0,u,[],[]⟩=r0 at h⊢;generalize hr1:aI l 0 2 1 r0.1 r0.2.1 r0.2.2=r1 at h⊢;have z0:r0.2.1=0:=by rw[<- hr1] at h;exact bD h
   have ze:e=0:=by rw[<- hr0] at z0;exact bD z0
   subst ze;rw[qL (d:=.A) (by decide) rfl] at hr0;obtain⟨a,ha,hs⟩:=oV (l:=l) (p:=p) (s:=⟨1,0,0,0,0,u,[],[]⟩) (by rw[hr0];exact z0);rw[hr0] at hs;rw[z0,hs] at hr1;obtain⟨K,d,hK,hd,hst⟩:=uF (l:=l) (op:=0) (many:=2) (i:=1) (p:=r0.1) (s:=⟨1,0,a,0,0,u,[],[]⟩) (by decide) rfl (by show 1<2;decide) (by rw[hr1];exact h);rw[hst] at hr1;rcases DD (l:=l) (p:=r0.1+1) (s:=⟨1,0,a,0,0,u,[],[]⟩) rfl with c|⟨c,hn⟩
   ·rw[hK] at c;subst c;obtain rfl:d=.E:=by have hd:some Od.E=some d:=hd;exact(Pp hd).symm
    obtain⟨t,ht,hs2⟩:=oW hw (p:=r0.1+1) (e:=0) (s:=⟨2,0,a,0,0,u,[],[]⟩) (by show(rd l (r0.1+1) 0 _ .E).2.1=0;rw[hr1];exact h);have hs2:(rd l (r0.1+1) 0 ⟨2,0,a,0,0,u,[],[]⟩ .E).2.2=_:=hs2;rw[hr1] at hs2;rw[hs2];exact⟨some t,.ins1 (.movi ha) (.inl rfl) ht⟩
   ·rw[hK] at c;subst c;obtain rfl:d=.C:=by have hd:some Od.C=some d:=hd;exact(Pp hd).symm
    obtain⟨c,hc,hs2⟩:=BS (l:=l) (p:=r0.1+1) (e:=0) (s:=⟨1,0,a,0,0,u,[],[]⟩) (by rw[hr1];exact h);rw[hr1] at hs2;rw[hs2];have:u=false:=by cases u;rfl;exact absurd ⟨rfl,rfl⟩ hn
    subst this;exact⟨none,.ins0 (.mov ha hc) (.inl rfl)⟩
  ·have hop:0<o:=by omega
   have e1:(odL 1 o).length=3:=by rw[eO hop];rfl
   rw[e1] at h⊢;simp only[aM] at h⊢;generalize hr0:aI l o 3 0 p e ⟨1,o,0,0,0,u,[],[]⟩=r0 at h⊢;generalize hr1:aI l o 3 1 r0.1 r0.2.1 r0.2.2=r1 at h⊢;generalize hr2:aI l o 3 2 r1.1 r1.2.1 r1.2.2=r2 at h⊢;have z1:r1.2.1=0:=by rw[<- hr2] at h;exact bD h
   have z0:r0.2.1=0:=by rw[<- hr1] at z1;exact bD z1
   have ze:e=0:=by rw[<- hr0] at z0;exact bD z0
   subst ze;rw[qL (d:=.A) (by decide) (by rw[eO hop];rfl)] at hr0;obtain⟨a,ha,hs⟩:=oV (l:=l) (p:=p) (s:=⟨1,o,0,0,0,u,[],[]⟩) (by rw[hr0];exact z0);rw[hr0] at hs;rw[z0,hs] at hr1;rw[IA (d:=.B) (by decide) (by decide) (by rw[eO hop];rfl) (by rw[hr1];exact z1)] at hr1;obtain⟨b,hb,hs1⟩:=Ic (l:=l) (p:=r0.1+1) (s:=⟨1,o,a,0,0,u,[],[]⟩) (by rw[hr1];exact z1);rw[hr1] at hs1;rw[z1,hs1] at hr2;obtain⟨K,d,hK,hd,hst⟩:=uF (l:=l) (op:=o) (many:=3) (i:=2) (p:=r1.1) (s:=⟨1,o,a,b,0,u,[],[]⟩) (by decide) rfl (by show 2<(odL 1 o).length;rw[e1];decide) (by rw[hr2];exact h);rw[hst] at hr2;have hu':u=true->8<=o/\o<=10:=fun q=>(hu q).resolve_left h0
   rcases DD (l:=l) (p:=r1.1+1) (s:=⟨1,o,a,b,0,u,[],[]⟩) rfl with c|⟨c,hn⟩
   ·rw[hK] at c;subst c;rw[uw hop] at hd;obtain rfl:d=.E:=by have hd:some Od.E=some d:=hd;exact(Pp hd).symm
    obtain⟨t,ht,hs2⟩:=oW hw (p:=r1.1+1) (e:=0) (s:=⟨2,o,a,b,0,u,[],[]⟩) (by show(rd l (r1.1+1) 0 _ .E).2.1=0;rw[hr2];exact h);have hs2:(rd l (r1.1+1) 0 ⟨2,o,a,b,0,u,[],[]⟩ .E).2.2=_:=hs2;rw[hr2] at hs2;rw[hs2];exact⟨some t,.ins1 (.imm hop ho2 ha hb hu') (.inl rfl) ht⟩
   ·rw[hK] at c;subst c;rw[eO hop] at hd;obtain rfl:d=.C:=by have hd:some Od.C=some d:=hd;exact(Pp hd).symm
    obtain⟨c,hc,hs2⟩:=BS (l:=l) (p:=r1.1+1) (e:=0) (s:=⟨1,o,a,b,0,u,[],[]⟩) (by rw[hr2];exact h);rw[hr2] at hs2;rw[hs2];exact⟨none,.ins0 (.reg hop ho2 ha hb hc hu') (.inl rfl)⟩
 ·rcases hk with rfl|rfl|rfl|rfl|rfl
  ·have e1:(odL 3 0).length=1:=rfl;rw[e1] at h⊢;simp only[aM] at h⊢;have ze:e=0:=bD h;subst ze;obtain⟨K,d,hK,hd,hst⟩:=o8 (l:=l) (op:=0) (p:=p) (s:=⟨3,0,0,0,0,false,[],[]⟩) (by show 0<1;decide);rw[dV (show(3:Int)≠1 by decide) (show(3:Int)≠7 by decide)] at hK;have hK:3=K:=hK;subst hK;obtain rfl:d=.A:=by have hd:some Od.A=some d:=hd;exact(Pp hd).symm
   rw[hst] at h⊢;obtain⟨a,ha,hs⟩:=oV h;rw[hs];exact⟨none,.ins0 (.hi ha) (.inr (.inl rfl))⟩
  ·have e1:(odL 4 0).length=1:=rfl;rw[e1] at h⊢;simp only[aM] at h⊢;have ze:e=0:=bD h;subst ze;obtain⟨K,d,hK,hd,hst⟩:=o8 (l:=l) (op:=0) (p:=p) (s:=⟨4,0,0,0,0,false,[],[]⟩) (by show 0<1;decide);rw[dV (show(4:Int)≠1 by decide) (show(4:Int)≠7 by decide)] at hK;have hK:4=K:=hK;subst hK;obtain rfl:d=.A:=by have hd:some Od.A=some d:=hd;exact(Pp hd).symm
   rw[hst] at h⊢;obtain⟨a,ha,hs⟩:=oV h;rw[hs];exact⟨none,.ins0 (.fl ha) (.inr (.inr (.inl rfl)))⟩
  ·have e1:(odL 8 0).length=2:=rfl;rw[e1] at h⊢;simp only[aM] at h⊢;generalize hr0:aI l 0 2 0 p e ⟨8,0,0,0,0,false,[],[]⟩=r0 at h⊢;generalize hr1:aI l 0 2 1 r0.1 r0.2.1 r0.2.2=r1 at h⊢;have z0:r0.2.1=0:=by rw[<- hr1] at h;exact bD h
   have ze:e=0:=by rw[<- hr0] at z0;exact bD z0
   subst ze;rw[qL (d:=.A) (by decide) rfl] at hr0;obtain⟨a,ha,hs⟩:=oV (l:=l) (p:=p) (s:=⟨8,0,0,0,0,false,[],[]⟩) (by rw[hr0];exact z0);rw[hr0] at hs;rw[z0,hs] at hr1;obtain⟨K,d,hK,hd,hst⟩:=uF (l:=l) (op:=0) (many:=2) (i:=1) (p:=r0.1) (s:=⟨8,0,a,0,0,false,[],[]⟩) (by decide) rfl (by show 1<2;decide) (by rw[hr1];exact h);rw[hst] at hr1;rw[dV (show(8:Int)≠1 by decide) (show(8:Int)≠7 by decide)] at hK;have hK:8=K:=hK;subst hK;obtain rfl:d=.Q:=by have hd:some Od.Q=some d:=hd;exact(Pp hd).symm
   obtain⟨t,ht,hs2⟩:=oW hw (p:=r0.1+1+1) (e:=chk (decide (pk 3 l (r0.1+1) 0=[61])) 0) (s:=⟨8,0,a,0,0,false,[],[]⟩) (by show(rd l (r0.1+1) 0 _ .Q).2.1=0;rw[hr1];exact h);have hs2:(rd l (r0.1+1) 0 ⟨8,0,a,0,0,false,[],[]⟩ .Q).2.2=_:=hs2;rw[hr1] at hs2;rw[hs2];exact⟨some t,.load ha ht⟩
  ·have e1:(odL 9 0).length=1:=rfl;rw[e1] at h⊢;simp only[aM] at h⊢;have ze:e=0:=bD h;subst ze;obtain⟨K,d,hK,hd,hst⟩:=o8 (l:=l) (op:=0) (p:=p) (s:=⟨9,0,0,0,0,false,[],[]⟩) (by show 0<1;decide);rw[dV (show(9:Int)≠1 by decide) (show(9:Int)≠7 by decide)] at hK;have hK:9=K:=hK;subst hK;obtain rfl:d=.E:=by have hd:some Od.E=some d:=hd;exact(Pp hd).symm
   rw[hst] at h⊢;obtain⟨t,ht,hs⟩:=oW hw (p:=p) (e:=0) (s:=⟨9,0,0,0,0,false,[],[]⟩) h;have hs:(rd l p 0 ⟨9,0,0,0,0,false,[],[]⟩ .E).2.2=_:=hs;rw[hs];exact⟨some t,.word ht⟩
  ·have e1:(odL 10 0).length=1:=rfl;rw[e1] at h⊢;simp only[aM] at h⊢;have ze:e=0:=bD h;subst ze;obtain⟨K,d,hK,hd,hst⟩:=o8 (l:=l) (op:=0) (p:=p) (s:=⟨10,0,0,0,0,false,[],[]⟩) (by show 0<1;decide);rw[dV (show(10:Int)≠1 by decide) (show(10:Int)≠7 by decide)] at hK;have hK:10=K:=hK;subst hK;obtain rfl:d=.N:=by have hd:some Od.N=some d:=hd;exact(Pp hd).symm
   rw[hst] at h⊢;obtain⟨a,ha,hs⟩:=NZ h;rw[hs];exact⟨none,.exp ha⟩
 ·have e1:(odL 5 o).length=3:=rfl;rw[e1] at h⊢;simp only[aM] at h⊢;generalize hr0:aI l o 3 0 p e ⟨5,o,0,0,0,false,[],[]⟩=r0 at h⊢;generalize hr1:aI l o 3 1 r0.1 r0.2.1 r0.2.2=r1 at h⊢;generalize hr2:aI l o 3 2 r1.1 r1.2.1 r1.2.2=r2 at h⊢;have z1:r1.2.1=0:=by rw[<- hr2] at h;exact bD h
  have z0:r0.2.1=0:=by rw[<- hr1] at z1;exact bD z1
  have ze:e=0:=by rw[<- hr0] at z0;exact bD z0
  subst ze;rw[qL (d:=.A) (by decide) rfl] at hr0;obtain⟨a,ha,hs⟩:=oV (l:=l) (p:=p) (s:=⟨5,o,0,0,0,false,[],[]⟩) (by rw[hr0];exact z0);rw[hr0] at hs;rw[z0,hs] at hr1;rw[IA (d:=.B) (by decide) (by decide) rfl (by rw[hr1];exact z1)] at hr1;obtain⟨b,hb,hs1⟩:=Ic (l:=l) (p:=r0.1+1) (s:=⟨5,o,a,0,0,false,[],[]⟩) (by rw[hr1];exact z1);rw[hr1] at hs1;rw[z1,hs1] at hr2;obtain⟨K,d,hK,hd,hst⟩:=uF (l:=l) (op:=o) (many:=3) (i:=2) (p:=r1.1) (s:=⟨5,o,a,b,0,false,[],[]⟩) (by decide) rfl (by show 2<(odL 5 o).length;rw[e1];decide) (by rw[hr2];exact h);rw[hst] at hr2;rw[dV (show(5:Int)≠1 by decide) (show(5:Int)≠7 by decide)] at hK;have hK:5=K:=hK;subst hK;obtain rfl:d=.E:=by have hd:some Od.E=some d:=hd;exact(Pp hd).symm
  obtain⟨t,ht,hs2⟩:=oW hw (p:=r1.1+1) (e:=0) (s:=⟨5,o,a,b,0,false,[],[]⟩) (by show(rd l (r1.1+1) 0 _ .E).2.1=0;rw[hr2];exact h);have hs2:(rd l (r1.1+1) 0 ⟨5,o,a,b,0,false,[],[]⟩ .E).2.2=_:=hs2;rw[hr2] at hs2;rw[hs2];exact⟨some t,.ins1 (.mem ho ho2 ha hb) (.inr (.inl rfl)) ht⟩
 ·have e1:(odL 7 o).length=1:=rfl;rw[e1] at h⊢;simp only[aM] at h⊢;have ze:e=0:=bD h;subst ze;obtain⟨K,d,hK,hd,hst⟩:=o8 (l:=l) (op:=o) (p:=p) (s:=⟨7,o,0,0,0,u,[],[]⟩) (by show 0<1;decide);rw[hst] at h⊢;rcases Gu (l:=l) (p:=p) (s:=⟨7,o,0,0,0,u,[],[]⟩) rfl with c|c
  ·rw[hK] at c;subst c;obtain rfl:d=.C:=by have hd:some Od.C=some d:=hd;exact(Pp hd).symm
   obtain⟨c,hc,hs⟩:=BS h;rw[hs];exact⟨none,.ins0 (.br ⟨ho,ho2⟩ hc) (.inr (.inr (.inr rfl)))⟩
  ·rw[hK] at c;subst c;obtain rfl:d=.E:=by have hd:some Od.E=some d:=hd;exact(Pp hd).symm
   obtain⟨t,ht,hs⟩:=oW hw (p:=p) (e:=0) (s:=⟨7,o,0,0,0,u,[],[]⟩) h;have hs:(rd l p 0 ⟨7,o,0,0,0,u,[],[]⟩ .E).2.2=_:=hs;rw[hs];exact⟨some t,.ins1 (.jmp ⟨ho,ho2⟩) (.inr (.inr rfl)) ht⟩
end
end Rv
namespace Rv
open Go
abbrev wfT(l:List ai):Prop:=∀t∈l,0<=t.2.2.2.1/\t.2.2.2.1<=4294967295
theorem yX{l:List ai}{lb:Str}{r:Nat×Int×Sm}(he:iy r.2.1):(∃e,(e=22\/e=23\/e=24)/\lh l lb r=noP e)\/(r.2.1=0/\lh l lb r=smP lb r.2.2):=by
 unfold lh nW;have h:=gz (b:=decide (l.length<=r.1)) he;generalize hx:chk (decide (l.length<=r.1)) r.2.1=e' at h;by_cases h0:e'=0;·subst h0;rw[if_neg (by decide)];exact .inr ⟨(eP hx).1,rfl⟩
 ·rw[if_pos h0];exact .inl ⟨e',h.resolve_left h0,rfl⟩
theorem p8{l:List ai}(hw:wfT l){lb:Str}{p:Nat}{e:Int}(he:e=0\/e=22):(∃x,(x=22\/x=23\/x=24)/\gH l lb p e=noP x)\/(e=0/\∃s t,GoodS s t/\gH l lb p e=smP lb s):=by
 unfold gH;by_cases h:e=0/\p<l.length
 ·rw[if_pos h];obtain⟨rfl,hp⟩:=h;dsimp only;generalize l.getD p aL=t;by_cases hf:(L.ofR t.2.2.1).2.2.2.1=true
  ·obtain⟨k,o,u,e1,hk⟩:=Kv hf;rw[e1];dsimp only;generalize hq:chk (true&&(decide (t.1=4) == decide (k=9\/k=10))&&(decide (t.1=4)||decide (t.1=1))) 0=q;have hqe:iy q:=by rw[<- hq];exact gz (.inl rfl)
   rcases yX (l:=l) (lb:=lb) (yl (l:=l) (op:=o) (many:=(odL k o).length) (odL k o).length 0 (p+1,q,⟨k,o,0,0,0,u,[],[]⟩) hqe) with h|⟨h1,h2⟩;·exact .inl h
   ·obtain⟨t',ht⟩:=F8 hw hk (p+1) h1;exact .inr ⟨rfl,_,t',ht,h2⟩
  ·have hf:(L.ofR t.2.2.1).2.2.2.1=false:=by simpa using hf
   rw[hf];have hq:chk (false&&(decide (t.1=4) == decide ((L.ofR t.2.2.1).1=9\/(L.ofR t.2.2.1).1=10))&&(decide (t.1=4)||decide (t.1=1))) 0=22:=rfl;rw[hq];rcases yX (l:=l) (lb:=lb) (yl (l:=l) (op:=(L.ofR t.2.2.1).2.1) (many:=(odL (L.ofR t.2.2.1).1 (L.ofR t.2.2.1).2.1).length) (odL (L.ofR t.2.2.1).1 (L.ofR t.2.2.1).2.1).length 0 (p+1,22,⟨(L.ofR t.2.2.1).1,(L.ofR t.2.2.1).2.1,0,0,0,(L.ofR t.2.2.1).2.2.1,[],[]⟩) (.inr (.inl rfl))) with h|⟨h1,_⟩;·exact .inl h
   ·exfalso;have sticky:∀(m i:Nat) (r:Nat×Int×Sm) (op:Int) (many:Nat),(aM l op many m i r).2.1=0->r.2.1=0:=by
     intro m
     induction m with
     |zero=>intro i r op many h;exact h
     |succ m ih=>intro i r op many h;exact bD (ih (i+1) _ op many h)
    have h9:(22:Int)=0:=sticky _ _ _ _ _ h1;exact absurd h9 (by decide)
 ·rw[if_neg h];unfold nW;rcases he with rfl|rfl
  ·rw[if_neg (by decide)];exact .inr ⟨rfl,_,_,.none,rfl⟩
  ·rw[if_pos (by decide)];exact .inl ⟨22,.inl rfl,rfl⟩
theorem Dk{l:List ai}(hw:wfT l):(∃e,(e=22\/e=23\/e=24)/\jf l=noP e)\/(∃lb s t,(lb=[]\/az lb=true)/\GoodS s t/\jf l=smP lb s):=by
 unfold jf;split
 ·cases hL:az (l.getD 0 aL).2.2.1 with
  |true=>
   rcases p8 hw (lb:=(l.getD 0 aL).2.2.1) (p:=2) (e:=chk true 0) (.inl rfl) with h|⟨_,s,t,h1,h2⟩;·exact .inl h
   ·exact .inr ⟨_,s,t,.inr hL,h1,h2⟩
  |false=>
   rcases p8 hw (lb:=(l.getD 0 aL).2.2.1) (p:=2) (e:=chk false 0) (.inr rfl) with h|⟨h,_⟩;·exact .inl h
   ·exact absurd h (by decide)
 ·rcases p8 hw (lb:=[]) (p:=0) (e:=0) (.inl rfl) with h|⟨_,s,t,h1,h2⟩
  ·exact .inl h
  ·exact .inr ⟨_,s,t,.inl rfl,h1,h2⟩
end Rv
namespace Rv
open Go
def bV:Str->List Str
 |[]=>[]
 |b::s=>if b=10 then[]::bV s else match bV s with
  |[]=>[[b]]
  |l::r=>(b::l)::r
theorem Cr(c:UInt8):∀s,L.splitR c s≠[]
 |[]=>by simp[L.splitR]
 |b::s=>by
  rw[L.splitR];split;·simp
  ·split<;>simp
def lN(l:List Str):List Str:=if l.getD (l.length-1) []=[] then l.take (l.length-1) else l
theorem tY(x:Str){l:List Str}(h:l≠[]):lN (x::l)=x::lN l:=by
 obtain⟨y,r,rfl⟩:=List.exists_cons_of_ne_nil h;unfold lN;have e:(x::y::r).getD ((x::y::r).length-1) []=(y::r).getD ((y::r).length-1) []:=rfl;rw[e];split;·rfl
 ·rfl
theorem uQ:∀s:Str,lN (L.splitR 10 s)=bV s
 |[]=>rfl
 |b::s=>by
  have ih:=uQ s;have hne:=Cr 10 s;rw[L.splitR,bV];by_cases h:b=10;·rw[if_pos h,if_pos h,tY _ hne,ih]
  ·rw[if_neg h,if_neg h,<- ih];obtain⟨y,r,hs⟩:=List.exists_cons_of_ne_nil hne;rw[hs];dsimp only;cases r with
   |nil=>
    have h1:lN [b::y]=[b::y]:=by unfold lN;rw[if_neg (by simp)]
    rw[h1];unfold lN;cases y with
    |nil=>rfl
    |cons c t=>rw[if_neg (by simp)]
   |cons z r=>
    rw[tY (b::y) (l:=z::r) (by simp),tY y (l:=z::r) (by simp)]
theorem mG:∀s:Str,(bV s).length<=s.length/\∀l∈bV s,l.length<=s.length
 |[]=>⟨Px _,fun l h=>by cases h⟩
 |b::s=>by
  obtain⟨h1,h2⟩:=mG s;rw[bV];split
  ·refine⟨by simp;omega,fun l hl=>?_⟩;rcases Py.1 hl with rfl|hl
   ·simp
   ·have:=h2 l hl;simp;omega
  ·split
   ·refine⟨by simp,fun l hl=>?_⟩;rw[PV] at hl;subst hl;simp
   ·rename_i x r hx;rw[hx] at h1 h2;refine⟨by simp at h1⊢;omega,fun l hl=>?_⟩;rcases Py.1 hl with rfl|hl
    ·have:=h2 x (Qc ..);simp;omega
    ·have:=h2 l (PE _ hl);simp;omega
theorem qd:∀(n:Nat) (k:Int) (s:Str) (l:List Tok),s.length<=n->aH k s=.ok l->∀t∈l,t.2.2.1.length<=s.length
 |_,k,[],l,_,h=>by rw[kX] at h;cases h;intro t ht;cases ht
 |0,k,c::r,l,hn,_=>by simp at hn
 |n+1,k,c::r,l,hn,h=>by
  simp only[PG] at hn⊢;rw[d9] at h;split at h;·cases h;intro t ht;cases ht
  ·split at h
   ·intro t ht;have:=qd n (k+1) r l (by omega) h t ht;omega
   ·split at h
    ·cases h
    ·rename_i d q tx v hT;obtain⟨h1,h2,_⟩:=Lc hT;split at h
     ·cases h
     ·rename_i l' hl;cases h;intro t ht;rcases Py.1 ht with rfl|ht
      ·simp only;omega
      ·have:=qd n _ _ l' (by simp;omega) hl t ht;simp at this;omega
def iZ(s:Str):PR:=let y:=aX [] (aH 0 s);if y.2.1≠0 then noP y.2.1 else jf y.1
abbrev vH(p:PR):Int:=p.2.2.2.2.2.2.2.2.2.1
abbrev lnP(p:PR):Ln:=(p.1,(p.2.1,p.2.2.1,p.2.2.2.1,p.2.2.2.2.1,p.2.2.2.2.2.1,p.2.2.2.2.2.2.1,p.2.2.2.2.2.2.2.1,p.2.2.2.2.2.2.2.2.1,()),())
theorem F9{k:Int}{s:Str}(hs:s.length<=1000000):(aX [] (aH k s)).1.length<=1000000:=PW nU hs
theorem zy(s:Str)(hs:s.length<=1000000):Zab.g (aX [] (aH 0 s)).1=some (jf (aX [] (aH 0 s)).1):=by
 refine zF (F9 hs) fun t ht=>?_
 have h:∀t∈(aX [] (aH 0 s)).1,t.2.2.1.length<=s.length:=by
  cases h:aH 0 s with
  |error e=>intro t ht;cases ht
  |ok l=>
   intro t ht;have ht:t∈l:=by simpa[aX] using ht
   exact qd s.length 0 s l (Px _) h t ht
 exact PW (h t ht) hs
theorem NS(s:Str)(hs:s.length<=1000000):Zdk.g s=some (iZ s):=by
 unfold Zdk.g Zdk.f iZ;rw[ut s hs,Pn];generalize hy:aX [] (aH 0 s)=y;have hp:=zy s hs;rw[hy] at hp;by_cases h:y.2.1≠0;·rw[if_pos (by simpa using h)];show _=some (if _ then _ else _);rw[if_pos h];rfl
 ·rw[if_neg (by simpa using h),hp,Pn];show _=some (if _ then _ else _);rw[if_neg h]
def bB:Nat->List Str->Except (Nat×Int) (List Ln)
 |_,[]=>.ok []
 |i,s::r=>if vH (iZ s)≠0 then .error (i+1,vH (iZ s)) else match bB (i+1) r with
  | .error x=>.error x
  | .ok l=>.ok (lnP (iZ s)::l)
def sK(out:List Ln):Except (Nat×Int) (List Ln)->List Ln×Int×Int×Unit
 | .ok l=>(out++l,0,0,())
 | .error x=>([],(x.1:Int),x.2,())
theorem Gy(l:List Str)(hl:l.length<=1000000)(hs:∀s∈l,s.length<=1000000)(n:Nat):∀(m i:Nat) (out:List Ln),i<=l.length->l.length-i<m->out.length=i ->
  Zbw.l5 n m out l (l.length:Int) (i:Int)=some (sK out (bB i (l.drop i))):=by
 intro m
 induction m with
 |zero=>intro i out _ h;omega
 |succ m ih=>
  intro i out hi hm ho;rw[Zbw.l5];simp only[dt,PN];by_cases h:i<l.length
  ·have hd:l.drop i=l.getD i []::l.drop (i+1):=by
    rw[P5 h,PM,PI h];rfl
   have hg:l.getD i []∈l:=by rw[PM,PI h];exact Qp h
   have W1:IntKind.i64.wrap ((i:Int)+1)=((i+1:Nat):Int):=by rw[w64 (by omega)];omega
   rw[if_pos (by omega),if_pos (by omega),NS _ (hs _ hg),Pn,hd,bB,W1];by_cases he:vH (iZ (l.getD i []))≠0;·rw[if_pos he,if_pos he];rfl
   ·rw[if_neg he,if_neg he,if_pos (by simp;omega),ih (i+1) _ (by omega) (by omega) (by simp[ho])];cases bB (i+1) (l.drop (i+1)) with
    |error x=>rfl
    |ok r=>show some (_++r,_)=some (_++_,_);rw[Pz];rfl
  ·obtain rfl:i=l.length:=by omega
   rw[if_neg (by omega),Qe,bB];simp[sK]
def cO(s:Str):List Ln×Int×Int×Unit:=
 if 262144<s.length then([],0,2,()) else if 4096<(bV s).length then([],0,2,()) else sK [] (bB 0 (bV s))
theorem JD(l:List Str)(hl:l.length<=1000000)(hs:∀s∈l,s.length<=1000000):Zbw.g l=some (if 4096<l.length then([],0,2,()) else sK [] (bB 0 l)):=by
 unfold Zbw.g Zbw.f;by_cases h:4096<l.length;·rw[if_pos (by simp;omega),if_pos h]
 ·rw[if_neg (by simp;omega),if_neg h];have:=Gy l hl hs (1000+l.length) (1000+l.length) 0 [] (by omega) (by omega) rfl;rw[PZ] at this;exact this
theorem zU:∀s:Str,(L.splitR 10 s).length<=s.length+1
 |[]=>Px _
 |b::s=>by
  have:=zU s;rw[L.splitR];split;·simp;omega
  ·split
   ·simp
   ·rename_i x r hx;rw[hx] at this;simp at this⊢;omega
theorem zB(s:Str)(hs:s.length<=1000000):Zbh.g s=some (cO s):=by
 unfold Zbh.g Zbh.f cO;by_cases h:262144<s.length;·rw[if_pos (by simp;omega),if_pos h]
 ·rw[if_neg (by simp;omega),if_neg h];have hO:L.splitO s [10]=some (L.splitR 10 s,()):=by unfold L.splitO;dsimp only;rw[if_pos (by omega)]
  have h1:=zU s;have h2:=List.length_pos_iff.2 (Cr 10 s);have ht:=uQ s;obtain⟨g1,g2⟩:=mG s;rw[hO,Pn];dsimp only;generalize L.splitR 10 s=S at h1 h2 ht;have W:IntKind.i64.wrap ((S.length:Int)-1)=((S.length-1:Nat):Int):=by rw[w64 (by omega)];omega
  have fin:Zbh.j7 (1000+s.length) (lN S)=some (if 4096<(bV s).length then([],0,2,()) else sK [] (bB 0 (bV s))):=by
   rw[ht];unfold Zbh.j7;rw[JD _ (by omega) (fun l hl=>by have:=g2 l hl;omega),Pn]
  simp only[dt];rw[W,PN,if_pos (by omega)];unfold lN at fin;by_cases he:S.getD (S.length-1) []=[]
  ·rw[if_pos he] at fin;rw[if_pos he,if_pos (by omega),PZ];exact fin
  ·rw[if_neg he] at fin;rw[if_neg he];exact fin
theorem vG:∀(l:List Str) (i:Nat) (r:List Ln),bB i l=.ok r->r.length=l.length
 |[],i,r,h=>by rw[bB] at h;cases h;rfl
 |s::l,i,r,h=>by
  rw[bB] at h;split at h;·cases h
  ·cases hr:bB (i+1) l with
   |error x=>rw[hr] at h;cases h
   |ok q=>rw[hr] at h;cases h;simp[vG l (i+1) q hr]
theorem Ba:∀(l:List Str) (i:Nat) (x:Nat×Int),bB i l=.error x->x.2≠0/\i<x.1/\x.1<=i+l.length
 |[],i,x,h=>by rw[bB] at h;cases h
 |s::l,i,x,h=>by
  rw[bB] at h;split at h;·rename_i hne;cases h;exact⟨hne,by simp,by simp⟩
  ·cases hr:bB (i+1) l with
   |error y=>rw[hr] at h;cases h;have:=Ba l (i+1) _ hr;exact⟨this.1,by omega,by simp;omega⟩
   |ok q=>rw[hr] at h;cases h
theorem sM{s:Str}(hs:s.length<=4096):cO s=sK [] (bB 0 (bV s)):=by
 unfold cO;have:=(mG s).1;rw[if_neg (by omega),if_neg (by omega)]
end Rv
