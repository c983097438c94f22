/- Texts put together. -/
import Derived.Test.YtfphlcngbllgoaaGreatDoorBB2
set_option linter.all false
open _root_ renaming Int→I,if_pos→J,List→S,if_neg→U,Nat→Y,Bool→C,Unit→zaa,Option→zab
open Option renaming some→Z
open Go.IntKind renaming i64→D,u32→M,u64→E
open Decidable renaming decide→F
open Bool renaming true→G,false→A
namespace Rv
open Go
def bN(x:Ln):Y:=if x.2.1.1=0\/x.2.1.1=10 then 0 else 1
theorem sP(x:Ln):bN x<=1:=by unfold bN;split<;>omega
def bG:S Ln->Y->S I->S Sym->Y->Except (Y×I) (S I×S Sym×Y)
 |[],_,a,lb,c=>.ok (a,lb,c)
 |x::r,i,a,lb,c=>
  if x.1=[] then bG r (i+1) (a++[((4*c:Y):I)]) lb (c+bN x)
  else if(bB x.1 lb).isSome=G then .error (i+1,26)
  else bG r (i+1) (a++[((4*c:Y):I)]) (lb++[(x.1,((4*c:Y):I),())]) (c+bN x)
def Ad(p:S Val)(v:Val):S Val:=if v∈p then p else p++[v]
def vOf(lb:S Sym)(e:S Item):I×I×I×zaa:=(ofR lb e).getD (0,0,99,())
def dE(lb:S Sym):S Ln->Y->S Val->Except (Y×I) (S Val)
 |[],_,p=>.ok p
 |x::r,i,p=>
  if x.2.1.1=8 then
   (if(vOf lb x.2.1.2.2.2.2.2.2.1).2.2.1≠0 then .error (i+1,(vOf lb x.2.1.2.2.2.2.2.2.1).2.2.1)
   else if(vOf lb x.2.1.2.2.2.2.2.2.1).2.1<0\/1<(vOf lb x.2.1.2.2.2.2.2.2.1).2.1 then .error (i+1,27)
   else dE lb r (i+1) (Ad p ((vOf lb x.2.1.2.2.2.2.2.2.1).1,(vOf lb x.2.1.2.2.2.2.2.2.1).2.1,())))
  else dE lb r (i+1) p
abbrev yI:=S I×S Sym×S Val×I×I×I×I×zaa
def zy(i:Y)(e:I):yI:=([],[],[],0,0,(i:I),e,())
def zD(t:S I)(lb:S Sym)(c:Y):Except (Y×I) (S Val)->yI
 | .error x=>zy x.1 x.2
 | .ok p=>if 1024<c+p.length then zy 0 2 else(t,lb,p,((4*c:Y):I),((c+p.length:Y):I),0,0,())
def Dy(l:S Ln):Except (Y×I) (S I×S Sym×Y)->yI
 | .error x=>zy x.1 x.2
 | .ok r=>zD r.1 r.2.1 r.2.2 (dE r.2.1 l 0 [])
def ed(l:S Ln):yI:=Dy l (bG l 0 [] [] 0)
def yn(v:Val):S Val->Y
 |[]=>0
 |x::r=>if x=v then 0 else yn v r+1
theorem H7(labels:S Sym)(e:S Item):∃v1 v2 x,ofR labels e=Z (v1,v2,x,()):=by
 unfold ofR;by_cases hw:well e=G
 ·rw[J hw];unfold well at hw;rw[Va,Vf] at hw;have hwl:fZ e:=by unfold fZ;rw[<- oI];exact hw.1
  rcases PL labels hwl with⟨x,hx⟩|⟨v,hv⟩;·rw[hx];exact⟨0,0,x,rfl⟩
  ·rw[hv];exact⟨v.1,v.2.1,0,rfl⟩
 ·rw[U hw];exact⟨0,0,23,rfl⟩
theorem H8(labels:S Sym)(e:S Item):ofR labels e=Z (vOf labels e):=by
 obtain⟨a,b,c,h⟩:=H7 labels e;unfold vOf;rw[h];rfl
theorem mY:∀(l:S Ln) (i:Y) (a:S I) (lb:S Sym) (c:Y) {r},bG l i a lb c=.ok r->r.1.length=a.length+l.length/\r.2.1.length<=lb.length+l.length/\r.2.2<=c+l.length
 |[],_,a,lb,c,r,h=>by cases h;simp
 |x::t,i,a,lb,c,r,h=>by
  have hs:=sP x;unfold bG at h;split at h;·have:=mY t _ _ _ _ h;simp at this⊢;omega
  ·split at h
   ·cases h
   ·have:=mY t _ _ _ _ h;simp at this⊢;omega
theorem DV(p:S Val)(v:Val):(Ad p v).length<=p.length+1:=by unfold Ad;split<;>simp
theorem oW(lb:S Sym):∀(l:S Ln) (i:Y) (p:S Val) {r},dE lb l i p=.ok r->r.length<=p.length+l.length
 |[],_,p,r,h=>by cases h;simp
 |x::t,i,p,r,h=>by
  unfold dE at h;split at h
  ·split at h
   ·cases h
   ·split at h
    ·cases h
    ·have:=oW lb t _ _ h;have:=DV p ((vOf lb x.2.1.2.2.2.2.2.2.1).1,(vOf lb x.2.1.2.2.2.2.2.2.1).2.1,());simp;omega
  ·have:=oW lb t _ _ h;simp;omega
end Rv
namespace Rv
open Go
abbrev eL(x:Ln):S Item:=x.2.1.2.2.2.2.2.2.1
theorem zq(lb:S Sym):∀(l:S Ln) (i:Y) (p:S Val),(∀x∈l,x.2.1.1≠8)->dE lb l i p=.ok p
 |[],_,_,_=>rfl
 |x::r,i,p,h=>by
  rw[dE,U (h x (by simp))];exact zq lb r _ _ λy hy=>h y (by simp[hy])
end Rv
namespace Rv
open Go
def isA(b:UInt8):C:=F (65<=b.toNat/\b.toNat<=90\/97<=b.toNat/\b.toNat<=122)
theorem Qk(b:UInt8):isL b=(isA b||F (b.toNat=95)):=by
 unfold isL isA;rw[Bool.eq_iff_iff];simp only[Vf,Bool.or_eq_true];omega
def bD(s:Str):C:=F (s≠[])&&F (s.length<=12)&&isA (s.getD 0 0)&&!lI s&&s.all isW
end Rv
namespace Rv
open Go
end Rv
namespace Rv
open Go
end Rv
namespace Rv
open Go
end Rv
namespace Rv
open Go
def xK(x:Item):Prop:=0<=x.2.1/\x.2.1<=4294967295/\(az x).2=G
end Rv
namespace Rv
open Go
end Rv
namespace Rv
open Go
end Rv
namespace Rv
open Go
end Rv
namespace Rv
open Go
end Rv
namespace Rv
open Go
theorem OG(x:Ln):Zep.g x.2.1.1 x.2.1.2.1 x.2.1.2.2.1 x.2.1.2.2.2.1 x.2.1.2.2.2.2.1 x.2.1.2.2.2.2.2.1 x.2.1.2.2.2.2.2.2.1 x.2.1.2.2.2.2.2.2.2.1=Z ((bN x:I),()):=by
 unfold Zep.g Zep.f bN;simp only[dt];by_cases h0:x.2.1.1=0;·rw[J h0,J h0,J (.inl h0)];rfl
 ·rw[U h0];by_cases h1:x.2.1.1=10
  ·rw[J h1,J (.inr h1)];rfl
  ·rw[U h1,U (by rintro(h|h)<;>contradiction)];rfl
theorem Ub(x:Val)(a b:I):(F (x.1=a)&&(F (x.2.1=b)&&G))=F (x=(a,b,())):=by
 obtain⟨x1,x2,_⟩:=x;simp only[Bool.and_true];by_cases h1:x1=a<;>by_cases h2:x2=b<;>simp[h1,h2]
theorem Md(p:S Val)(a b:I)(hp:p.length<=1000000)(n:Y):∀(m i:Y),i<=p.length->p.length-i<m ->
  Zbx.l2 n m p p (p.length:I) (i:I) a b=Z (if(a,b,())∈p.drop i then p else p++[(a,b,())],((i+yn (a,b,()) (p.drop i):Y):I),()):=by
 intro m
 induction m with
 |zero=>intro i _ h;omega
 |succ m ih=>
  intro i hi hm;rw[Zbx.l2];simp only[Ub,dt,Vj];by_cases h:i<p.length
  ·have hd:p.drop i=p.getD i ((0:I),((0:I),()))::p.drop (i+1):=by
    rw[Vs h,Vh,Ve h];rfl
   rw[J (by omega),J (by omega),hd];generalize p.getD i ((0:I),((0:I),()))=x;unfold yn;by_cases hx:x=(a,b,())
   ·rw[J hx,J (by rw[hx];simp),J hx];simp
   ·rw[U hx,U hx,w64 (by omega),show(i:I)+1=((i+1:Y):I) by omega,ih (i+1) (by omega) (by omega)];have e:((a,b,())∈x::p.drop (i+1))=((a,b,())∈p.drop (i+1)):=by
     apply propext;rw[Vg];exact⟨λh=>h.resolve_left λe=>hx e.symm,.inr⟩
    simp only[e];rw[show i+1+yn (a,b,()) (p.drop (i+1))=i+(yn (a,b,()) (p.drop (i+1))+1) by omega]
  ·obtain rfl:i=p.length:=by omega
   rw[U (by omega),VH];unfold Zfc.g Zfc.f;rw[J ⟨rfl,rfl,rfl⟩,U4];dsimp only;rw[J (by simp),J (by simp;omega),U (by simp)];rfl
theorem Ij(p:S Val)(a b:I)(hp:p.length<=1000000):Zbx.g p a b=Z (Ad p (a,b,()),(yn (a,b,()) p:I),()):=by
 unfold Zbx.g Zbx.f;have:=Md p a b hp (1000+p.length+a.toNat+b.toNat) (1000+p.length+a.toNat+b.toNat) 0 (by omega) (by omega);rw[VB,Nat.zero_add] at this;exact this
theorem CY{c k:Y}(hc:c<=1000000)(hk:k<=1):D.wrap (((4*c:Y):I)+D.wrap (4*(k:I)))=((4*(c+k):Y):I):=by
 rw[w64 (x:=4*(k:I)) (by omega),w64 (by omega)];omega
theorem Pn(x:Ln)(t:S I)(lb:S Sym)(q:S Val)(c:Y)(s:I)(ht:t.length<=1000000)(hlb:lb.length<=1000000)(hc:c<=1000000) :
  Zcy.g x.1 x.2.1.1 x.2.1.2.1 x.2.1.2.2.1 x.2.1.2.2.2.1 x.2.1.2.2.2.2.1 x.2.1.2.2.2.2.2.1 x.2.1.2.2.2.2.2.2.1 x.2.1.2.2.2.2.2.2.2.1 t lb q ((4*c:Y):I) s =
   Z (if x.1=[] then(0,t++[((4*c:Y):I)],lb,q,((4*(c+bN x):Y):I),s,()) else if(bB x.1 lb).isSome=G then(26,t++[((4*c:Y):I)],lb,q,((4*c:Y):I),s,())
    else(0,t++[((4*c:Y):I)],lb++[(x.1,((4*c:Y):I),())],q,((4*(c+bN x):Y):I),s,())):=by
 unfold Zcy.g;generalize 1000+_+_+_+_+_+_+_+_+_+_+_+_+_=n;unfold Zcy.f Zcy.j7;rw[J (by simp;omega),Aq lb x.1 (by omega),U4,OG,U4];dsimp only;rw[CY hc (sP x)];simp only[Bool.not_eq_true',decide_eq_false_iff_not];by_cases h:x.1=[]
 ·rw[U (by simpa using h),J h,U4];dsimp only;rw[CY hc (sP x)]
 ·rw[J h,U h];by_cases h2:(bB x.1 lb).isSome=G
  ·rw[J h2,J h2]
  ·rw[U h2,U h2,J (by simp;omega)]
theorem Al{a:S Ln}{i:Y}(h:i<a.length):a.drop i=a.getD i zL::a.drop (i+1):=by
 rw[Vs h,Vh,Ve h];rfl
theorem Hd{a:S Ln}{i:Y}(h:i<a.length):a.getD i zL∈a:=by
 rw[Vh,Ve h];exact VI h
theorem QT(a:S Ln)(ha:a.length<=1000000)(n:Y)(q:S Val)(s:I):∀(m i:Y) (t:S I) (lb:S Sym) (c:Y),i<=a.length->a.length-i<m->t.length<=i->lb.length<=i->c<=i ->
  ∃r,Zdh.l2 n m a (a.length:I) (i:I) t lb q ((4*c:Y):I) s=Z r/\(∀x,bG (a.drop i) i t lb c=.error x->r.1=(x.1:I)/\r.2.1=x.2/\x.2≠0) /\
   (∀y,bG (a.drop i) i t lb c=.ok y->r=(0,0,y.1,y.2.1,q,((4*y.2.2:Y):I),s,())):=by
 intro m
 induction m with
 |zero=>intro i _ _ _ _ h;omega
 |succ m ih=>
  intro i t lb c hi hm ht hlb hc;rw[Zdh.l2];simp only[dt,Vj];by_cases h:i<a.length
  ·rw[J (by omega),J (by omega),Pn _ t lb q c s (by omega) (by omega) (by omega),U4,Al h];have hs:=sP (a.getD i zL);generalize a.getD i zL=x at hs;have W:D.wrap ((i:I)+1)=((i+1:Y):I):=by rw[w64 (by omega)];omega
   rw[bG,W];by_cases h1:x.1=[]
   ·rw[J h1,J h1];simp only[ne_eq,not_true_eq_false,↓reduceIte];exact ih (i+1) _ _ _ (by omega) (by omega) (by simp;omega) (by omega) (by omega)
   ·rw[U h1,U h1];by_cases h2:(bB x.1 lb).isSome=G
    ·rw[J h2,J h2];dsimp only;rw[J (by decide)];exact⟨_,rfl,λy hy=>by cases hy;exact⟨rfl,rfl,(by decide:(26:I)≠0)⟩,λy hy=>by cases hy⟩
    ·rw[U h2,U h2];simp only[ne_eq,not_true_eq_false,↓reduceIte];exact ih (i+1) _ _ _ (by omega) (by omega) (by simp;omega) (by simp;omega) (by omega)
  ·obtain rfl:i=a.length:=by omega
   rw[U (by omega),VH];exact⟨_,rfl,λx hx=>by(rw[bG] at hx;cases hx),λy hy=>by(rw[bG] at hy;cases hy;rfl)⟩
theorem Po(x:Ln)(t:S I)(lb:S Sym)(q:S Val)(f s:I)(hlb:lb.length<=1000000)(hq:q.length<=1000000)(he:(eL x).length<=4611686018427387904) :
  Zeq.g x.1 x.2.1.1 x.2.1.2.1 x.2.1.2.2.1 x.2.1.2.2.2.1 x.2.1.2.2.2.2.1 x.2.1.2.2.2.2.2.1 x.2.1.2.2.2.2.2.2.1 x.2.1.2.2.2.2.2.2.2.1 t lb q f s =
   Z (if x.2.1.1=8 then(if(vOf lb (eL x)).2.2.1≠0 then((vOf lb (eL x)).2.2.1,t,lb,q,f,s,()) else if(vOf lb (eL x)).2.1<0\/1<(vOf lb (eL x)).2.1 then(27,t,lb,q,f,s,())
    else(0,t,lb,Ad q ((vOf lb (eL x)).1,(vOf lb (eL x)).2.1,()),f,s,())) else(0,t,lb,q,f,s,())):=by
 unfold Zeq.g;generalize 1000+_+_+_+_+_+_+_+_+_+_+_+_+_=n;unfold Zeq.f;rw[JI lb (by omega) _ he,H8,U4];simp only[dt,df];by_cases h8:x.2.1.1=8
 ·rw[U (by simpa using h8),J h8];show(if(vOf lb (eL x)).2.2.1≠0 then _ else _)=_;by_cases h1:(vOf lb (eL x)).2.2.1≠0
  ·rw[J h1,J h1]
  ·rw[U h1,U h1,Ij q _ _ hq,U4];by_cases h2:(vOf lb (eL x)).2.1<0
   ·rw[U (by simpa using h2),J (.inl h2)]
   ·rw[J h2];by_cases h3:1<(vOf lb (eL x)).2.1
    ·rw[J h3,J (.inr h3)]
    ·rw[U h3,U (by rintro(h|h)<;>contradiction)]
 ·rw[J h8,U h8]
theorem QU(a:S Ln)(ha:a.length<=1000000)(he:∀x∈a,(eL x).length<=4611686018427387904)(n:Y)(t:S I)(lb:S Sym)(hlb:lb.length<=1000000)(f s:I):∀(m i:Y) (q:S Val),i<=a.length->a.length-i<m->q.length<=i ->
  ∃r,Zdi.l2 n m a (a.length:I) (i:I) t lb q f s=Z r/\(∀x,dE lb (a.drop i) i q=.error x->r.1=(x.1:I)/\r.2.1=x.2/\x.2≠0) /\
   (∀y,dE lb (a.drop i) i q=.ok y->r=(0,0,t,lb,y,f,s,())):=by
 intro m
 induction m with
 |zero=>intro i _ _ h;omega
 |succ m ih=>
  intro i q hi hm hq;rw[Zdi.l2];simp only[dt,Vj];by_cases h:i<a.length
  ·rw[J (by omega),J (by omega),Po _ t lb q f s hlb (by omega) (he _ (Hd h)),U4,Al h];generalize a.getD i zL=x;have W:D.wrap ((i:I)+1)=((i+1:Y):I):=by rw[w64 (by omega)];omega
   rw[dE,W];by_cases h8:x.2.1.1=8
   ·rw[J h8,J h8];show ∃r,_/\(∀y,(if(vOf lb (eL x)).2.2.1≠0 then _ else _)=_->_)/\_;by_cases h1:(vOf lb (eL x)).2.2.1≠0
    ·rw[J h1];dsimp only;rw[J h1];refine⟨_,rfl,λy hy=>?_,λy hy=>?_⟩
     ·rw[J h1] at hy;cases hy;exact⟨rfl,rfl,h1⟩
     ·rw[J h1] at hy;cases hy
    ·rw[U h1];by_cases h2:(vOf lb (eL x)).2.1<0\/1<(vOf lb (eL x)).2.1
     ·rw[J h2];dsimp only;rw[J (by decide)];refine⟨_,rfl,λy hy=>?_,λy hy=>?_⟩
      ·rw[U h1,J h2] at hy;cases hy;exact⟨rfl,rfl,(by decide:(27:I)≠0)⟩
      ·rw[U h1,J h2] at hy;cases hy
     ·rw[U h2];simp only[ne_eq,not_true_eq_false,↓reduceIte];have hl:=DV q ((vOf lb (eL x)).1,(vOf lb (eL x)).2.1,());obtain⟨r,hr,g1,g2⟩:=ih (i+1) (Ad q ((vOf lb (eL x)).1,(vOf lb (eL x)).2.1,())) (by omega) (by omega) (by omega);refine⟨r,hr,λy hy=>g1 y ?_,λy hy=>g2 y ?_⟩
      ·rw[U h1,U h2] at hy;exact hy
      ·rw[U h1,U h2] at hy;exact hy
   ·rw[U h8,U h8];simp only[ne_eq,not_true_eq_false,↓reduceIte];exact ih (i+1) q (by omega) (by omega) (by omega)
  ·obtain rfl:i=a.length:=by omega
   rw[U (by omega),VH];exact⟨_,rfl,λx hx=>by(rw[dE] at hx;cases hx),λy hy=>by(rw[dE] at hy;cases hy;rfl)⟩
theorem JO{c k:Y}(hc:c<=1000000)(hk:k<=1000000):D.wrap (D.wrap (Int.tdiv ((4*c:Y):I) 4)+(k:I))=((c+k:Y):I):=by
 have:Int.tdiv ((4*c:Y):I) 4=(c:I):=by
  rw[Int.tdiv_eq_ediv_of_nonneg (by omega)];omega
 rw[this,w64 (x:=(c:I)) (by omega),w64 (by omega)];omega
theorem RQ(a:S Ln)(ha:a.length<=1000000)(he:∀x∈a,(eL x).length<=4611686018427387904):Zbg.g a=Z (ed a):=by
 have key:∀n m,3<=m->Zbg.l4 n m a 2 0 [] [] [] 0 0=Z (ed a):=by
  intro n m hm;obtain⟨k,rfl⟩:∃k,m=k+3:=⟨m-3,by omega⟩
  obtain⟨r,hr,g1,g2⟩:=QT a ha (1000+a.length+([]:S I).length+([]:S Sym).length+([]:S Val).length+(0:I).toNat+(0:I).toNat) [] 0 (1000+a.length+([]:S I).length+([]:S Sym).length+([]:S Val).length+(0:I).toNat+(0:I).toNat) 0 [] [] 0 (by omega) (by omega) (by simp) (by simp) (by omega);rw[VB] at g1 g2;have hr':Zdh.g a [] [] [] 0 0=Z r:=hr;rw[Zbg.l4,J (by decide),J rfl,hr',U4,Zbg.j7];unfold ed Dy;cases hp:bG a 0 [] [] 0 with
  |error x=>
   obtain⟨e1,e2,e3⟩:=g1 x hp;rw[e1,e2];simp only[dt];rw[J e3];rfl
  |ok y=>
   obtain rfl:=g2 y hp;simp only[ne_eq,not_true_eq_false,decide_false,Bool.false_eq_true,↓reduceIte];have hl:=mY _ _ _ _ _ hp;simp only[Vz,Nat.zero_add] at hl;rw[show D.wrap ((0:I)+1)=1 from rfl,Zbg.l4,J (by decide),U (by decide),J rfl];obtain⟨r2,hr2,k1,k2⟩:=QU a ha he (1000+a.length+y.1.length+y.2.1.length+([]:S Val).length+(((4*y.2.2:Y):I)).toNat+(0:I).toNat) y.1 y.2.1 (by omega) ((4*y.2.2:Y):I) 0 (1000+a.length+y.1.length+y.2.1.length+([]:S Val).length+(((4*y.2.2:Y):I)).toNat+(0:I).toNat) 0 [] (by omega) (by omega) (by simp);rw[VB] at k1 k2;have hr2':Zdi.g a y.1 y.2.1 [] ((4*y.2.2:Y):I) 0=Z r2:=hr2;rw[hr2',U4,Zbg.j7];cases hq:dE y.2.1 a 0 [] with
   |error x=>
    obtain⟨e1,e2,e3⟩:=k1 x hq;rw[e1,e2];simp only[dt];rw[J e3];rfl
   |ok z=>
    obtain rfl:=k2 z hq;have hz:=oW _ _ _ _ hq;simp only[Vz,Nat.zero_add] at hz;simp only[ne_eq,not_true_eq_false,decide_false,Bool.false_eq_true,↓reduceIte];rw[show D.wrap ((1:I)+1)=2 from rfl,Zbg.l4,U (by decide),JO (by omega) (by omega)];simp only[dt];unfold zD;by_cases hw:1024<y.2.2+z.length;·rw[J (by omega)];dsimp only;rw[J hw];rfl
    ·rw[U (by omega)];dsimp only;rw[U hw]
 exact key _ _ (by omega)
end Rv
namespace Rv
open Go
def le4(x:I):S I:=[x % 256,x / 256 % 256,x / 65536 % 256,x / 16777216 % 256]
def leB(l:S I):S I:=l.flatMap le4
theorem AL:∀l:S I,(leB l).length=4*l.length
 |[]=>rfl
 |x::l=>by rw[leB,VC,Vb,<- leB,AL l,Vn];show 4+_=_;omega
theorem SL{a:S I}{i:Y}(h:i<a.length):a.drop i=a.getD i 0::a.drop (i+1):=by
 rw[Vs h,Vh,Ve h];rfl
theorem UY{x:I}(h0:0<=x)(h1:x<=4294967295):[IntKind.u8.wrap x,IntKind.u8.wrap (x.fdiv (2 ^ (min (8:I).toNat M.bits))),IntKind.u8.wrap (x.fdiv (2 ^ (min (16:I).toNat M.bits))),IntKind.u8.wrap (x.fdiv (2 ^ (min (24:I).toNat M.bits)))]=le4 x:=by
 have e8:(2:I) ^ (min (8:I).toNat M.bits)=256:=by decide
 have e16:(2:I) ^ (min (16:I).toNat M.bits)=65536:=by decide
 have e24:(2:I) ^ (min (24:I).toNat M.bits)=16777216:=by decide
 rw[e8,e16,e24,Int.fdiv_eq_ediv_of_nonneg _ (by decide),Int.fdiv_eq_ediv_of_nonneg _ (by decide),Int.fdiv_eq_ediv_of_nonneg _ (by decide)];simp only[IntKind.wrap_u8,le4]
theorem JA(l:S I)(hl:l.length<=100000)(hb:∀x∈l,0<=x/\x<=4294967295)(n:Y):∀(m i:Y) (a:S I),i<=l.length->l.length-i<m->a.length=4*i ->
  Zbq.l3 n m a l (l.length:I) (i:I)=Z (a++leB (l.drop i),()):=by
 intro m
 induction m with
 |zero=>intro i _ _ h;omega
 |succ m ih=>
  intro i a hi hm ha;rw[Zbq.l3];simp only[dt,Vj];by_cases h:i<l.length;·have hx:=hb (l.getD i 0) (by rw[Vh,Ve h];exact VI h);rw[J (by omega),J (by omega),J (by simp;omega),UY hx.1 hx.2,w64 (by omega)];have:=ih (i+1) (a++le4 (l.getD i 0)) (by omega) (by omega) (by rw[Vb];show _+4=_;omega);rw[show((i:I)+1)=((i+1:Y):I) by omega,this,SL h,leB,leB,VC,Vm]
  ·obtain rfl:i=l.length:=by omega
   rw[U (by omega),VH];simp[leB]
theorem xV(l:S I)(hl:l.length<=100000)(hb:∀x∈l,0<=x/\x<=4294967295):Zbq.g l=Z (leB l,()):=by
 unfold Zbq.g Zbq.f;have:=JA l hl hb (1000+l.length) (1000+l.length) 0 [] (by omega) (by omega) rfl;simpa using this
end Rv
namespace Rv
open Go
def Dx(p:S I×I)(s:I):S I×I:=(p.1.set s.toNat (p.1.getD s.toNat 0*65536+p.2),s+1)
def stP(ws ss:S I)(i:Y):S I×I:=(ss.take i).foldl Dx (ws,0)
def dJ(ws ss:S I):S I×I:=ss.foldl Dx (ws,0)
theorem Bh(ws ss:S I):stP ws ss ss.length=dJ ws ss:=by unfold stP dJ;rw[List.take_length]
theorem Ua{ss:S I}{i:Y}(h:i<ss.length):ss.take (i+1)=ss.take i++[ss.getD i 0]:=by
 rw[List.take_succ,Vh,Ve h];rfl
theorem FD{ws ss:S I}{i:Y}(h:i<ss.length):stP ws ss (i+1)=Dx (stP ws ss i) (ss.getD i 0):=by
 unfold stP;rw[Ua h,List.foldl_append];rfl
theorem RN(a k i:Y)(h:a<2 ^ i)(hs:2 ^ i*k+a<4294967296):bn .or .u32 ((2 ^ i*k:Y):I) (a:I)=((2 ^ i*k+a:Y):I):=by
 have ha:(BitVec.ofNat 32 a).toNat=a:=by rw[BitVec.toNat_ofNat];omega
 have hk:(BitVec.ofNat 32 (2 ^ i*k)).toNat=2 ^ i*k:=by rw[BitVec.toNat_ofNat];exact Nat.mod_eq_of_lt (by omega)
 have:=Pf (BitVec.ofNat 32 (2 ^ i*k)) (BitVec.ofNat 32 a);rw[BitVec.toNat_or,ha,hk,<- Nat.two_pow_add_eq_or_of_lt h] at this;exact this
structure OkS (ws ss:S I):Prop where
 lw:ws.length<=1024
 wr:∀x∈ws,0<=x/\x<=4294967295
 lt:∀i j,i<j->j<ss.length->ss.getD i 0<ss.getD j 0
 at_:∀i,i<ss.length->0<=ss.getD i 0/\ss.getD i 0<(ws.length:I)
 low:∀i,i<ss.length->ws.getD (ss.getD i 0).toNat 0<=65535
section
variable{ws ss:S I}(O:OkS ws ss)
include O
theorem OkS.len:ss.length<=1024:=by
 have key:∀i,i<ss.length->(i:I)<=ss.getD i 0:=by
  intro i
  induction i with
  |zero=>intro h;have:=(O.at_ 0 h).1;omega
  |succ i ih=>intro h;have:=ih (by omega);have:=O.lt i (i+1) (by omega) h;omega
 have hl:=O.lw;rcases Nat.lt_or_ge 1024 ss.length with h|h;·have:=key 1024 h;have:=(O.at_ 1024 h).2;omega
 ·exact h
theorem ym:∀i,i<=ss.length->(stP ws ss i).1.length=ws.length/\(∀j,i<=j->j<ss.length->(stP ws ss i).1.getD (ss.getD j 0).toNat 0=ws.getD (ss.getD j 0).toNat 0) /\
  0<=(stP ws ss i).2/\(stP ws ss i).2<=1024/\(∀j,i<=j->j<ss.length->(stP ws ss i).2<=ss.getD j 0)/\∀x∈(stP ws ss i).1,0<=x/\x<=4294967295:=by
 intro i
 induction i with
 |zero=>
  intro _;refine⟨rfl,λ_ _ _=>rfl,Int.le_refl _,by show(0:I)<=1024;decide,λj _ hj=>(O.at_ j hj).1,O.wr⟩
 |succ i ih=>
  intro h;obtain⟨h1,h2,h3,h4,h5,h6⟩:=ih (by omega);have hs:=O.at_ i (by omega);have hlow:=O.low i (by omega);have hlw:=O.lw;have e:=h2 i (U7 _) (by omega);rw[FD (by omega)];generalize hq:stP ws ss i=q at h1 h2 h3 h4 h5 h6 e;obtain⟨o,hd⟩:=q;dsimp only at h1 h2 h3 h4 h5 h6 e;have hpos:0<=o.getD (ss.getD i 0).toNat 0:=by
   rw[Vh,Ve (by omega)];exact(h6 _ (VI _)).1
  unfold Dx;dsimp only;refine⟨by rw[List.length_set];exact h1,λj hj hj2=>?_,by omega,by omega,λj hj hj2=>?_,λx hx=>?_⟩
  ·have hlt:=O.lt i j (by omega) hj2;rw[Vh,List.getElem?_set_ne (by omega),<- Vh];exact h2 j (by omega) hj2
  ·have:=O.lt i j (by omega) hj2;omega
  ·rcases List.mem_or_eq_of_mem_set hx with hx|rfl
   ·exact h6 x hx
   ·omega
theorem Ph(n:Y):∀(m i:Y),i<=ss.length->ss.length-i<m->Zba.l12 n m (stP ws ss i).1 (stP ws ss i).2 ss (ss.length:I) (i:I)=Z ((dJ ws ss).1,(dJ ws ss).2,0,()):=by
 intro m
 induction m with
 |zero=>intro i _ h;omega
 |succ m ih=>
  intro i hi hm;have hl:=O.len;rw[Zba.l12];simp only[dt,Vj];by_cases h:i<ss.length
  ·obtain⟨h1,h2,h3,h4,h5,h6⟩:=ym O i hi;have hs:=O.at_ i h;have hlow:=O.low i h;have e:=h2 i (U7 _) h;have ih:=ih (i+1) (by omega) (by omega);rw[FD h] at ih;have hlw:=O.lw;generalize hq:stP ws ss i=q at h1 h2 h3 h4 h5 h6 e ih;obtain⟨o,hd⟩:=q;dsimp only at h1 h2 h3 h4 h5 h6 e ih⊢;have hpos:0<=o.getD (ss.getD i 0).toNat 0:=by
    rw[Vh,Ve (by omega)];exact(h6 _ (VI _)).1
   have hr:0<=ss.getD i 0/\ss.getD i 0<(o.length:I):=by omega
   have hv:bn .or .u32 (M.wrap (o.getD (ss.getD i 0).toNat 0*2 ^ (min (16:I).toNat M.bits))) (M.wrap hd)=o.getD (ss.getD i 0).toNat 0*65536+hd:=by
    have e16:(2:I) ^ (min (16:I).toNat M.bits)=65536:=by decide
    rw[e16,e];rw[e] at hpos;generalize ws.getD (ss.getD i 0).toNat 0=y at hpos hlow;obtain⟨y,rfl⟩:=Int.eq_ofNat_of_zero_le hpos;obtain⟨d,rfl⟩:=Int.eq_ofNat_of_zero_le h3;have a1:M.wrap ((y:I)*65536)=((2 ^ 16*y:Y):I):=by rw[IntKind.wrap_u32];omega
    have a2:M.wrap (d:I)=(d:I):=by rw[IntKind.wrap_u32];omega
    rw[a1,a2,RN _ _ 16 (by omega) (by omega)];omega
   rw[J (by omega),J (by omega),J hr,U (by omega),J hr,J hr,hv,w64 (by omega),w64 (by omega),show(i:I)+1=((i+1:Y):I) by omega];exact ih
  ·obtain rfl:i=ss.length:=by omega
   rw[U (by omega),Bh]
theorem RP(n:Y)(hn:ss.length<n):∀(m i:Y) (c:I),i<=ss.length->ss.length-i<m->(∀j,i<=j->j<ss.length->c<ss.getD j 0)->Zba.l3 n m ws ss c ss (ss.length:I) (i:I)=Z ((dJ ws ss).1,(dJ ws ss).2,0,()):=by
 intro m
 induction m with
 |zero=>intro i _ _ h;omega
 |succ m ih=>
  intro i c hi hm hc;have hl:=O.len;have hlw:=O.lw;rw[Zba.l3];simp only[dt,df,Vj];by_cases h:i<ss.length;·have hs:=O.at_ i h;have h0:=hc i (U7 _) h;rw[J (by omega),J (by omega),J (by omega),J (by omega),U (by omega),w64 (by omega),show(i:I)+1=((i+1:Y):I) by omega];exact ih (i+1) _ (by omega) (by omega) λj hj hj2=>O.lt i j (by omega) hj2
  ·rw[U (by omega)];unfold L.cloneO;rw[J (by omega),U4];exact Ph O n n 0 (by omega) (by omega)
theorem Ia:Zba.g ws ss=Z ((dJ ws ss).1,(dJ ws ss).2,0,()):=by
 unfold Zba.g;generalize hn:1000+ws.length+ss.length=n;unfold Zba.f;exact RP O n (by omega) n 0 (-1) (by omega) (by omega) λj _ hj=>by have:=(O.at_ j hj).1;omega
end
end Rv
namespace Rv
open Go
theorem Oz:((List.range 256).all λk=>F (Zby.g (k:I) G=Z (isA (UInt8.ofNat k),()))&&F (Zby.g (k:I) A=Z (isW (UInt8.ofNat k),())))=G:=by decide +kernel
theorem Ht(b:UInt8)(f:C):Zby.g (b.toNat:I) f=Z (if f then isA b else isW b,()):=by
 have h:=Vq.1 Oz b.toNat (by simp;exact b.toNat_lt)
 simp at h;cases f;·exact h.2
 ·exact h.1
theorem Gc(s:Str)(hs:s.length<=12)(n:Y):∀(m i:Y),1<=i->i<=s.length->s.length-i<m ->
  Zak.l4 n m s (s.length:I) (i:I)=if(s.drop i).all isW=G then Zak.l4 n 1 s (s.length:I) (s.length:I) else Z (A,()):=by
 intro m
 induction m with
 |zero=>intro i _ _ h;omega
 |succ m ih=>
  intro i h0 hi hm;by_cases h1:i<s.length;·rw[Zak.l4,J (by simp;omega),J (by omega),qj,Ht,U4,eZ h1,VO];dsimp only;rw[U (show ¬F ((i:I)=0)=G by simp;omega),w64 (by omega),show(i:I)+1=((i+1:Y):I) by omega,ih (i+1) (by omega) (by omega) (by omega)];cases isW (s.getD i 0)<;>simp
  ·have hi':i=s.length:=by omega
   subst hi';rw[VH,List.all_nil,J rfl];have hlt:¬((s.length:I)<s.length):=by omega
   simp only[Zak.l4,dt,hlt,if_false]
theorem mq(s:Str):Zak.g s=Z (bD s,()):=by
 unfold Zak.g Zak.f;simp only[dt,df];by_cases h0:s=[]
 ·subst h0;rw[U (by simp)];rfl
 ·have hl0:0<s.length:=List.length_pos_iff.2 h0;rw[J (by omega)];by_cases h12:s.length<=12
  ·rw[U (by omega)];obtain⟨m,hm⟩:∃m,1000+s.length=m+1:=⟨999+s.length,by omega⟩
   rw[show Zak.l4 (1000+s.length) (1000+s.length) s (s.length:I) 0=Zak.l4 (1000+s.length) (m+1) s (s.length:I) 0 by rw[hm],Zak.l4,J (by simp;omega),J (by omega)];have hb0:bt s 0=((s.getD 0 0).toNat:I):=rfl;rw[hb0,Ht,U4];dsimp only;have hdd:F ((0:I)=0)=G:=rfl;rw[hdd,J (show G=G from rfl),show D.wrap ((0:I)+1)=((1:Y):I) from rfl,Gc s h12 (1000+s.length) m 1 (by omega) (by omega) (by omega)];have hall:s.all isW=(isW (s.getD 0 0)&&(s.drop 1).all isW):=by
    have:=eZ (s:=s) (k:=0) hl0;rw[VB] at this
    conv=>lhs;rw[this]
    rw[VO]
   unfold bD;rw[decide_eq_true h0,decide_eq_true h12,hall];have hAW:isA (s.getD 0 0)=G->isW (s.getD 0 0)=G:=λh=>by unfold isW;rw[Qk,h];rfl
   cases hA:isA (s.getD 0 0) with
   |false=>rw[J (by simp)];simp
   |true=>
    rw[U (by simp),hAW hA];by_cases hw:(s.drop 1).all isW=G
    ·rw[J hw,hw];simp only[Zak.l4,dt,df];rw[U (by omega),J (by omega),hb0];have h82:(((s.getD 0 0).toNat:I)=82)=(s.getD 0 0=82):=kV _ 82 (by omega);simp only[h82];have htake:(s.take (s.length:I).toNat).drop (1:I).toNat=s.drop 1:=by
      rw[show(s.length:I).toNat=s.length by omega,List.take_length];rfl
     have htrim:s.length<=3->L.trimO ((s.take (s.length:I).toNat).drop (1:I).toNat) [48,49,50,51,52,53,54,55,56,57]=Z (L.trimDig (s.drop 1),()):=λh=>by
      rw[htake];unfold L.trimO;rw[J ⟨rfl,by simp;omega⟩]
     have hT:F (L.trimDig (s.drop 1)=[])=(s.drop 1).all isD:=by
      rw[Bool.eq_iff_iff,Vf,FU]
     unfold lI;by_cases hR:s.getD 0 0=82
     ·rw[J hR,decide_eq_true hR];by_cases h2:s.length=2
      ·rw[U (by omega),J (by omega),htrim (by omega),U4,decide_eq_true h2];dsimp only;rw[hT];simp
      ·rw[J (by omega),decide_eq_false h2];by_cases h3:s.length=3
       ·rw[J (by omega),J (by omega),htrim (by omega),U4,decide_eq_true h3];dsimp only;rw[hT];simp
       ·rw[U (by omega),decide_eq_false h3];simp
     ·rw[U hR,decide_eq_false hR];simp
    ·rw[U hw,Bool.eq_false_iff.2 hw];simp
  ·rw[J (by omega)];unfold bD;rw[decide_eq_false h12];simp
end Rv
namespace Rv
open Go
def zx(s:Str):S I:=(s.length:I)::((s.map λb=>(b.toNat:I))++List.replicate ((s.length+4) / 4*4-1-s.length) 0)
theorem Cn(s:Str):(zx s).length=(s.length+4) / 4*4:=by
 unfold zx;simp;omega
theorem mV{s:Str}(h:bD s=G):1<=s.length/\s.length<=12:=by
 unfold bD at h;simp only[Va,Vf] at h;refine⟨?_,h.1.1.1.2⟩;cases s with
 |nil=>simp at h
 |cons _ _=>simp
theorem JR{s:Str}(h:bD s=G):Zez.g s=Z (zx s,0,()):=by
 have hl:=mV h;unfold Zez.g L.putNameO;rw[mq s,U4];dsimp only;rw[J h,J (by omega)];rfl
end Rv
namespace Rv
open Go
abbrev zSy:Sym:=(([]:Str),((0:I),()))
abbrev less(a b:Str):C:=Op.bytesLess a b
theorem rf:∀a b:Str,(L.cmpR a b<0↔less a b=G)/\(L.cmpR a b=0↔a=b)
 |[],[]=>by simp[L.cmpR,Op.bytesLess]
 |[],_::_=>by simp[L.cmpR,Op.bytesLess]
 |_::_,[]=>by simp[L.cmpR,Op.bytesLess]
 |a::r,b::s=>by
  have ih:=rf r s;unfold L.cmpR less Op.bytesLess;by_cases h1:a<b
  ·have:a≠b:=λe=>by subst e;exact absurd h1 (UInt8.lt_irrefl a)
   simp[h1,this]
  ·by_cases h2:b<a
   ·have:a≠b:=λe=>by subst e;exact absurd h2 (UInt8.lt_irrefl a)
    simp[h1,h2,this]
   ·have e:a=b:=UInt8.le_antisymm (UInt8.not_lt.1 h2) (UInt8.not_lt.1 h1);subst e;simp only[h1,if_false,decide_false,Bool.false_or,beq_self_eq_true,Bool.true_and,List.cons.injEq,true_and];exact ih
theorem iy:∀{a b c:Str},less a b=G->less b c=G->less a c=G
 |_,[],_,h,_=>by simp[Op.bytesLess] at h
 |_,_::_,[],_,h=>by simp[Op.bytesLess] at h
 |[],_::_,_::_,_,_=>by simp[Op.bytesLess]
 |a::x,b::y,c::z,h1,h2=>by
  simp only[less,Op.bytesLess,Bool.or_eq_true,Vf,Va,beq_iff_eq] at h1 h2⊢;rcases h1 with h1|⟨rfl,h1⟩
  ·rcases h2 with h2|⟨rfl,h2⟩
   ·exact .inl (UInt8.lt_trans h1 h2)
   ·exact .inl h1
  ·rcases h2 with h2|⟨rfl,h2⟩
   ·exact .inl h2
   ·exact .inr ⟨rfl,iy h1 h2⟩
theorem lY(a:Str):less a a=A:=by
 have:=rf a a;cases h:less a a with
 |false=>rfl
 |true=>
  have h1:=this.1.2 h;have h2:=this.2.2 rfl;omega
theorem zl{a b:Str}(h:less a b=A)(hne:a≠b):less b a=G:=by
 induction a generalizing b with
 |nil=>cases b with
  |nil=>exact absurd rfl hne
  |cons b y=>simp[Op.bytesLess] at h
 |cons a x ih=>cases b with
  |nil=>simp[Op.bytesLess]
  |cons b y=>
   simp only[less,Op.bytesLess,Bool.or_eq_false_iff,decide_eq_false_iff_not,Bool.and_eq_false_iff,beq_eq_false_iff_ne,Bool.or_eq_true,Vf,Va,beq_iff_eq] at h⊢;obtain⟨h1,h2⟩:=h;by_cases e:a=b;·subst e;refine .inr ⟨rfl,ih (h2.resolve_left (λg=>g rfl)) λe=>hne (by rw[e])⟩
   ·exact .inl (UInt8.lt_of_le_of_ne (UInt8.not_lt.1 h1) (Ne.symm e))
def bS(y:S Sym):Prop:=y.Pairwise λa b=>less a.1 b.1=G
def kS:S Sym->Str->Y
 |[],_=>0
 |x::r,s=>if less x.1 s=G then kS r s+1 else 0
theorem Jt:∀(y:S Sym) (s:Str),kS y s<=y.length
 |[],_=>U7 _
 |x::r,s=>by unfold kS;split;exact Nat.succ_le_succ (Jt r s);exact Nat.zero_le _
theorem Js:∀{y:S Sym}{s:Str}{i:Y},(∀t,t<i->less (y.getD t zSy).1 s=G)->i<=y.length->(i<y.length->less (y.getD i zSy).1 s=A)->kS y s=i
 |[],_,i,_,h,_=>by simp at h;subst h;rfl
 |x::r,s,0,_,_,h=>by
  have h:=h (by simp);have h:less x.1 s=A:=h;unfold kS;rw[U (by rw[h];decide)]
 |x::r,s,i+1,h1,h2,h3=>by
  have h0:less x.1 s=G:=h1 0 (by omega);unfold kS;rw[J h0,Js (y:=r) (i:=i) (λt ht=>by simpa using h1 (t+1) (by omega)) (by simpa using h2) (λh=>by simpa using h3 (by simpa using h))]
theorem sS{y:S Sym}(hy:bS y){i j:Y}(hij:i<j)(hj:j<y.length):less (y.getD i zSy).1 (y.getD j zSy).1=G:=by
 have:=List.pairwise_iff_getElem.1 hy i j (by omega) hj hij;rw[Vh,Vh,Ve hj,Ve (show i<y.length by omega)];exact this
def nQ(y:S Sym)(s:Str):C:=F (kS y s<y.length/\(y.getD (kS y s) zSy).1=s)
theorem CV{x:I}(h:0<=x/\x<=9223372036854775807):E.wrap x=x:=by
 show(x % 2 ^ 64:I)=x;omega
theorem QQ(a:Str)(b:I)(c:Str):Zfd.g a b c=Z (L.cmpR a c,()):=rfl
theorem Qx(y:S Sym)(s:Str)(hy:bS y)(hl:y.length<=1000000)(n:Y):∀(m i j:Y),i<=j->j<=y.length->j-i<m->(∀t,t<i->less (y.getD t zSy).1 s=G)->(∀t,j<=t->t<y.length->less (y.getD t zSy).1 s=A) ->
  Zcd.l3 n m y s (y.length:I) (i:I) (j:I)=Z ((kS y s:I),nQ y s,()):=by
 intro m
 induction m with
 |zero=>intro i j _ _ h;omega
 |succ m ih=>
  intro i j hij hj hm h1 h2;rw[Zcd.l3];have hmid:D.wrap ((E.wrap (D.wrap ((i:I)+(j:I)))).fdiv (2 ^ (min (1:I).toNat E.bits)))=(((i+j) / 2:Y):I):=by
   show D.wrap ((E.wrap (D.wrap ((i:I)+(j:I)))).fdiv 2)=_;rw[w64 (x:=(i:I)+(j:I)) (by omega),Int.fdiv_eq_ediv_of_nonneg _ (by decide),CV (by omega),w64 (by omega)];omega
  rw[hmid];simp only[dt,Vj,QQ,U4];by_cases h:i<j
  ·rw[J (by omega),J (by omega)];generalize hq:(i+j) / 2=q;have hc:=(rf (y.getD q zSy).1 s).1;by_cases hlt:less (y.getD q zSy).1 s=G
   ·rw[J (hc.2 hlt),w64 (by omega),show(q:I)+1=((q+1:Y):I) by omega];refine ih (q+1) j (by omega) hj (by omega) (λt ht=>?_) h2;by_cases e:t=q
    ·rw[e];exact hlt
    ·exact iy (sS hy (show t<q by omega) (by omega)) hlt
   ·rw[U (λg=>hlt (hc.1 g))];refine ih i q (by omega) (by omega) (by omega) h1 λt ht htl=>?_
    have hf:less (y.getD q zSy).1 s=A:=by simpa using hlt
    by_cases e:t=q;·rw[e];exact hf
    ·cases ht2:less (y.getD t zSy).1 s with
     |false=>rfl
     |true=>rw[iy (sS hy (show q<t by omega) htl) ht2] at hf;cases hf
  ·obtain rfl:i=j:=by omega
   have hk:kS y s=i:=Js h1 hj (λh=>h2 i (by omega) h);rw[U (by omega)];unfold nQ;rw[hk];by_cases hl2:i<y.length;·rw[J (by omega),J (by omega)];have:=(rf (y.getD i zSy).1 s).2;congr 3;rw[Bool.eq_iff_iff,Vf,Vf,this];exact⟨λh=>⟨hl2,h⟩,λh=>h.2⟩
   ·rw[U (by omega),decide_eq_false (λh=>hl2 h.1)]
theorem Uk(y:S Sym)(s:Str)(hy:bS y)(hl:y.length<=1000000):Zcd.g y s=Z ((kS y s:I),nQ y s,()):=by
 unfold Zcd.g Zcd.f;exact Qx y s hy hl _ _ 0 y.length (by omega) (by omega) (by omega) (λt h=>by omega) (λt h h2=>by omega)
def pO(y:S Sym)(x:Sym):S Sym:=y.take (kS y x.1)++[x]++y.drop (kS y x.1)
theorem Az:∀{y:S Sym}{s:Str},∀a∈y.take (kS y s),less a.1 s=G
 |[],_,a,h=>by simp at h
 |x::r,s,a,h=>by
  unfold kS at h;split at h
  ·rename_i hx;rw[List.take_succ_cons,Vg] at h;rcases h with rfl|h
   ·exact hx
   ·exact Az a h
  ·simp at h
theorem Rc{y:S Sym}{s:Str}(hy:bS y)(hs:nQ y s=A):∀a∈y.drop (kS y s),less s a.1=G:=by
 intro a ha;obtain⟨j,hj,rfl⟩:=List.getElem_of_mem ha;rw[VE] at hj;rw[List.getElem_drop];have hk:kS y s<y.length:=by omega
 unfold nQ at hs;rw[decide_eq_false_iff_not] at hs;have hne:(y.getD (kS y s) zSy).1≠s:=λe=>hs ⟨hk,e⟩
 have hnl:less (y.getD (kS y s) zSy).1 s=A:=by
  have gen:∀(y:S Sym),kS y s<y.length->less (y.getD (kS y s) zSy).1 s=A:=by
   intro y
   induction y with
   |nil=>intro h;simp at h
   |cons x r ih=>
    intro h;unfold kS at h⊢;split;·rename_i hx;rw[J hx] at h;simpa using ih (by simpa using h)
    ·rename_i hx;simpa using hx
  exact gen y hk
 have h0:=zl hnl hne;by_cases e:j=0;·subst e;rw[Vh,Ve hk] at h0;exact h0
 ·have:=sS hy (show kS y s<kS y s+j by omega) (by omega);have:=iy h0 this;rw[Vh,Ve (show kS y s+j<y.length by omega)] at this;exact this
theorem Jo{y:S Sym}{x:Sym}(hy:bS y)(hs:nQ y x.1=A):bS (pO y x):=by
 unfold bS pO;rw[List.pairwise_append];have h1:(y.take (kS y x.1)).Pairwise λa b=>less a.1 b.1=G:=hy.sublist (List.take_sublist _ _)
 have h2:(y.drop (kS y x.1)).Pairwise λa b=>less a.1 b.1=G:=hy.sublist (List.drop_sublist _ _)
 refine⟨?_,h2,?_⟩;·rw[List.pairwise_append];exact⟨h1,List.pairwise_singleton _ _,λa ha b hb=>by rw[Vu.1 hb];exact Az a ha⟩
 ·intro a ha b hb;have hxb:=Rc hy hs b hb;rcases Vk.1 ha with h|h
  ·exact iy (Az a h) hxb
  ·rw[Vu.1 h];exact hxb
theorem Q8(y:S Sym)(x:Sym):(pO y x).length=y.length+1:=by
 have:=Jt y x.1;unfold pO;simp only[Vb,VA,VE,List.length_singleton];omega
end Rv
namespace Rv
open Go
theorem KS{a:S Sym}{i:Y}(h:i<a.length):a.drop i=a.getD i zSy::a.drop (i+1):=by
 rw[Vs h,Vh,Ve h];rfl
theorem zw{a:S Sym}{i:Y}(h:i<a.length):a.getD i zSy∈a:=by
 rw[Vh,Ve h];exact VI h
structure OkO (ws ss:S I) (ys:S Sym):Prop extends OkS ws ss where
 bey:∀i,i<ss.length->ws.getD (ss.getD i 0).toNat 0<=4*(ws.length:I)
 nm:∀x∈ys,bD x.1=G
 srt:bS ys
 sat_:∀x∈ys,0<=x.2.1/\x.2.1<=4*(ws.length:I)/\x.2.1 % 4=0
 ly:ys.length<=64
section
variable{ws ss:S I}{ys:S Sym}(O:OkO ws ss ys)
include O
theorem Rq(n:Y):∀(m i:Y),i<=ss.length->ss.length-i<m->Zcq.l2 n m ss (ss.length:I) (i:I) ws ss ys (4*(ws.length:I))=Z (-1,ws,ss,ys,4*(ws.length:I),()):=by
 intro m
 induction m with
 |zero=>intro i _ h;omega
 |succ m ih=>
  intro i hi hm;have hl:=O.toOkS.len;have hlw:=O.lw;rw[Zcq.l2];simp only[dt,Vj];by_cases h:i<ss.length
  ·have hs:=O.at_ i h;have hb:=O.bey i h;have hx:0<=ws.getD (ss.getD i 0).toNat 0:=by
    rw[Vh,Ve (by omega)];exact(O.wr _ (VI _)).1
   unfold Zev.g Zev.f;rw[J (by omega),J (by omega),J hs,U4,w64 (by omega)];dsimp only;rw[U (by simpa using hb),w64 (by omega)];exact ih (i+1) (by omega) (by omega)
  ·rw[U (by omega)]
theorem Rs(n:Y):∀(m i:Y),i<=ys.length->ys.length-i<m->Zcr.l2 n m ys (ys.length:I) (i:I) (4*(ws.length:I))=Z (-1,4*(ws.length:I),()):=by
 intro m
 induction m with
 |zero=>intro i _ h;omega
 |succ m ih=>
  intro i hi hm;have hl:=O.ly;have hlw:=O.lw;rw[Zcr.l2];simp only[dt,Vj];by_cases h:i<ys.length
  ·have hs:=O.sat_ _ (zw h);generalize ys.getD i zSy=x at hs;unfold Zew.g Zew.f;simp only[df];rw[J (by omega),J (by omega),J (by omega),J (by omega),U4];dsimp only;have ht:Int.tmod x.2.1 4=0:=by rw[VT hs.1];exact hs.2.2
   rw[U (by simp[ht]),w64 (by omega)];exact ih (i+1) (by omega) (by omega)
  ·rw[U (by omega)]
theorem Tn(n:Y):∀(m i:Y),i<=ys.length->ys.length-i<m->Zbi.l2 n m ys (ys.length:I) (i:I) ws ss ys=Z (G,ws,ss,ys,()):=by
 intro m
 induction m with
 |zero=>intro i _ h;omega
 |succ m ih=>
  intro i hi hm;have hl:=O.ly;rw[Zbi.l2];unfold Zbi.j6;simp only[dt,Vj];by_cases h:i<ys.length
  ·have hn:=O.nm _ (zw h);rw[J (by omega),J (by omega),mq,U4,hn];dsimp only;rw[J (by simp)];have w:D.wrap ((i:I)+1)=((i+1:Y):I):=by rw[w64 (by omega)];omega
   rw[w];by_cases h0:0<i
   ·have w1:D.wrap ((i:I)-1)=((i-1:Y):I):=by rw[w64 (by omega)];omega
    have hlt:less (ys.getD (i-1) zSy).1 (ys.getD i zSy).1=G:=by
     have hp:=List.pairwise_iff_getElem.1 O.srt (i-1) i (by omega) h (by omega);rw[Vh,Ve (by omega),Vh,Ve h];exact hp
    have hno:¬((Op.bytesLess (ys.getD i zSy).1 (ys.getD (i-1) zSy).1||F ((ys.getD i zSy).1=(ys.getD (i-1) zSy).1))=G):=by
     rw[Bool.or_eq_true,Vf];rintro(hh|hh);·have:=iy hlt hh;rw[lY] at this;cases this
     ·rw[hh,lY] at hlt;cases hlt
    rw[J (by omega),w1,Vj,J (by omega),U hno];exact ih (i+1) (by omega) (by omega)
   ·rw[U (by omega)];exact ih (i+1) (by omega) (by omega)
  ·rw[U (by omega)]
theorem AX:Zbt.g ws ss ys=Z (0,()):=by
 have hlw:=O.lw;have hly:=O.ly;have hls:=O.toOkS.len;unfold Zbt.g;generalize 1000+ws.length+ss.length+ys.length=n;unfold Zbt.f;have w4:D.wrap ((4:I)*(ws.length:I))=4*(ws.length:I):=w64 (by omega);have c52:Zdx.g ss ws ss ys (4*(ws.length:I))=Z (A,ws,ss,ys,4*(ws.length:I),()):=by
  unfold Zdx.g Zdx.f Zcq.g Zcq.f;have:=Rq O (1000+ss.length+ws.length+ss.length+ys.length+(4*(ws.length:I)).toNat) (1000+ss.length+ws.length+ss.length+ys.length+(4*(ws.length:I)).toNat) 0 (by omega) (by omega);rw[show((0:Y):I)=0 from rfl] at this;rw[this];rfl
 have c3:Zbi.g ws ss ys=Z (G,ws,ss,ys,()):=by
  unfold Zbi.g Zbi.f;exact Tn O _ _ 0 (by omega) (by omega)
 have c53:Zdy.g ys (4*(ws.length:I))=Z (A,4*(ws.length:I),()):=by
  unfold Zdy.g Zdy.f Zcr.g Zcr.f;have:=Rs O (1000+ys.length+(4*(ws.length:I)).toNat) (1000+ys.length+(4*(ws.length:I)).toNat) 0 (by omega) (by omega);rw[show((0:Y):I)=0 from rfl] at this;rw[this];rfl
 simp only[dt,df];rw[J (by omega),U (by omega),Ia O.toOkS,U4];dsimp only;rw[U (by decide),w4,c52,U4];dsimp only;rw[U (by decide),c3,U4];dsimp only;rw[U (by decide),c53,U4];rfl
end
def FM(x:Sym):S I:=zx x.1++leB [x.2.1]
def Uo(ws ss:S I)(ys:S Sym):S I:=leB [894847314,(ws.length:I),(dJ ws ss).2,(ys.length:I)]++(leB (dJ ws ss).1++ys.flatMap FM)
section
variable{ws ss:S I}{ys:S Sym}(O:OkO ws ss ys)
include O
theorem PY{x:Sym}(h:bD x.1=G):(FM x).length<=20:=by
 have:=mV h;unfold FM;rw[Vb,Cn,AL];simp;omega
theorem K8(n:Y):∀(m i:Y) (a:S I),i<=ys.length->ys.length-i<m->a.length<=10000+20*i->Zbv.l10 n m a ys (ys.length:I) (i:I)=Z (a++(ys.drop i).flatMap FM,0,()):=by
 intro m
 induction m with
 |zero=>intro i _ _ h;omega
 |succ m ih=>
  intro i a hi hm ha;have hl:=O.ly;have hlw:=O.lw;rw[Zbv.l10];simp only[dt,Vj];by_cases h:i<ys.length
  ·have hn:=O.nm _ (zw h);have hs:=O.sat_ _ (zw h);have hb:=PY O hn;rw[KS h,VC];generalize ys.getD i zSy=x at hn hs hb;have hnl:=Cn x.1;have hnk:=mV hn;have hwr:M.wrap x.2.1=x.2.1:=by rw[IntKind.wrap_u32];omega
   have hp:Zbq.g [x.2.1]=Z (leB [x.2.1],()):=xV _ (by simp) (by intro y hy;obtain rfl:=Vu.1 hy;omega);have hl4:(leB [x.2.1]).length=4:=rfl;rw[J (by omega),J (by omega),JR hn,U4];dsimp only;rw[U (by simp),J (by omega),hwr,hp,U4];dsimp only;rw[J (by rw[Vb];omega),w64 (by omega),show(i:I)+1=((i+1:Y):I) by omega];have:=ih (i+1) (a++zx x.1++leB [x.2.1]) (by omega) (by omega) (by rw[Vb,Vb];omega);rw[this];unfold FM;simp only[Vm]
  ·obtain rfl:i=ys.length:=by omega
   rw[U (by omega),J (by simp),VH];simp
theorem Pi:(dJ ws ss).1.length=ws.length:=by
 have:=(ym O.toOkS ss.length (U7 _)).1
 rwa [Bh] at this
theorem EP:(∀x∈(dJ ws ss).1,0<=x/\x<=4294967295)/\0<=(dJ ws ss).2/\(dJ ws ss).2<=1024:=by
 obtain⟨_,_,h3,h4,_,h6⟩:=ym O.toOkS ss.length (U7 _);rw[Bh] at h3 h4 h6;exact⟨h6,h3,h4⟩
theorem Og:∀x∈([894847314,(ws.length:I),(dJ ws ss).2,(ys.length:I)]:S I),0<=x/\x<=4294967295:=by
 have hlw:=O.lw;have hly:=O.ly;have hp:=(EP O).2;intro x hx;simp only[Vg,VR,or_false] at hx;rcases hx with rfl|rfl|rfl|rfl<;>omega
theorem QX:Zbv.g ws ss ys=Z (Uo ws ss ys,0,()):=by
 have hlw:=O.lw;have hly:=O.ly;have hpl:=Pi O;obtain⟨hp1,hp2,hp3⟩:=EP O;unfold Zbv.g;generalize hn:1000+ws.length+ss.length+ys.length=n;unfold Zbv.f;have e1:M.wrap ((dJ ws ss).1.length:I)=(ws.length:I):=by rw[hpl,IntKind.wrap_u32];omega
 have e2:M.wrap (dJ ws ss).2=(dJ ws ss).2:=by rw[IntKind.wrap_u32];omega
 have e3:M.wrap (ys.length:I)=(ys.length:I):=by rw[IntKind.wrap_u32];omega
 rw[AX O,U4];dsimp only;simp only[dt];rw[U (by simp),Ia O.toOkS,U4];dsimp only;rw[U (by simp),e1,e2,e3,xV _ (by simp) (Og O),U4,xV _ (by omega) hp1,U4];dsimp only;have hl1:(leB [894847314,(ws.length:I),(dJ ws ss).2,(ys.length:I)]).length=16:=rfl;have hl2:=AL (dJ ws ss).1;rw[J (by omega)];have:=K8 O n n 0 (leB [894847314,(ws.length:I),(dJ ws ss).2,(ys.length:I)]++leB (dJ ws ss).1) (by omega) (by omega) (by rw[Vb];omega);rw[show((0:Y):I)=0 from rfl] at this;rw[this,VB,Vm];rfl
end
end Rv
namespace Rv
open Go
theorem ry{x z:I}:∀{l:S I},z∈L.insN x l↔z=x\/z∈l
 |[]=>by simp[L.insN]
 |y::r=>by
  rw[L.insN];split;·simp
  ·split
   ·rename_i h;subst h;simp
   ·rw[Vg,ry (l:=r),Vg];exact or_left_comm
theorem xD{x:I}:∀{l:S I},l.Pairwise (· < ·)->(L.insN x l).Pairwise (· < ·)
 |[],_=>by simp[L.insN]
 |y::r,h=>by
  rw[L.insN];have h':=List.pairwise_cons.1 h;split
  ·rename_i hx;refine List.pairwise_cons.2 ⟨λz hz=>?_,h⟩;rcases Vg.1 hz with rfl|hz
   ·exact hx
   ·have:=h'.1 z hz;omega
  ·split
   ·exact h
   ·refine List.pairwise_cons.2 ⟨λz hz=>?_,xD h'.2⟩;rcases ry.1 hz with rfl|hz
    ·omega
    ·exact h'.1 z hz
def sO(ws:S I)(s:I):I:=if ws.getD s.toNat 0 % 4=0 then ws.getD s.toNat 0 else 0
def plS(ws:S I):S I->S I->S I
 |[],acc=>acc
 |s::r,acc=>plS ws r (L.insN (sO ws s) acc)
def plJ(ws ss:S I):Y->Y->S I->S I
 |0,_,acc=>acc
 |n+1,i,acc=>plJ ws ss n (i+1) (if(eH ws ss i).2.1=G then L.insN (eH ws ss i).1 acc else acc)
def plR(ws ss:S I):S I:=plJ ws ss ws.length 0 (plS ws ss [])
theorem Ih(ws:S I){x:I}:∀{l acc:S I},x∈plS ws l acc↔x∈acc\/∃s∈l,x=sO ws s
 |[],acc=>by simp[plS]
 |s::r,acc=>by
  rw[plS,Ih ws (l:=r),ry];simp only[Vg,exists_eq_or_imp];constructor
  ·rintro((h|h)|h)
   ·exact .inr (.inl h)
   ·exact .inl h
   ·exact .inr (.inr h)
  ·rintro(h|h|h)
   ·exact .inl (.inr h)
   ·exact .inl (.inl h)
   ·exact .inr h
theorem Ic(ws ss:S I){x:I}:∀{n i:Y}{acc:S I},x∈plJ ws ss n i acc↔x∈acc\/∃k,i<=k/\k<i+n/\(eH ws ss k).2.1=G/\x=(eH ws ss k).1
 |0,i,acc=>by
  rw[plJ];exact⟨.inl,λh=>h.elim id λ⟨k,h1,h2,_⟩=>by omega⟩
 |n+1,i,acc=>by
  rw[plJ,Ic ws ss (n:=n)];have h0:x∈(if(eH ws ss i).2.1=G then L.insN (eH ws ss i).1 acc else acc)↔x∈acc\/((eH ws ss i).2.1=G/\x=(eH ws ss i).1):=by
   split;·rename_i h;rw[ry];exact⟨λg=>g.elim (λg=>.inr ⟨h,g⟩) .inl,λg=>g.elim .inr λg=>.inl g.2⟩
   ·rename_i h;exact⟨.inl,λg=>g.elim id λg=>absurd g.1 h⟩
  rw[h0];constructor
  ·rintro((h|h)|⟨k,h1,h2,h3⟩)
   ·exact .inl h
   ·exact .inr ⟨i,U7 _,by omega,h⟩
   ·exact .inr ⟨k,by omega,by omega,h3⟩
  ·rintro(h|⟨k,h1,h2,h3⟩)
   ·exact .inl (.inl h)
   ·rcases Nat.eq_or_lt_of_le h1 with rfl|h1
    ·exact .inl (.inr h3)
    ·exact .inr ⟨k,h1,by omega,h3⟩
theorem Ii(ws:S I):∀{l acc:S I},acc.Pairwise (· < ·)->(plS ws l acc).Pairwise (· < ·)
 |[],_,h=>h
 |s::r,acc,h=>by rw[plS];exact Ii ws (xD h)
theorem Ie(ws ss:S I):∀{n i:Y}{acc:S I},acc.Pairwise (· < ·)->(plJ ws ss n i acc).Pairwise (· < ·)
 |0,_,_,h=>h
 |n+1,i,acc,h=>by
  rw[plJ];refine Ie ws ss ?_;split;·exact xD h
  ·exact h
theorem Ig(ws ss:S I):(plR ws ss).Pairwise (· < ·):=Ie ws ss (Ii ws List.Pairwise.nil)
theorem AY(ws ss:S I){x:I}:x∈plR ws ss↔(∃s∈ss,x=sO ws s)\/∃k,k<ws.length/\(eH ws ss k).2.1=G/\x=(eH ws ss k).1:=by
 unfold plR;rw[Ic,Ih];simp
section
variable{ws ss:S I}{ys:S Sym}(O:OkO ws ss ys)
include O
theorem OkO.ok:Ab ws ss:=⟨by have:=O.lw;omega,by have:=O.lw;have:=O.toOkS.len;omega,O.wr⟩
theorem OkO.site{s:I}(h:s∈ss):(0<=s/\s<(ws.length:I))/\0<=ws.getD s.toNat 0/\ws.getD s.toNat 0<=4*(ws.length:I):=by
 obtain⟨i,hi,rfl⟩:=List.getElem_of_mem h;have h1:=O.at_ i hi;have h2:=O.bey i hi;have e:ss.getD i 0=ss[i]:=by rw[Vh,Ve hi];rfl
 rw[e] at h1 h2;refine⟨h1,?_,h2⟩;rw[Vh,Ve (by omega)];exact(O.wr _ (VI _)).1
theorem Mc{x:I}(h:x∈plR ws ss):∃k:Y,x=4*(k:I)/\k<=ws.length:=by
 rcases(AY ws ss).1 h with⟨s,hs,rfl⟩|⟨k,hk,h1,rfl⟩
 ·obtain⟨_,h2,h3⟩:=O.site hs;unfold sO;split
  ·exact⟨(ws.getD s.toNat 0 / 4).toNat,by omega,by omega⟩
  ·exact⟨0,rfl,Nat.zero_le _⟩
 ·unfold eH at h1⊢;split at h1
  ·rename_i hc;rw[J hc];exact⟨((k:I)+1+(jV (ws.getD k 0)).2.2.2.2.2.1).toNat,by dsimp only;omega,by omega⟩
  ·cases h1
theorem Hr:∀(l acc:S I),(∀s∈l,s∈ss)->L.labS ws l acc=Z (plS ws l acc)
 |[],acc,_=>rfl
 |s::r,acc,h=>by
  obtain⟨h1,h2,h3⟩:=O.site (h s (by simp));have hs:s.toNat<ws.length:=by omega
  have hg:ws.getD s.toNat 0=ws[s.toNat]:=by rw[Vh,Ve hs];rfl
  have hr:=O.wr _ (VI hs);rw[L.labS,J h1.1,Ve hs];dsimp only;rw[J hr,Hr r _ λt ht=>h t (by simp[ht]),plS];unfold sO;rw[hg]
theorem AB:∀(n i:Y) (acc:S I),i+n<=100000->L.labJ (Zco.g ws ss ys) n (i:I) acc=Z (plJ ws ss n i acc)
 |0,i,acc,_=>rfl
 |n+1,i,acc,h=>by
  rw[L.labJ,Ec O.ok ys i (by omega)];obtain⟨x,b,u,hj⟩:∃x b u,eH ws ss i=(x,b,u):=⟨_,_,_,rfl⟩
  rw[hj];dsimp only;have hx:b=G->-9223372036854775808<=x/\x<=9223372036854775807:=λhb=>by
   unfold eH at hj;split at hj;·cases hj;have:=O.lw;omega
   ·cases hj;cases hb
  rw[plJ,hj,show(i:I)+1=((i+1:Y):I) by omega];by_cases hb:b=G;·rw[J hb,J (hx hb),J hb];exact AB n (i+1) _ (by omega)
  ·rw[U hb,U hb];exact AB n (i+1) _ (by omega)
theorem KO:Zeu.g ws ss ys=Z (plR ws ss,0,()):=by
 have h1:=O.ok.w;have h2:=O.ok.s;unfold Zeu.g L.labelOfO;rw[AX O];dsimp only;rw[J rfl,J ⟨by omega,by omega⟩,Hr O ss [] λs h=>h];dsimp only;rw[show(0:I)=((0:Y):I) from rfl,AB O ws.length 0 _ (by omega)];rfl
end
end Rv
namespace Rv
open Go
def yf(a b low high:I):I×I×zaa:=if low<=a/\a<=high then(a,0,()) else if low<=b/\b<=high then(b,0,()) else(0,28,())
theorem O1(n m:Y)(a b low high:I):Zar.l7 n (m+3) low high a b 0=Z (yf a b low high):=by
 have e2:Zar.l7 n (m+1) low high a b 2=Z (0,28,()):=by
  simp only[Zar.l7,dt];rw[U (by decide)]
 have e1:Zar.l7 n (m+2) low high a b 1=Z (if low<=b/\b<=high then(b,0,()) else(0,28,())):=by
  rw[Zar.l7];simp only[dt,Zar.j11];rw[J (by decide),J (by decide),show([a,b].getD (1:I).toNat 0)=b from rfl,show D.wrap (1+1)=2 by decide,e2];by_cases h1:low<=b
  ·by_cases h2:b<=high
   ·rw[J h1,J h2,J ⟨h1,h2⟩]
   ·rw[J h1,U h2,U (λh=>h2 h.2)]
  ·rw[U h1,U (λh=>h1 h.1)]
 rw[Zar.l7];simp only[dt,Zar.j11];rw[J (by decide),J (by decide),show([a,b].getD (0:I).toNat 0)=a from rfl,show D.wrap (0+1)=1 by decide,e1];unfold yf;by_cases h1:low<=a
 ·by_cases h2:a<=high
  ·rw[J h1,J h2,J ⟨h1,h2⟩]
  ·rw[J h1,U h2,U (show ¬(low<=a/\a<=high) from λh=>h2 h.2)]
 ·rw[U h1,U (show ¬(low<=a/\a<=high) from λh=>h1 h.1)]
theorem Ko(e:S Item)(labels:S Sym)(low high v1 v2 x:I)(h:Zai.g e labels=Z (v1,v2,x,())) :
  Zar.g e labels low high=Z (if x≠0 then(0,x,()) else if v2≠0 then(0,27,()) else yf (D.wrap (IntKind.i32.wrap v1)) (D.wrap v1) low high):=by
 unfold Zar.g Zar.f;rw[h,U4];simp only[dt];have z:¬((0:I)≠0):=by decide
 by_cases h1:x=0
 ·subst h1;rw[U z,U z];by_cases h2:v2=0
  ·subst h2;rw[U z,U z];have:∀k,3<=k->Zar.l7 k k low high (D.wrap (IntKind.i32.wrap v1)) (D.wrap v1) 0=Z (yf (D.wrap (IntKind.i32.wrap v1)) (D.wrap v1) low high):=λk hk=>by
    obtain⟨m,rfl⟩:∃m,k=m+3:=⟨k-3,by omega⟩
    exact O1 _ m _ _ _ _
   exact this _ (by omega)
  ·rw[J (show v2≠0 from h2),J (show v2≠0 from h2)]
 ·rw[J (show x≠0 from h1),J (show x≠0 from h1)]
end Rv
namespace Rv
open Go
end Rv
namespace Rv
open Go
section
variable{W X:W32}
end
def uu(k o a b c i:I)(u:C):I×I×zaa:=if I0P k o a b c u/\iT k o i u/\(0<=a/\a<16)/\(0<=b/\b<16)/\(0<=c/\c<16) then(((aP k o a b c i u).toNat:I),0,()) else(0,1,())
theorem xM(k o a b c i:I)(u:C):(bE k o a b c u/\iT k o i u)↔I0P k o a b c u/\iT k o i u/\(0<=a/\a<16)/\(0<=b/\b<16)/\(0<=c/\c<16):=by
 constructor;·rintro⟨h,hi⟩;obtain⟨ha,hb,hc⟩:=Jm h;exact⟨(Hf ha hb hc).1 h,hi,ha,hb,hc⟩
 ·rintro⟨h,hi,ha,hb,hc⟩;exact⟨(Hf ha hb hc).2 h,hi⟩
theorem Q6(k o a b c i:I)(u:C):Zdg.g k o a b c i u=Z (uu k o a b c i u):=by
 unfold uu;by_cases h:I0P k o a b c u/\iT k o i u/\(0<=a/\a<16)/\(0<=b/\b<16)/\(0<=c/\c<16)
 ·rw[J h];obtain⟨h1,h2⟩:=(xM k o a b c i u).2 h;unfold Zdg.g Zdg.f;rw[Lh h1 h2,U4];dsimp only;rw[U (by decide),lu,U4]
 ·rw[U h];obtain⟨r,hr,_⟩:=Cb k o a b c i u;have:r=A:=by
   cases r with
   |false=>rfl
   |true=>exact absurd ((xM k o a b c i u).1 (Ca hr)) h
  subst this;unfold Zdg.g Zdg.f;rw[hr,U4];rfl
end Rv
namespace Rv
open Go
def uw(k o a b c i:I)(u:C):Except I (I×C):=if(uu k o a b c i u).2.1=0 then .ok ((uu k o a b c i u).1,A) else .error (uu k o a b c i u).2.1
def uT(lb:S Sym)(e:S Item)(low high:I):I×I×zaa:=
 if(vOf lb e).2.2.1≠0 then(0,(vOf lb e).2.2.1,()) else if(vOf lb e).2.1≠0 then(0,27,()) else yf (D.wrap (IntKind.i32.wrap (vOf lb e).1)) (D.wrap (vOf lb e).1) low high
def xH(v pl:I):I:=D.wrap (IntKind.i32.wrap (M.wrap (M.wrap (v-M.wrap pl)-4)))
def Eg(v ad pl:I):I×I×zaa:=
 if ad≠1 then(0,27,()) else if Int.tmod (xH v pl) 4≠0\/D.wrap (Int.tdiv (xH v pl) 4) < -8388608\/8388608<=D.wrap (Int.tdiv (xH v pl) 4) then(0,28,())
 else(D.wrap (Int.tdiv (xH v pl) 4),0,())
def ug(n ad words:I):I:=if ad<0\/1<ad then 27 else if ad=1/\D.wrap (4*words)<D.wrap n then 28 else 0
abbrev Snt:=I×I×I×I×I×C×S Item×Str×zaa
def kJ(k o a b c:I)(r:I×I×zaa)(u:C):Except I (I×C):=if r.2.1≠0 then .error r.2.1 else uw k o a b c r.1 u
def jT(lb:S Sym)(q:S Val)(fr wd:I)(s:Snt)(pl:I):Except I (I×C):=
 if s.1=2 then kJ s.1 s.2.1 s.2.2.1 s.2.2.2.1 s.2.2.2.2.1 (uT lb s.2.2.2.2.2.2.1 (if s.2.1=0/\s.2.2.2.2.2.1=G then 0 else -65536) 65535) s.2.2.2.2.2.1
 else if s.1=5 then kJ s.1 s.2.1 s.2.2.1 s.2.2.2.1 s.2.2.2.2.1 (uT lb s.2.2.2.2.2.2.1 (-524288) 524287) s.2.2.2.2.2.1
 else if s.1=7 then
  (if(vOf lb s.2.2.2.2.2.2.1).2.2.1≠0 then .error (vOf lb s.2.2.2.2.2.2.1).2.2.1 else kJ s.1 s.2.1 s.2.2.1 s.2.2.2.1 s.2.2.2.2.1 (Eg (vOf lb s.2.2.2.2.2.2.1).1 (vOf lb s.2.2.2.2.2.2.1).2.1 pl) s.2.2.2.2.2.1)
 else if s.1=8 then
  (if(vOf lb s.2.2.2.2.2.2.1).2.2.1≠0 then .error (vOf lb s.2.2.2.2.2.2.1).2.2.1
  else kJ 5 0 s.2.2.1 13 0 (D.wrap (fr+D.wrap (4*(yn ((vOf lb s.2.2.2.2.2.2.1).1,(vOf lb s.2.2.2.2.2.2.1).2.1,()) q:I))),ug (vOf lb s.2.2.2.2.2.2.1).1 (vOf lb s.2.2.2.2.2.2.1).2.1 wd,()) A)
 else if s.1=9 then
  (if(vOf lb s.2.2.2.2.2.2.1).2.2.1≠0 then .error (vOf lb s.2.2.2.2.2.2.1).2.2.1
  else if ug (vOf lb s.2.2.2.2.2.2.1).1 (vOf lb s.2.2.2.2.2.2.1).2.1 wd≠0 then .error (ug (vOf lb s.2.2.2.2.2.2.1).1 (vOf lb s.2.2.2.2.2.2.1).2.1 wd)
  else .ok ((vOf lb s.2.2.2.2.2.2.1).1,F ((vOf lb s.2.2.2.2.2.2.1).2.1=1)))
 else uw s.1 s.2.1 s.2.2.1 s.2.2.2.1 s.2.2.2.2.1 0 s.2.2.2.2.2.1
abbrev WrT:=S I×S I×S Sym
def kR(r:WrT)(w:I)(st:C):WrT:=(r.1++[w],if st=G then r.2.1++[(r.1.length:I)] else r.2.1,r.2.2)
def lh(lb:S Sym)(nm:Str)(y:S Sym):Except I (S Sym):=
 if bD nm=A then .error 9 else if(bB nm lb).isSome=A then .error 25 else if nQ y nm=G then .error 26 else .ok (pO y (nm,(bB nm lb).getD 0,()))
def gD(lb:S Sym)(q:S Val)(fr wd:I)(s:Snt)(pl:I)(r:WrT):Except I WrT:=
 if s.1=0 then .ok r
 else if s.1=10 then(match lh lb s.2.2.2.2.2.2.2.1 r.2.2 with | .error x=>.error x | .ok y=>.ok (r.1,r.2.1,y))
 else match jT lb q fr wd s pl with | .error x=>.error x | .ok w=>.ok (kR r w.1 w.2)
abbrev UJ:=I×S I×S Sym×S Val×I×I×S I×S I×S Sym×zaa
def yj(t:S I)(lb:S Sym)(q:S Val)(fr wd:I)(r:WrT):Except I WrT->UJ
 | .error x=>(x,t,lb,q,fr,wd,r.1,r.2.1,r.2.2,())
 | .ok r'=>(0,t,lb,q,fr,wd,r'.1,r'.2.1,r'.2.2,())
theorem G7(k o a b c i:I)(u:C){x:I}(h:uw k o a b c i u=.error x):x≠0:=by
 grind [uw]
section
variable(t:S I)(lb:S Sym)(q:S Val)(fr wd:I)(r:WrT)
theorem xA(h1:r.1.length<=1000000)(h2:r.2.1.length<=1000000)(v ad:I) :
  Zbr.g v ad t lb q fr wd r.1 r.2.1 r.2.2=Z (t,lb,q,fr,wd,(kR r v (F (ad=1))).1,(kR r v (F (ad=1))).2.1,(kR r v (F (ad=1))).2.2,()):=by
 unfold Zbr.g Zbr.f Zbr.j3 kR
 grind
theorem Kw(h1:r.1.length<=1000000)(h2:r.2.1.length<=1000000)(k o a b c i:I)(u:C) :
  Zes.g k o a b c i u t lb q fr wd r.1 r.2.1 r.2.2=Z (yj t lb q fr wd r (match uw k o a b c i u with | .error x=>.error x | .ok w=>.ok (kR r w.1 w.2))):=by
 unfold Zes.g Zes.f uw;rw[Q6,U4];simp only[dt];by_cases h:(uu k o a b c i u).2.1=0;·simp_all [xA,yj]
 ·rw[U h,U h];rfl
theorem GN(v ad:I):Zdw.g v ad t lb q fr wd r.1 r.2.1 r.2.2=Z (ug v ad wd,t,lb,q,fr,wd,r.1,r.2.1,r.2.2,()):=by
 unfold Zdw.g Zdw.f ug
 grind
theorem Qu(v ad pl:I):Zet.g v ad pl=Z (Eg v ad pl):=by
 unfold Zet.g Zet.f Eg;simp only[dt,df];rw[show D.wrap (IntKind.i32.wrap (M.wrap (M.wrap (v-M.wrap pl)-4)))=xH v pl from rfl]
 grind
theorem IW(hy:bS r.2.2)(hl:r.2.2.length<=1000000)(hlb:lb.length<=1000000)(nm:Str) :
  Zer.g nm t lb q fr wd r.1 r.2.1 r.2.2=Z (yj t lb q fr wd r (match lh lb nm r.2.2 with | .error x=>.error x | .ok y=>.ok (r.1,r.2.1,y))):=by
 unfold Zer.g Zer.f lh;rw[Aq lb nm (by omega),U4,Uk r.2.2 nm hy hl,U4,mq,U4];dsimp only;cases bD nm with
 |false=>rfl
 |true=>
  cases(bB nm lb).isSome with
  |false=>rfl
  |true=>
   cases hi:nQ r.2.2 nm with
   |true=>rfl
   |false=>
    have hk:=Jt r.2.2 nm;have e:L.insertO r.2.2 (kS r.2.2 nm:I) [(nm,(bB nm lb).getD 0,())]=Z (pO r.2.2 (nm,(bB nm lb).getD 0,()),()):=by
     unfold L.insertO;rw[J ⟨by omega,by omega,rfl,by omega⟩];rfl
    simp only[Bool.not_true,Bool.false_eq_true,if_false];rw[e];rfl
theorem Qv(hlb:lb.length<=1000000)(e:S Item)(he:e.length<=4611686018427387904)(low high:I):Zar.g e lb low high=Z (uT lb e low high):=by
 obtain⟨v1,v2,x,h⟩:=H7 lb e;rw[Ko e lb low high v1 v2 x (by grind [JI])]
 grind [uT,vOf]
theorem SH(hlb:lb.length<=1000000)(e:S Item)(he:e.length<=4611686018427387904):Zai.g e lb=Z (vOf lb e):=by
 grind [JI,H8]
theorem Ni(h1:r.1.length<=1000000)(h2:r.2.1.length<=1000000)(hy:bS r.2.2)(hl:r.2.2.length<=1000000)(hlb:lb.length<=1000000)(hq:q.length<=1000000)(s:Snt)(he:s.2.2.2.2.2.2.1.length<=4611686018427387904)(pl:I) :
  Zao.g s.1 s.2.1 s.2.2.1 s.2.2.2.1 s.2.2.2.2.1 s.2.2.2.2.2.1 s.2.2.2.2.2.2.1 s.2.2.2.2.2.2.2.1 pl t lb q fr wd r.1 r.2.1 r.2.2=Z (yj t lb q fr wd r (gD lb q fr wd s pl r)):=by
 obtain⟨k,o,a,b,c,u,e,nm,z⟩:=s;dsimp only at he⊢;unfold Zao.g;generalize 1000+_+_+_+_+_+_+_+_+_+_+_+_+_+_+_+_=n;have J32:∀(x k o a b c i:I) (u:C),Zao.j32 n t lb q fr wd r.1 r.2.1 r.2.2 x k o a b c i u=Z (yj t lb q fr wd r (match kJ k o a b c (i,x,()) u with | .error x=>.error x | .ok w=>.ok (kR r w.1 w.2))):=by
  intro x k o a b c i u;unfold Zao.j32 kJ;simp only[dt];by_cases hx:x=0;·simp_all [Kw]
  ·rw[J (by simpa using hx),J (by simpa using hx)];rfl
 have hof:=SH lb hlb e he;obtain⟨v1,v2,x,hv⟩:∃v1 v2 x,vOf lb e=(v1,v2,x,()):=⟨(vOf lb e).1,(vOf lb e).2.1,(vOf lb e).2.2.1,rfl⟩
 have J1:Zdj.g k o a b c u e nm 0 t lb q fr wd r.1 r.2.1 r.2.2=Z (v1,v2,k,o,a,b,c,u,e,nm,(),x,t,lb,q,fr,wd,r.1,r.2.1,r.2.2,()):=by
  grind [Zdj.g,Zdj.f]
 unfold Zao.f gD jT;simp only[dt,Zao.j12,Qv lb hlb e he,U4,J1,J32,hv];by_cases k0:k=0;·rw[J k0,J k0];rfl
 rw[U k0,U k0];by_cases k10:k=10;·simp_all [IW]
 rw[U k10,U k10];by_cases k2:k=2;·grind
 rw[U k2,U k2];by_cases k5:k=5;·grind
 rw[U k5,U k5];by_cases k7:k=7
 ·rw[J k7,J k7];by_cases hx:x=0
  ·simp_all [Qu]
  simp_all [kJ]
 rw[U k7,U k7];by_cases k8:k=8
 ·rw[J k8,J k8];by_cases hx:x=0
  ·simp_all [Ij,GN]
  simp_all [kJ]
 rw[U k8,U k8];by_cases k9:k=9
 ·rw[J k9,J k9];unfold Zao.j29 Zao.j31;simp only[dt];by_cases hx:x=0
  ·rw[J hx,U (by simpa using hx),GN t lb q fr wd r,U4];dsimp only;by_cases ha:ug v1 v2 wd=0
   ·rw[J ha,U (by simpa using ha),xA t lb q fr wd r h1 h2,U4,ha];rfl
   ·rw[U ha,J (by simpa using ha)];rfl
  ·rw[U hx,U hx,J (by simpa using hx)];rfl
 simp_all [kJ]
end
end Rv
namespace Rv
open Go
theorem sw:∀(l:S Ln) (i:Y) (a:S I) (lb:S Sym) (c:Y) {x:Y×I},bG l i a lb c=.error x->x.2=26/\i<x.1/\x.1<=i+l.length
 |[],_,_,_,_,_,h=>by(rw[bG] at h;cases h)
 |y::r,i,a,lb,c,x,h=>by
  rw[bG] at h;split at h;·have:=sw r _ _ _ _ h;simp;omega
  ·split at h
   ·cases h;exact⟨rfl,by show i<i+1;omega,by simp⟩
   ·have:=sw r _ _ _ _ h;simp;omega
theorem Cj(lb:S Sym):∀(l:S Ln) (i:Y) (p:S Val) {x:Y×I},dE lb l i p=.error x->x.2≠0/\i<x.1/\x.1<=i+l.length/\(l.getD (x.1-1-i) zL).2.1.1=8/\(x.2=27\/x.2=(vOf lb (eL (l.getD (x.1-1-i) zL))).2.2.1)
 |[],_,_,_,h=>by(rw[dE] at h;cases h)
 |y::r,i,p,x,h=>by
  have step:∀{q},dE lb r (i+1) q=.error x->x.2≠0/\i<x.1/\x.1<=i+(y::r).length/\((y::r).getD (x.1-1-i) zL).2.1.1=8/\(x.2=27\/x.2=(vOf lb (eL ((y::r).getD (x.1-1-i) zL))).2.2.1):=λ{q} hq=>by
   obtain⟨h1,h2,h3,h4,h5⟩:=Cj lb r (i+1) q hq;have e:x.1-1-i=(x.1-1-(i+1))+1:=by omega
   rw[e,List.getD_cons_succ];exact⟨h1,by omega,by simp;omega,h4,h5⟩
  rw[dE] at h;split at h
  ·rename_i h8;split at h
   ·rename_i hne;cases h;have e:i+1-1-i=0:=by omega
    dsimp only;rw[e,List.getD_cons_zero];exact⟨hne,by omega,by simp,h8,.inr rfl⟩
   ·split at h
    ·cases h;have e:i+1-1-i=0:=by omega
     dsimp only;rw[e,List.getD_cons_zero];exact⟨by decide,by omega,by simp,h8,.inl rfl⟩
    ·exact step h
  ·exact step h
theorem JN(w:S Ln):(∃x:Y×I,ed w=zy x.1 x.2/\x.2≠0/\0<x.1/\x.1<=w.length/\((∃y,bG w 0 [] [] 0=.error y)\/∃r,bG w 0 [] [] 0=.ok r/\dE r.2.1 w 0 []=.error x)) \/
  ∃r p,bG w 0 [] [] 0=.ok r/\dE r.2.1 w 0 []=.ok p/\ed w=zD r.1 r.2.1 r.2.2 (.ok p):=by
 unfold ed Dy;cases hp:bG w 0 [] [] 0 with
 |error x=>
  have:=sw _ _ _ _ _ hp;exact .inl ⟨x,rfl,by omega,by omega,by omega,.inl ⟨x,rfl⟩⟩
 |ok r=>
  dsimp only;cases hq:dE r.2.1 w 0 [] with
  |error x=>
   obtain⟨h1,h2,h3,_⟩:=Cj _ _ _ _ hq;exact .inl ⟨x,rfl,h1,by omega,by omega,.inr ⟨r,rfl,hq⟩⟩
  |ok p=>exact .inr ⟨r,p,rfl,hq,rfl⟩
end Rv
namespace Rv
open Go
end Rv
namespace Rv
open Go
theorem RB:∀e∈L.nameTbl,L.mnemR e.2.1.1 e.2.1.2.1 e.2.1.2.2=e.2.2/\L.ofR e.2.2=(e.2.1.1,e.2.1.2.1,e.2.1.2.2,G,())/\e.2.2≠[]:=by decide +kernel
theorem OY:∀e∈L.nameTbl,1<=e.2.1.1/\e.2.1.1<=10/\0<=e.2.1.2.1/\e.2.1.2.1<=15:=by decide +kernel
theorem xY{k o:I}{u:C}(h:L.mnemR k o u≠[]):∃e∈L.nameTbl,e.2.1=(k,o,u)/\e.2.2=L.mnemR k o u:=by
 unfold L.mnemR at h⊢;cases hf:L.nameTbl.find? λe=>e.2.1 == (k,o,u) with
 |none=>rw[hf] at h;exact absurd rfl h
 |some e=>
  have h1:=List.mem_of_find?_eq_some hf;have h2:e.2.1=(k,o,u):=by simpa using List.find?_some hf
  exact⟨e,h1,h2,rfl⟩
theorem Rw{k o:I}{u:C}(h:L.mnemR k o u≠[]):L.ofR (L.mnemR k o u)=(k,o,u,G,())/\1<=k/\k<=10/\0<=o/\o<=15:=by
 obtain⟨e,he,hk,hs⟩:=xY h;obtain⟨h1,h2,h3⟩:=RB e he;have h4:=OY e he;rw[hk] at h2 h4;rw[<- hs];exact⟨h2,h4⟩
theorem OO{k o:I}(u:C)(hk:-9223372036854775808<=k/\k<=9223372036854775807)(ho:-9223372036854775808<=o/\o<=9223372036854775807):L.mnemO k o u=Z (L.mnemR k o u,()):=by
 unfold L.mnemO;rw[J ⟨hk.1,hk.2,ho.1,ho.2⟩]
end Rv
namespace Rv
open Go
set_option maxRecDepth 100000
def okE(r:zab (I×zab I×zaa)):Prop:=∃v e,r=Z (v,e,())/\(e=none\/e=Z 1\/e=Z 2)
theorem yh{v:I}:okE (Z (v,none,())):=⟨_,_,rfl,.inl rfl⟩
theorem qD{v:I}:okE (Z (v,Z 1,())):=⟨_,_,rfl,.inr (.inl rfl)⟩
theorem d9{v:I}:okE (Z (v,Z 2,())):=⟨_,_,rfl,.inr (.inr rfl)⟩
theorem JC(c:I):Zam.g c=Z (bn .or .u8 c 32,()):=rfl
theorem RO(s09:Str)(c mv:I)(l:S I)(hl:l.length<=1000000)(n:Y):∀(m i:Y),i<=l.length->l.length-i<m->∀v,okE (Zaa.l36 n m 10 A s09 c mv A v l (l.length:I) (i:I)):=by
 intro m
 induction m with
 |zero=>intro i _ h;omega
 |succ m ih=>
  intro i hi hm v;unfold Zaa.l36;by_cases hlt:i<l.length
  ·rw[J (by simp;omega),J (by omega)];have w1:D.wrap ((i:I)+1)=((i+1:Y):I):=by rw[w64 (by omega)];omega
   have h46:∀d,okE (Zaa.j46 n (Zaa.l36 n m) 10 A s09 c mv A v d l (l.length:I) (i:I)):=by
    intro d;unfold Zaa.j46;split;·exact d9
    ·split
     ·exact qD
     ·split
      ·split
       ·exact qD
       ·unfold Zaa.j55;rw[w1];exact ih (i+1) (by omega) (by omega) _
      ·exact qD
   simp only[JC,U4,Bool.false_eq_true,if_false];generalize hb:l.getD (i:I).toNat 0=b;by_cases e1:b=95
   ·rw[J (by simp[e1])];split
    ·split
     ·exact h46 _
     ·split
      ·split
       ·exact h46 _
       ·exact d9
      ·exact d9
    ·split
     ·split
      ·exact h46 _
      ·exact d9
     ·exact d9
   ·rw[U (by simp[e1])];split
    ·split
     ·exact h46 _
     ·split
      ·split
       ·exact h46 _
       ·exact d9
      ·exact d9
    ·split
     ·split
      ·exact h46 _
      ·exact d9
     ·exact d9
  ·rw[U (by simp;omega)];simp only[Bool.false_eq_true,if_false];exact yh
theorem Uy(s:Str)(hs:s.length<=1000000):okE (Zaa.g s 10 0):=by
 unfold Zaa.g Zaa.f;by_cases h0:s=[]
 ·rw[J (by simp[h0])];exact d9
 ·rw[U (by simp[h0]),J (by decide),J (by decide)];unfold Zaa.j21;rw[J (by decide)];unfold Zaa.j25;rw[J (by decide)];unfold Zaa.j32;rw[U (by decide)];have hd:F ((10:I)=0)=A:=by decide
  rw[hd];have hz:(0:I)=((0:Y):I):=rfl;have:=RO s 1844674407370955162 (E.wrap ((E.wrap ((1:I)*2 ^ (min (E.wrap 64).toNat E.bits)))-(1:I))) (s.map λb=>(b.toNat:I)) (by simpa using hs) (1000+s.length+(10:I).toNat+(0:I).toNat) (1000+s.length+(10:I).toNat+(0:I).toNat) 0 (by simp) (by simp;omega) 0;exact this
theorem TC(n:Y)(g:C)(v:I):okE (Zaj.j21 n g v):=by
 unfold Zaj.j21;split<;>exact yh
theorem TA(n:Y)(g:C)(v c:I):okE (Zaj.j19 n g v c):=by
 unfold Zaj.j19;split
 ·split
  ·exact qD
  ·exact TC _ _ _
 ·exact TC _ _ _
theorem UX(n:Y)(g:C)(v:I):okE (Zaj.j16 n 64 g v):=by
 unfold Zaj.j16;have h:¬E.wrap (D.wrap (64-1))<0:=by rw[w64 (by omega),yF (by omega)];omega
 rw[U h];generalize E.wrap ((1:I)*2 ^ (min (E.wrap (D.wrap (64-1))).toNat E.bits))=c;split
 ·split
  ·exact qD
  ·exact TA _ _ _ _
 ·exact TA _ _ _ _
theorem Tz(n:Y)(g:C)(v:I):okE (Zaj.j14 n 0 g v):=by
 unfold Zaj.j14;rw[J (by decide)];exact UX _ _ _
theorem Ux(s:Str)(hs:s.length<=1000000):okE (Zaj.g s 10 0):=by
 unfold Zaj.g Zaj.f;generalize 1000+s.length+(10:I).toNat+(0:I).toNat=n;have h10:∀(t:Str) g,t.length<=1000000->okE (Zaj.j10 n t 10 0 g):=λt g ht=>by
  unfold Zaj.j10;obtain⟨v,e,he,h⟩:=Uy t ht;rw[he,U4];dsimp only;rcases h with rfl|rfl|rfl;·rw[U (by decide)];exact Tz _ _ _
  ·rw[J (by decide),U (by simp)];exact Tz _ _ _
  ·rw[J (by decide),J (by simp)];exact d9
 by_cases h0:s=[]
 ·rw[J (by simp[h0])];exact d9
 ·rw[U (by simp[h0])];have hlen:0<s.length:=List.length_pos_iff.2 h0;have ht:((s.take ((s.length:I)).toNat).drop ((1:I)).toNat).length<=1000000:=by simp;omega
  rw[J (by omega)];split;·rw[J (by omega)];exact h10 _ _ ht
  ·split
   ·rw[J (by omega)];exact h10 _ _ ht
   ·exact h10 _ _ hs
theorem at_loop(s05:Str)(h5:s05≠[])(l:S I)(hl:l.length<=1000000)(n:Y):∀(m i:Y),i<=l.length->l.length-i<m->∀v,okE (Zaq.l10 n m s05 v l (l.length:I) (i:I)):=by
 intro m
 induction m with
 |zero=>intro i _ h;omega
 |succ m ih=>
  intro i hi hm v;unfold Zaq.l10;by_cases hlt:i<l.length
  ·rw[J (by simp;omega),J (by omega)];have w1:D.wrap ((i:I)+1)=((i+1:Y):I):=by rw[w64 (by omega)];omega
   split;·exact d9
   ·rw[w1];exact ih (i+1) (by omega) (by omega) _
  ·rw[U (by simp;omega)];have hlen:0<s05.length:=List.length_pos_iff.2 h5;rw[J (by omega)];split<;>exact yh
theorem Ur(s:Str)(hs:s.length<=1000000):okE (Zaq.g s):=by
 unfold Zaq.g Zaq.f;obtain⟨n,hn⟩:∃n,1000+s.length=n:=⟨_,rfl⟩
 rw[hn];have h8:∀t:Str,t.length<=s.length->s≠[]->okE (Zaq.j8 n t s):=λt ht h0=>by
  unfold Zaq.j8;have:=at_loop s h0 (t.map λb=>(b.toNat:I)) (by simp;omega) n n 0 (by simp) (by simp;omega) 0;exact this
 have h20:okE (Zaq.j20 n s):=by
  unfold Zaq.j20;obtain⟨v,e,he,h⟩:=Ux s hs;rw[he,U4];exact⟨v,e,rfl,h⟩
 by_cases h0:s=[]
 ·rw[U (by simp[h0])];exact h20
 ·have hlen:0<s.length:=List.length_pos_iff.2 h0;have ht:((s.take ((s.length:I)).toNat).drop ((1:I)).toNat).length<=s.length:=by simp
  have h6:okE (Zaq.j6 n ((s.take ((s.length:I)).toNat).drop ((1:I)).toNat) s):=by
   unfold Zaq.j6;split;·exact d9
   ·exact h8 _ ht h0
  rw[J (by simp;omega)];split
  ·rw[J (by omega)];split
   ·rw[J (by omega)];split
    ·rw[J (by omega)];exact h6
    ·exact h8 _ (U7 _) h0
   ·rw[J (by omega)];exact h6
  ·exact h20
theorem KA(s:Str)(hs:s.length<=1000000):∃v b,Zed.g s=Z (v,b,()):=by
 unfold Zed.g Zed.f;obtain⟨v,e,he,h⟩:=Ur s hs;rw[he,U4];dsimp only;rcases h with rfl|rfl|rfl;·exact⟨_,_,rfl⟩
 ·have:L.toErrorO ([65,116,111,105]:Str) s 0 0 (Z 1)=Z (A,()):=by unfold L.toErrorO;rw[J ⟨by omega,Or.inl rfl⟩]
  rw[J (by decide),this];exact⟨_,_,rfl⟩
 ·have:L.toErrorO ([65,116,111,105]:Str) s 0 0 (Z 2)=Z (A,()):=by unfold L.toErrorO;rw[J ⟨by omega,Or.inr rfl⟩]
  rw[J (by decide),this];exact⟨_,_,rfl⟩
end Rv
namespace Rv
open Go
def gz(k:Y):Str:=if k<10 then[82,UInt8.ofNat (48+k)] else[82,49,UInt8.ofNat (38+k)]
def bY(s:Str):I×C:=match (List.range 16).find? (λk=>gz k == s) with|some k=>((k:I),G)|none=>(0,A)
theorem Mv:((List.range 16).all λk=>F (Zay.g (k:I)=Z (gz k,()))&&F (Zce.g (gz k)=Z ((k:I),G,())))=G:=by decide +kernel
theorem yA(k:Y)(hk:k<16):Zay.g (k:I)=Z (gz k,())/\Zce.g (gz k)=Z ((k:I),G,()):=by
 have:=Vq.1 Mv k (List.mem_range.2 hk);simpa[and_assoc] using this
theorem GD{v:I}(h:v<0\/16<=v):Zay.g v=Z ([],()):=by
 unfold Zay.g Zay.f;by_cases h0:v<0;·rw[U (by simp;omega)]
 ·rw[J (by simp;omega),J (by simp;omega)]
theorem Dj(v:I):∃s,Zay.g v=Z (s,())/\(s≠[]->∃k:Y,k<16/\v=(k:I)/\s=gz k):=by
 by_cases h:v<0\/16<=v;·exact⟨[],GD h,λe=>absurd rfl e⟩
 ·obtain⟨k,rfl⟩:∃k:Y,v=(k:I):=⟨v.toNat,by omega⟩
  have hk:k<16:=by omega
  exact⟨gz k,(yA k hk).1,λ_=>⟨k,hk,rfl,rfl⟩⟩
theorem QK{s p:Str}(h:L.cutIs s p=G)(hp:p≠[]):s≠[]:=by
 rintro rfl;cases p with
 |nil=>exact hp rfl
 |cons a l=>simp[L.cutIs,Lib.hasPrefix] at h
theorem sG{s:Str}{k:Y}(h:(List.range 16).find? (λk=>gz k == s)=Z k):k<16/\gz k=s:=by
 have h1:=List.mem_of_find?_eq_some h;have h2:=List.find?_some h;exact⟨List.mem_range.1 h1,by simpa using h2⟩
theorem Mt(s:Str)(hs:s.length<=1000000):Zce.g s=Z ((bY s).1,(bY s).2,()):=by
 unfold bY;cases hf:(List.range 16).find? (λk=>gz k == s) with
 |some k=>
  obtain⟨h1,h2⟩:=sG hf;have:=(yA k h1).2;rw[h2] at this;exact this
 |none=>
  have hno:∀k,k<16->gz k≠s:=λk hk e=>by
   have:=List.find?_eq_none.1 hf k (List.mem_range.2 hk);simp[e] at this
  unfold Zce.g Zce.f;obtain⟨v,b,hvb⟩:=KA (L.cutRest s [82]) (by
   unfold L.cutRest Lib.trimPrefix;split;·rw[VE];omega
   ·omega)
  rw[hvb,U4];dsimp only;cases hc:L.cutIs s [82] with
  |false=>rfl
  |true=>
   rw[J (by decide)];cases b with
   |false=>rfl
   |true=>
    rw[J (by decide)];obtain⟨t,ht,hk⟩:=Dj v;rw[ht,U4];dsimp only;by_cases e:t=s;·have hne:=QK hc (by decide);obtain⟨k,hk1,_,hk2⟩:=hk (by rw[e];exact hne);exact absurd (hk2.symm.trans e) (hno k hk1)
    ·rw[J (by simp[e])]
end Rv
namespace Rv
open Go
abbrev aj:=I×I×Str×I×zaa
def jY(ts:S aj):Except I (S aj)->Except I (S aj)
 | .error e=>.error e
 | .ok l=>.ok (ts++l)
theorem iC(a b:S aj)(x:Except I (S aj)):jY (a++b) x=jY a (jY b x):=by cases x<;>simp[jY]
def okR(r:Str):Prop:=r=[]\/∃b y,r=b::y/\isW b=A
theorem sZ{s r:Str}(hs:s.all isW=G)(hr:okR r):aZ (s++r)=s:=by
 rcases hr with rfl|⟨b,y,rfl,hb⟩;·rw[Vt];exact zX hs
 ·unfold aZ;rw[MS hb];exact zX hs
theorem uO{s:Str}{c:UInt8}{t:Str}(hs:s=c::t)(ha:s.all isW=G){q v:I}(hk:∀r,okR r->jc c (t++r)=.ok (0,q,s,v))(k:I){r:Str}(hr:okR r):aH k (s++r)=jY [(q,k,s,v,())] (aH (k+s.length) r):=by
 subst hs;have hW:isW c=G:=by simp only[VO,Va] at ha;exact ha.1
 obtain⟨h1,h2⟩:=F3 hW;rw[List.cons_append,eX,U h1,U h2,hk r hr];dsimp only;have hd:(t++r).drop (0+(c::t).length-1)=r:=by
  rw[Vn,show 0+(t.length+1)-1=t.length by omega];exact List.drop_left' rfl
 rw[hd,show k+((0:Y):I)+((c::t).length:I)=k+((c::t).length:I) by omega];cases aH (k+((c::t).length:I)) r<;>rfl
theorem nX(c:UInt8)(hc:c∈([40,41,42,43,45]:Str))(k:I)(r:Str):aH k (c::r)=jY [(3,k,[c],0,())] (aH (k+1) r):=by
 have step:isL c=A/\isD c=A/\c≠46/\isS c=G/\c≠59/\c≠32/\c≠9:=by
  simp only[Vg,VR,or_false] at hc;rcases hc with rfl|rfl|rfl|rfl|rfl<;>decide
 obtain⟨h1,h2,h3,h4,h5,h6,h7⟩:=step;rw[eX,U h5,U (λh=>h.elim h6 h7)];unfold jc;rw[U (by simp[h1]),U (by simp[h2]),U (λh=>h3 h.1),J h4];dsimp only;rw[show k+((0:Y):I)+(([c]:Str).length:I)=k+1 by simp,show 0+([c]:Str).length-1=0 from rfl,VB];cases aH (k+1) r<;>rfl
theorem rO(k:I)(r:Str):aH k (32::r)=aH (k+1) r:=by
 rw[eX,U (by decide),J (.inl rfl)]
end Rv
namespace Rv
open Go
inductive Opr
 |add|sub|mul
def Opr.kind:Opr->I
 | .add=>4 | .sub=>5 | .mul=>6
def Opr.byte:Opr->UInt8
 | .add=>43 | .sub=>45 | .mul=>42
def Opr.tight:Opr->Y
 | .mul=>1|_=>0
inductive Tr
 |num (n:I)|nam (s:Str)|neg (x:Tr)|bin (o:Opr) (a b:Tr)|br (x:Tr)
namespace Tr
def post:Tr->S Item
 | .num n=>[(1,n,[],())]
 | .nam s=>[(2,0,s,())]
 | .neg x=>x.post++[(3,0,[],())]
 | .bin o a b=>a.post++b.post++[(o.kind,0,[],())]
 | .br x=>x.post
def ok:Tr->Prop
 | .num n=>0<=n/\n<=4294967295
 | .nam s=>ax s=G
 | .neg x=>x.ok
 | .bin _ a b=>a.ok/\b.ok
 | .br x=>x.ok
def plain:Tr->Prop
 | .neg x=>x.plain
 | .bin _ a b=>a.plain/\b.plain
 | .br _=>False
 |_=>True
def tight:Tr->Y
 | .bin o _ _=>o.tight
 |_=>2
end Tr
abbrev Bt:=I×Str×I
def bare(t:aj):Bt:=(t.1,t.2.2.1,t.2.2.2.1)
def tLp:Bt:=(3,[40],0)
def tRp:Bt:=(3,[41],0)
def tOp(o:Opr):Bt:=(3,[o.byte],0)
def Bl:Bt:=(3,[45],0)
def brk(b:C)(l:S Bt):S Bt:=if b then tLp::(l++[tRp]) else l
namespace Tr
def toks:Tr->S Bt
 | .num n=>[(2,Lib.itoa n,n)]
 | .nam s=>[(1,s,0)]
 | .neg x=>Bl::brk (F (x.tight<2)) x.toks
 | .bin o a b=>brk (F (a.tight<o.tight)) a.toks++tOp o::brk (F (b.tight<o.tight+1)) b.toks
 | .br x=>tLp::(x.toks++[tRp])
def toksA(lv:Y)(x:Tr):S Bt:=brk (F (x.tight<lv)) x.toks
def dep:Tr->Y
 | .num _=>0
 | .nam _=>0
 | .neg x=>1+(x.dep+if x.tight<2 then 1 else 0)
 | .bin o a b=>max (a.dep+if a.tight<o.tight then 1 else 0) (b.dep+if b.tight<o.tight+1 then 1 else 0)
 | .br x=>1+x.dep
def depA(lv:Y)(x:Tr):Y:=x.dep+if x.tight<lv then 1 else 0
theorem post_pos:∀x:Tr,1<=x.post.length
 | .num _=>by simp[post]
 | .nam _=>by simp[post]
 | .neg _=>by simp[post]
 | .bin _ _ _=>by simp[post];omega
 | .br x=>post_pos x
def cnt(l:S Bt):Y:=l.countP λb=>F (b.2.1=[45])||F (b.2.1=[40])
end Tr
theorem Jq{x:Item}(h:(az x).2=G):(∃n,x=(1,n,[],()))\/(∃s,x=(2,0,s,())/\ax s=G)\/x=(3,0,[],())\/∃o:Opr,x=(o.kind,0,[],()):=by
 obtain⟨a,b,c,u⟩:=x;cases u;unfold az at h;dsimp only at h;split at h;·rename_i h1;simp only[Vf] at h;exact .inl ⟨b,by rw[h1,h]⟩
 ·split at h
  ·rename_i h2;simp only[Va,Vf] at h;exact .inr (.inl ⟨c,by rw[h2,h.1],h.2⟩)
  ·split at h
   ·rename_i h3;simp only[Va,Vf] at h;exact .inr (.inr (.inl (by rw[h3,h.1,h.2])))
   ·split at h
    ·rename_i h4;simp only[Va,Vf] at h;obtain⟨rfl,rfl⟩:=h;rcases h4 with rfl|rfl|rfl
     ·exact .inr (.inr (.inr ⟨.add,rfl⟩))
     ·exact .inr (.inr (.inr ⟨.sub,rfl⟩))
     ·exact .inr (.inr (.inr ⟨.mul,rfl⟩))
    ·cases h
theorem Kg(l:S Tr):l=[]\/∃a x,l=a++[x]:=by
 rcases List.eq_nil_or_concat l with h|⟨a,x,h⟩;·exact .inl h
 ·exact .inr ⟨a,x,by simpa using h⟩
def posts(st:S Tr):S Item:=(st.map Tr.post).flatten
theorem o5(a b:S Tr):posts (a++b)=posts a++posts b:=by simp[posts]
theorem mG(x:Tr):posts [x]=x.post:=by simp[posts]
theorem FR:∀(e:S Item) (st:S Tr) (k:I),enough (st.length:I) e=Z k->(∀x∈e,xK x)->(∀x∈st,x.ok/\x.plain) ->
  ∃st':S Tr,(st'.length:I)=k/\posts st++e=posts st'/\∀x∈st',x.ok/\x.plain
 |[],st,k,h,_,ho=>by
  simp only[enough,U5] at h;exact⟨st,h,by simp,ho⟩
 |x::e,st,k,h,hg,ho=>by
  have hgx:=hg x (by simp);unfold enough at h;split at h
  case isFalse=>cases h
  rename_i hc;have push:∀(l:S Tr) (t:Tr),(∀y∈l,y.ok/\y.plain)->t.ok/\t.plain->((l.length:I)+1=st.length+(1-(az x).1))->posts st++[x]=posts l++t.post->∃st':S Tr,(st'.length:I)=k/\posts st++x::e=posts st'/\∀x∈st',x.ok/\x.plain:=by
   intro l t hl ht hlen hp;obtain⟨st',h1,h2,h3⟩:=FR e (l++[t]) k (by rw[show((l++[t]).length:I)=st.length+(1-(az x).1) by rw[<- hlen];simp];exact h) (λy hy=>hg y (by simp[hy])) (λy hy=>by
    rcases Vk.1 hy with hy|hy;·exact hl y hy
    ·rw[Vu] at hy;subst hy;exact ht)
   refine⟨st',h1,?_,h3⟩;rw[<- h2,o5,mG,<- hp];simp
  rcases Jq hc.1 with⟨n,rfl⟩|⟨s,rfl,hs⟩|rfl|⟨o,rfl⟩;·exact push st (.num n) ho ⟨⟨hgx.1,hgx.2.1⟩,trivial⟩ (by rw[show(az (1,n,[],())).1=0 from rfl];omega) rfl
  ·exact push st (.nam s) ho ⟨hs,trivial⟩ (by rw[show(az (2,0,s,())).1=0 from rfl];omega) rfl
  ·have e1:(az (3,0,[],())).1=1:=rfl;rcases Kg st with rfl|⟨l,v,rfl⟩
   ·exact absurd hc.2 (by rw[e1];simp)
   ·have hv:=ho v (by simp);exact push l (.neg v) (λy hy=>ho y (by simp[hy])) hv (by rw[e1];simp<;>omega) (by rw[o5,mG];simp[Tr.post])
  ·have e2:(az (o.kind,0,[],())).1=2:=by cases o<;>rfl
   rcases Kg st with rfl|⟨l0,v,rfl⟩;·exact absurd hc.2 (by rw[e2];simp)
   ·rcases Kg l0 with rfl|⟨l,w,rfl⟩
    ·exact absurd hc.2 (by rw[e2];simp)
    ·exact push l (.bin o w v) (λy hy=>ho y (by simp[hy])) ⟨⟨(ho w (by simp)).1,(ho v (by simp)).1⟩,(ho w (by simp)).2,(ho v (by simp)).2⟩ (by rw[e2];simp<;>omega) (by rw[o5,o5,mG,mG];simp[Tr.post])
theorem Sk{e:S Item}(h:fZ e)(hg:∀x∈e,xK x):∃t:Tr,t.post=e/\t.ok/\t.plain:=by
 obtain⟨st,h1,h2,h3⟩:=FR e [] 1 h hg (λx hx=>by cases hx)
 match st,h1,h2,h3 with
 |[t],_,h2,h3=>exact⟨t,by rw[mG] at h2;exact h2.symm,h3 t (by simp)⟩
 |[],h1,_,_=>simp at h1
 |_::_::_,h1,_,_=>simp at h1;omega
end Rv
namespace Rv
open Go
def dch(d:Y):UInt8:=if d<10 then UInt8.ofNat (48+d) else UInt8.ofNat (87+d)
theorem QL:((List.range 16).all λd=>F (iY (dch d)=Z d)&&isW (dch d)&&(F (10<=d)||isD (dch d))&&F ((([48,49,50,51,52,53,54,55,56,57,97,98,99,100,101,102]:Str).take (d+1)).drop d=[dch d]))=G:=by decide +kernel
theorem BF{d:Y}(h:d<16):iY (dch d)=Z d/\isW (dch d)=G/\(d<10->isD (dch d)=G)/\(([48,49,50,51,52,53,54,55,56,57,97,98,99,100,101,102]:Str).take (d+1)).drop d=[dch d]:=by
 have:=Vq.1 QL d (by simpa using h);simp only[Va,Vf,Bool.or_eq_true] at this;obtain⟨⟨⟨h1,h2⟩,h3⟩,h4⟩:=this;exact⟨h1,h2,λh=>h3.resolve_left (by omega),h4⟩
theorem xc(b:Y):∀(s t:Str) (v:Y),aS b v (s++t)=(aS b v s).bind λw=>aS b w t
 |[],t,v=>rfl
 |c::s,t,v=>by
  simp only[List.cons_append,aS];cases iY c with
  |none=>rfl
  |some d=>
   simp only;split
   ·split
    ·exact xc b s t _
    ·rfl
   ·rfl
end Rv
namespace Rv
open Go
def brkT(b:C)(s:Str):Str:=if b then 40::(s++[41]) else s
namespace Tr
def txt:Tr->Str
 | .num n=>Lib.itoa n
 | .nam s=>s
 | .neg x=>45::brkT (F (x.tight<2)) x.txt
 | .bin o a b=>brkT (F (a.tight<o.tight)) a.txt++([32,o.byte,32]++brkT (F (b.tight<o.tight+1)) b.txt)
 | .br x=>40::(x.txt++[41])
end Tr
theorem QM:∀(n:Y),n<4294967296->aS 10 0 (Lib.decDigits n)=Z n:=by
 intro n
 induction n using Nat.strongRecOn with
 |_ n ih=>
  intro hn;rw[Lib.decDigits];have hd:∀d,d<10->iY (UInt8.ofNat (48+d))=Z d:=λd h=>by
   have:=(BF (show d<16 by omega)).1;unfold dch at this
   rwa [J h] at this
  split;·rename_i h;simp only[aS,hd n h];rw[J h,J (by omega)];simp
  ·rename_i h;rw[xc,ih (n / 10) (by omega) (by omega),U4];simp only[aS,hd (n % 10) (by omega)];have e:n / 10*10+n % 10=n:=by omega
   rw[J (by omega),e,J hn]
theorem wm:∀(n:Y),(Lib.decDigits n).all isD=G/\Lib.decDigits n≠[]:=by
 intro n
 induction n using Nat.strongRecOn with
 |_ n ih=>
  rw[Lib.decDigits];have hd:∀d,d<10->isD (UInt8.ofNat (48+d))=G:=λd h=>by
   have:=(BF (show d<16 by omega)).2.2.1 h;unfold dch at this
   rwa [J h] at this
  split;·rename_i h;exact⟨by rw[VO,hd n h];rfl,by simp⟩
  ·rename_i h;exact⟨by rw[List.all_append,(ih (n / 10) (by omega)).1,VO,hd (n % 10) (by omega)];rfl,by simp⟩
theorem GZ:∀(k n:Y),n<10 ^ (k+1)->(Lib.decDigits n).length<=k+1
 |0,n,h=>by
  rw[Lib.decDigits,dif_pos (by simpa using h)];simp
 |k+1,n,h=>by
  rw[Lib.decDigits];split;·simp
  ·have:=GZ k (n / 10) (by rw[Nat.div_lt_iff_lt_mul (by omega),<- Nat.pow_succ];exact h);simp;omega
theorem OA(n:I)(h:0<=n/\n<=4294967295)(k:I){r:Str}(hr:okR r):aH k (Lib.itoa n++r)=jY [(2,k,Lib.itoa n,n,())] (aH (k+(Lib.itoa n).length) r):=by
 obtain⟨m,rfl⟩:∃m:Y,n=m:=⟨n.toNat,by omega⟩
 have hi:Lib.itoa (m:I)=Lib.decDigits m:=by unfold Lib.itoa;rw[U (by omega)];rfl
 obtain⟨hD,hne⟩:=wm m;rw[hi];obtain⟨c,t,hs⟩:∃c t,Lib.decDigits m=c::t:=by
  cases hd:Lib.decDigits m with
  |nil=>exact absurd hd hne
  |cons c t=>exact⟨c,t,rfl⟩
 have hW:(Lib.decDigits m).all isW=G:=by
  rw[Vq] at hD⊢;intro x hx;have:=hD x hx;simp[isW,this]
 have hc:isD c=G:=Vq.1 hD c (by rw[hs];simp);refine uO hs hW (λr hr=>?_) k hr;have hL:¬isL c=G:=by
  intro h;unfold isL at h;unfold isD at hc;simp only[Vf] at h hc;omega
 have hword:aZ (c::(t++r))=Lib.decDigits m:=by
  rw[<- List.cons_append,<- hs];exact sZ hW hr
 have hnum:num (Lib.decDigits m)=Z m:=by
  unfold num;have:¬([48,120]:Str).isPrefixOf (Lib.decDigits m)=G:=by
   intro hp;rw[hs] at hp hD;cases t with
   |nil=>simp[List.isPrefixOf] at hp
   |cons b t=>
    have hb:isD b=G:=Vq.1 hD b (by simp);simp only[List.isPrefixOf,Bool.and_true,Va,beq_iff_eq] at hp;rw[<- hp.2] at hb;exact absurd hb (by decide)
  rw[U this,U hne];exact QM m (by omega)
 unfold jc;rw[U hL,J hc,hword,hnum]
theorem zm{s:Str}(h:ax s=G)(k:I){r:Str}(hr:okR r):aH k (s++r)=jY [(1,k,s,0,())] (aH (k+s.length) r):=by
 unfold ax at h;simp only[Va,Vf,Bool.not_eq_true'] at h;obtain⟨⟨⟨⟨hne,_⟩,hD⟩,hW⟩,_⟩:=h;obtain⟨c,t,hs⟩:∃c t,s=c::t:=by
  cases s with
  |nil=>exact absurd rfl hne
  |cons c t=>exact⟨c,t,rfl⟩
 have hc:isL c=G:=by
  have h1:isW c=G:=Vq.1 hW c (by rw[hs];simp);rw[hs] at hD;have h2:isD c=A:=hD;simpa[isW,h2] using h1
 refine uO hs hW (λr hr=>?_) k hr;have hword:aZ (c::(t++r))=s:=by
  rw[<- List.cons_append,<- hs];exact sZ hW hr
 unfold jc;rw[J hc,hword]
def bL(s:Str)(b:S Bt):Prop:=∀k:I,∃ts:S aj,ts.map bare=b/\∀r,okR r->aH k (s++r)=jY ts (aH (k+s.length) r)
theorem bL.sig(c:UInt8)(hc:c∈([40,41,42,43,45]:Str)):∀k:I,∃ts:S aj,ts.map bare=[(3,[c],0)]/\∀r,aH k ([c]++r)=jY ts (aH (k+([c]:Str).length) r):=λk=>
 ⟨[(3,k,[c],0,())],rfl,λr=>nX c hc k r⟩
theorem bL.brk{s:Str}{b:S Bt}(h:bL s b):bL (40::(s++[41])) (tLp::(b++[tRp])):=λk=>by
 obtain⟨ts,h1,h2⟩:=h (k+1);refine⟨[(3,k,[40],0,())]++ts++[(3,k+1+s.length,[41],0,())],?_,λr hr=>?_⟩;·rw[VF,VF,h1];rfl
 ·have e:(40::(s++[41]))++r=40::(s++(41::r)):=by simp
  rw[e,nX 40 (by simp),h2 _ (.inr ⟨41,r,rfl,by decide⟩),nX 41 (by simp),<- iC,<- iC];congr 2;simp;omega
theorem bL.brkT{s:Str}{b:S Bt}(h:bL s b)(x:C):bL (Rv.brkT x s) (Rv.brk x b):=by
 unfold Rv.brkT Rv.brk;cases x with
 |false=>exact h
 |true=>exact h.brk
theorem jE:∀t:Tr,t.ok->bL t.txt t.toks
 | .num n,h=>λk=>⟨_,rfl,λr hr=>OA n h k hr⟩
 | .nam s,h=>λk=>⟨_,rfl,λr hr=>zm h k hr⟩
 | .neg x,h=>λk=>by
  obtain⟨ts,h1,h2⟩:=(jE x h).brkT (F (x.tight<2)) (k+1);refine⟨[(3,k,[45],0,())]++ts,?_,λr hr=>?_⟩;·rw[VF,h1];rfl
  ·show aH k (45::(Rv.brkT (F (x.tight<2)) x.txt++r))=_;rw[nX 45 (by simp),h2 r hr,<- iC];congr 2;simp[Tr.txt];omega
 | .br x,h=>(jE x h).brk
 | .bin o a b,h=>λk=>by
  obtain⟨t1,h1,h2⟩:=(jE a h.1).brkT (F (a.tight<o.tight)) k;obtain⟨t2,h3,h4⟩:=(jE b h.2).brkT (F (b.tight<o.tight+1)) (k+(Rv.brkT (F (a.tight<o.tight)) a.txt).length+3);refine⟨t1++[(3,k+(Rv.brkT (F (a.tight<o.tight)) a.txt).length+1,[o.byte],0,())]++t2,?_,λr hr=>?_⟩;·rw[VF,VF,h1,h3,Vm];rfl
  ·have e:(Tr.bin o a b).txt++r=Rv.brkT (F (a.tight<o.tight)) a.txt++(32::o.byte::32::(Rv.brkT (F (b.tight<o.tight+1)) b.txt++r)):=by simp[Tr.txt]
   rw[e,h2 _ (.inr ⟨32,_,rfl,by decide⟩),rO,nX o.byte (by cases o<;>simp[Opr.byte]),rO];rw[show k+((Rv.brkT (F (a.tight<o.tight)) a.txt).length:I)+1+1+1=k+(Rv.brkT (F (a.tight<o.tight)) a.txt).length+3 by omega,h4 r hr,<- iC,<- iC];congr 2;simp[Tr.txt];omega
theorem je(b:C)(s:Str):(brkT b s).length<=s.length+2:=by unfold brkT;split<;>simp
theorem gW:∀t:Tr,t.ok->t.plain->t.txt.length<=20*t.post.length
 | .num n,h,_=>by
  obtain⟨m,rfl⟩:∃m:Y,n=m:=⟨n.toNat,by have:=h.1;omega⟩
  have hi:Lib.itoa (m:I)=Lib.decDigits m:=by unfold Lib.itoa;rw[U (by omega)];rfl
  have:=GZ 9 m (by have h2:=h.2;omega);show(Lib.itoa (m:I)).length<=20*1;rw[hi];omega
 | .nam s,h,_=>by
  have h:ax s=G:=h;unfold ax at h;simp only[Va,Vf] at h;have:=h.1.1.1.2;show s.length<=20*1;omega
 | .neg x,h,hp=>by
  have h1:=gW x h hp;have h2:=je (F (x.tight<2)) x.txt;simp[Tr.txt,Tr.post];omega
 | .br x,_,hp=>hp.elim
 | .bin o a b,h,hp=>by
  have h1:=gW a h.1 hp.1;have h2:=gW b h.2 hp.2;have h3:=je (F (a.tight<o.tight)) a.txt;have h4:=je (F (b.tight<o.tight+1)) b.txt;simp[Tr.txt,Tr.post];omega
end Rv
namespace Rv
open Go
abbrev dIt:Item:=((0:I),((0:I),(([]:Str),())))
theorem uZ(s:Str)(hs:s.length<=1000000)(k lv:Y):Zbc.g s (k:I) (lv:I)=Z (brkT (F (k<lv)) s,()):=by
 unfold Zbc.g Zbc.f brkT
 grind
theorem Uq(n:I)(h:0<=n/\n<=4294967295):Zec.g (E.wrap n) 10=Z (Lib.itoa n,()):=by
 rw[yF (by omega)];unfold Zec.g Zec.f L.formatUintO
 grind
def parts(st:S Tr):S (Str×I×zaa):=st.map λt=>(t.txt,(t.tight:I),())
theorem gZ(st:S Tr):(parts st).length=st.length:=by simp[parts]
theorem fT(a b:S Tr):parts (a++b)=parts a++parts b:=by simp[parts]
theorem Du{e:S Item}{i:Y}{x:Item}{r:S Item}(h:e.drop i=x::r):i<e.length/\e.getD i dIt=x/\e.drop (i+1)=r:=by
 have hi:i<e.length:=by
  apply Classical.byContradiction
  grind [List.drop_eq_nil_of_le]
 have hd:e.drop i=e.getD i dIt::e.drop (i+1):=by
  simp_all
 grind
theorem zg(n:Y)(rl)(st on:S Tr)(e:S Item)(i:Y)(he:e.length<=1000)(hi:i<e.length)(s:Str)(k:I)(hst:st.length+on.length<=1000) :
  Zaf.j23 n rl (parts (st++on)) (on.length:I) e (e.length:I) (i:I) s k=rl (parts st++[(s,k,())]) e (e.length:I) ((i+1:Y):I):=by
 unfold Zaf.j23;have hl:(parts (st++on)).length=st.length+on.length:=by rw[gZ];simp
 have hw:D.wrap (((parts (st++on)).length:I)-(on.length:I))=(st.length:I):=by grind [w64]
 have ht:(parts (st++on)).take st.length=parts st:=by
  rw[fT];exact List.take_left' (gZ st)
 rw[hw,hl,J (by omega),Vj,ht,J (by grind),w64 (by omega)];rfl
theorem o6(e:S Item)(he:e.length<=1000)(n:Y):∀t:Tr,t.ok->t.plain->∀(st:S Tr) (m i:Y) (rest:S Item),st.length+t.post.length<=1000->e.drop i=t.post++rest ->
  Zaf.l5 n (m+t.post.length) (parts st) e (e.length:I) (i:I)=Zaf.l5 n m (parts (st++[t])) e (e.length:I) ((i+t.post.length:Y):I)
 | .num v,ho,hp,st,m,i,rest,hst,hd=>by
  obtain⟨h1,h2,_⟩:=Du (x:=(1,v,[],())) (r:=rest) hd;show Zaf.l5 n (m+1) (parts st) e (e.length:I) (i:I)=_;rw[Zaf.l5];simp only[dt,Vj];rw[J (by omega),J (by omega),h2];dsimp only;rw[om,U4];have e0:(az (1,v,[],())).1=0:=rfl;dsimp only;rw[e0,J (by grind [gZ,w64]),J rfl,Uq v ho,U4];have:=zg n (Zaf.l5 n m) st [] e i he h1 (Lib.itoa v) 2 (by grind);rw[Vt] at this;rw[show((0:I))=(([]:S Tr).length:I) from rfl,this,fT];rfl
 | .nam s,ho,hp,st,m,i,rest,hst,hd=>by
  obtain⟨h1,h2,_⟩:=Du (x:=(2,0,s,())) (r:=rest) hd;show Zaf.l5 n (m+1) (parts st) e (e.length:I) (i:I)=_;rw[Zaf.l5];simp only[dt,Vj];rw[J (by omega),J (by omega),h2];dsimp only;rw[om,U4];have e0:(az (2,0,s,())).1=0:=rfl;dsimp only;rw[e0,J (by grind [gZ,w64]),U (show ¬(2:I)=1 by decide),J rfl];have:=zg n (Zaf.l5 n m) st [] e i he h1 s 2 (by grind);rw[Vt] at this;rw[show((0:I))=(([]:S Tr).length:I) from rfl,this,fT];rfl
 | .neg x,ho,hp,st,m,i,rest,hst,hd=>by
  have hP:(Tr.neg x).post=x.post++[(3,0,[],())]:=rfl;rw[hP,Vm] at hd;rw[hP] at hst⊢;simp only[Vb,Vn,Vz] at hst⊢;have hx:=o6 e he n x ho hp st (m+1) i ((3,0,[],())::rest) (by omega) hd;rw[show m+(x.post.length+(0+1))=m+1+x.post.length by omega,hx];have hd2:e.drop (i+x.post.length)=(3,0,[],())::rest:=by
   rw[<- List.drop_drop,hd]
   grind
  obtain⟨h1,h2,_⟩:=Du hd2;have hl:=gW x ho hp;rw[Zaf.l5];simp only[dt,Vj];rw[J (by omega),J (by omega),h2];dsimp only;rw[om,U4];have e0:(az (3,0,[],())).1=1:=rfl;have hpl:(parts (st++[x])).length=st.length+1:=by rw[gZ];simp
  have hw:D.wrap (((parts (st++[x])).length:I)-1)=(st.length:I):=by grind [w64]
  have hon:((parts (st++[x])).take (parts (st++[x])).length).drop st.length=[(x.txt,(x.tight:I),())]:=by
   rw[List.take_length,fT];exact List.drop_left' (gZ st)
  dsimp only;rw[e0,hw,J (by rw[hpl];omega),U (show ¬(3:I)=1 by decide),U (show ¬(3:I)=2 by decide),J rfl];simp only[Vj,hon];rw[J (by simp),show([(x.txt,(x.tight:I),())]:S (Str×I×zaa)).getD (0:I).toNat (([]:Str),((0:I),()))=(x.txt,(x.tight:I),()) from rfl];dsimp only;rw[show(2:I)=((2:Y):I) from rfl,uZ x.txt (by omega),U4];dsimp only;have hb:=je (F (x.tight<2)) x.txt;rw[J (by simp;omega)];have:=zg n (Zaf.l5 n m) st [x] e (i+x.post.length) he h1 ([45]++brkT (F (x.tight<2)) x.txt) 2 (by simp;omega);rw[show(1:I)=(([x]:S Tr).length:I) from rfl,show((2:Y):I)=2 from rfl,this,fT];rfl
 | .br x,_,hp,_,_,_,_,_,_=>hp.elim
 | .bin o a b,ho,hp,st,m,i,rest,hst,hd=>by
  have hP:(Tr.bin o a b).post=a.post++b.post++[(o.kind,0,[],())]:=rfl;rw[hP,Vm,Vm] at hd;rw[hP] at hst⊢;simp only[Vb,Vn,Vz] at hst⊢;have hxa:=o6 e he n a ho.1 hp.1 st (m+1+b.post.length) i (b.post++((o.kind,0,[],())::rest)) (by omega) hd;have hd2:e.drop (i+a.post.length)=b.post++((o.kind,0,[],())::rest):=by
   rw[<- List.drop_drop,hd]
   grind
  have hxb:=o6 e he n b ho.2 hp.2 (st++[a]) (m+1) (i+a.post.length) ((o.kind,0,[],())::rest) (by simp;omega) hd2;rw[show m+(a.post.length+b.post.length+(0+1))=m+1+b.post.length+a.post.length by omega,hxa,hxb];have hd3:e.drop (i+a.post.length+b.post.length)=(o.kind,0,[],())::rest:=by
   rw[<- List.drop_drop,hd2]
   grind
  obtain⟨h1,h2,_⟩:=Du hd3;have hla:=gW a ho.1 hp.1;have hlb:=gW b ho.2 hp.2;rw[Zaf.l5];simp only[dt,Vj];rw[J (by omega),J (by omega),h2];dsimp only;rw[om,U4];have e0:(az (o.kind,0,[],())).1=2:=by cases o<;>rfl
  have hpl:(parts (st++[a]++[b])).length=st.length+2:=by rw[gZ];simp
  have hw:D.wrap (((parts (st++[a]++[b])).length:I)-2)=(st.length:I):=by grind [w64]
  have hon:((parts (st++[a]++[b])).take (parts (st++[a]++[b])).length).drop st.length=[(a.txt,(a.tight:I),()),(b.txt,(b.tight:I),())]:=by
   rw[List.take_length,Vm,fT];exact List.drop_left' (gZ st)
  dsimp only;rw[e0,hw,J (by rw[hpl];omega),U (show ¬o.kind=1 by cases o<;>decide),U (show ¬o.kind=2 by cases o<;>decide),U (show ¬o.kind=3 by cases o<;>decide)];simp only[Vj,hon];have g0:([(a.txt,(a.tight:I),()),(b.txt,(b.tight:I),())]:S (Str×I×zaa)).getD (0:I).toNat (([]:Str),((0:I),()))=(a.txt,(a.tight:I),()):=rfl;have g1:([(a.txt,(a.tight:I),()),(b.txt,(b.tight:I),())]:S (Str×I×zaa)).getD (1:I).toNat (([]:Str),((0:I),()))=(b.txt,(b.tight:I),()):=rfl;simp only[g0,g1];have hb0:=je (F (a.tight<0)) a.txt;have hb1:=je (F (a.tight<1)) a.txt;have hc1:=je (F (b.tight<1)) b.txt;have hc2:=je (F (b.tight<2)) b.txt;have t0:Zbc.g a.txt (a.tight:I) (0:I)=Z (brkT (F (a.tight<0)) a.txt,()):=uZ a.txt (by omega) a.tight 0;have t1:Zbc.g a.txt (a.tight:I) (1:I)=Z (brkT (F (a.tight<1)) a.txt,()):=uZ a.txt (by omega) a.tight 1;have u1:Zbc.g b.txt (b.tight:I) (1:I)=Z (brkT (F (b.tight<1)) b.txt,()):=uZ b.txt (by omega) b.tight 1;have u2:Zbc.g b.txt (b.tight:I) (2:I)=Z (brkT (F (b.tight<2)) b.txt,()):=uZ b.txt (by omega) b.tight 2;have fin:=λs k=>zg n (Zaf.l5 n m) st [a,b] e (i+a.post.length+b.post.length) he h1 s k (by grind [Tr.post_pos])
  have hab:st++[a]++[b]=st++[a,b]:=by simp
  rw[hab];cases o with
  |add=>
   rw[J (show Opr.add.kind=4 from rfl),J (by simp),t0,U4];dsimp only[Opr.tight];rw[J (by grind [List.length_nil]),J (by simp),u1,U4];dsimp only;rw[J (by grind [List.length_cons]),show(2:I)=(([a,b]:S Tr).length:I) from rfl,fin,fT,Vm,show i+a.post.length+b.post.length+1=i+(a.post.length+b.post.length+(0+1)) by omega];rfl
  |sub=>
   rw[U (show ¬Opr.sub.kind=4 by decide),J (show Opr.sub.kind=5 from rfl),J (by simp),t0,U4];dsimp only[Opr.tight];rw[J (by grind [List.length_nil]),J (by simp),u1,U4];dsimp only;rw[J (by grind [List.length_cons]),show(2:I)=(([a,b]:S Tr).length:I) from rfl,fin,fT,Vm,show i+a.post.length+b.post.length+1=i+(a.post.length+b.post.length+(0+1)) by omega];rfl
  |mul=>
   rw[U (show ¬Opr.mul.kind=4 by decide),U (show ¬Opr.mul.kind=5 by decide),J (show Opr.mul.kind=6 from rfl),J (by simp),t1,U4];dsimp only[Opr.tight];rw[J (by grind [List.length_nil]),J (by simp),u2,U4];dsimp only;rw[J (by grind [List.length_cons]),show(2:I)=(([a,b]:S Tr).length:I) from rfl,fin,fT,Vm,show i+a.post.length+b.post.length+1=i+(a.post.length+b.post.length+(0+1)) by omega];rfl
theorem KY{t:Tr}(ho:t.ok)(hp:t.plain)(hw:fZ t.post)(hl:t.post.length<=64):Zaf.g t.post=Z (t.txt,0,()):=by
 unfold Zaf.g Zaf.f;rw[Bu t.post (by omega),Bv hw hl,U4];dsimp only;rw[U (show ¬(!G)=G by decide)];obtain⟨N,hN⟩:∃N,1000+t.post.length=N+1+t.post.length:=⟨999,by omega⟩
 rw[hN];have:=o6 t.post (by omega) (N+1+t.post.length) t ho hp [] (N+1) 0 [] (by simp;omega) (by simp);simp_all [parts,Zaf.l5]
end Rv
namespace Rv
open Go
abbrev R:=ah
abbrev aQ:aj:=((0:I),((0:I),(([]:Str),((0:I),()))))
theorem nD(l:S aj)(p:Y)(out:S Item)(hp:p<l.length):Zbf.g l p out 0=Z ((l.getD p aQ).1,(l.getD p aQ).2.1,(l.getD p aQ).2.2.1,(l.getD p aQ).2.2.2.1,G,l,(p:I),out,0,()):=by
 unfold Zbf.g Zbf.f;simp only[df,dt];rw[J (by simp),J (by omega),U (by omega),J (by omega),Vj]
theorem xZ(l:S aj)(p:Y)(out:S Item)(hp:l.length<=p):Zbf.g l p out 0=Z (0,0,[],0,A,l,(p:I),out,0,()):=by
 unfold Zbf.g Zbf.f;simp only[df,dt];rw[J (by simp),J (by omega),J (by omega)]
theorem OP(l:S aj)(p:I)(out:S Item)(e:I)(he:e≠0):Zbf.g l p out e=Z (0,0,[],0,A,l,p,out,e,()):=by
 unfold Zbf.g Zbf.f;simp only[df];rw[U (by simpa using he)]
theorem kC(n:Y)(all:S Str)(hall:all.length<=100)(ok:C)(l:S aj)(p:I)(out:S Item)(e k a:I)(tx:Str)(nn:I):∀(m i:Y),i<=all.length->all.length-i<m ->
  Zag.l3 n m ok all (all.length:I) (i:I) l p out e k a tx nn=if ok=G/\k=3/\tx∈all.drop i then Z (tx,G,l,D.wrap (p+1),out,e,()) else Z ([],A,l,p,out,e,()):=by
 intro m
 induction m with
 |zero=>intro i _ h;omega
 |succ m ih=>
  intro i hi hm;rw[Zag.l3];simp only[dt,Zag.j8,Vj];by_cases h:i<all.length
  ·have hd:all.drop i=all.getD i []::all.drop (i+1):=by
    rw[Vs h,Vh,Ve h];rfl
   have hih:=ih (i+1) (by omega) (by omega);rw[J (by omega),J (by omega),w64 (x:=(i:I)+1) (by omega),show(i:I)+1=((i+1:Y):I) by omega,hih,hd];generalize all.getD i []=s;by_cases h1:ok=G
   ·rw[J h1];by_cases h2:k=3
    ·rw[J h2];by_cases h3:tx=s
     ·rw[J h3,J ⟨h1,h2,by simp[h3]⟩,h3]
     ·rw[U h3];by_cases h4:tx∈all.drop (i+1)
      ·rw[J ⟨h1,h2,h4⟩,J ⟨h1,h2,by simp[h4]⟩]
      ·rw[U (λh=>h4 h.2.2),U (λh=>by simp[h3,h4] at h)]
    ·rw[U h2,U (λh=>h2 h.2.1),U (λh=>h2 h.2.1)]
   ·rw[U h1,U (λh=>h1 h.1),U (λh=>h1 h.1)]
  ·have:i=all.length:=by omega
   subst this;rw[U (by omega),U (λh=>by simp at h)]
theorem sN(all:S Str)(hall:all.length<=100)(l:S aj)(p:I)(out:S Item)(e:I)(he:e≠0):Zag.g all l p out e=Z ([],A,l,p,out,e,()):=by
 unfold Zag.g Zag.f;rw[OP l p out e he,U4];have:=kC (1000+all.length+l.length+p.toNat+out.length+e.toNat) all hall A l p out e 0 0 [] 0 (1000+all.length+l.length+p.toNat+out.length+e.toNat) 0 (by omega) (by omega);rw[U (λh=>by cases h.1)] at this;exact this
def At(l:S aj)(p:Y)(k:S Bt):Prop:=(l.drop p).map bare=k
theorem At.cons{l:S aj}{p:Y}{b:Bt}{k:S Bt}(h:At l p (b::k)):p<l.length/\bare (l.getD p aQ)=b/\At l (p+1) k:=by
 unfold At at h;have hp:p<l.length:=by
  apply Classical.byContradiction;intro hn;rw[List.drop_eq_nil_of_le (by omega)] at h;cases h
 have hd:l.drop p=l.getD p aQ::l.drop (p+1):=by
  rw[Vs hp,Vh,Ve hp];rfl
 rw[hd,Vo,List.cons.injEq] at h;exact⟨hp,h.1,h.2⟩
theorem At.app{l:S aj}{k':S Bt}:∀{k:S Bt}{p:Y},At l p (k++k')->At l (p+k.length) k'/\p+k.length<=l.length\/k=[]
 |[],_,_=>.inr rfl
 |b::k,p,h=>by
  obtain⟨h1,_,h3⟩:=At.cons h;rcases At.app h3 with⟨h4,h5⟩|rfl;·left;rw[Vn,show p+(k.length+1)=p+1+k.length by omega];exact⟨h4,h5⟩
  ·left;exact⟨h3,by simp;omega⟩
theorem At.app'{l:S aj}{k k':S Bt}{p:Y}(h:At l p (k++k')):At l (p+k.length) k':=by
 rcases At.app h with⟨h,_⟩|rfl;·exact h
 ·exact h
theorem At.len{l:S aj}{k k':S Bt}{p:Y}(h:At l p (k++k'))(hk:k≠[]):p+k.length<=l.length:=by
 rcases At.app h with⟨_,h⟩|rfl;·exact h
 ·exact absurd rfl hk
def noS(all:S Str)(k:S Bt):Prop:=∀b r,k=b::r->¬(b.1=3/\b.2.1∈all)
theorem oF(all:S Str)(hall:all.length<=100){l:S aj}{p:Y}{s:Str}{v:I}{k:S Bt}(h:At l p ((3,s,v)::k))(hl:l.length<=1000000)(hs:s∈all)(out:S Item):Zag.g all l p out 0=Z (s,G,l,((p+1:Y):I),out,0,()):=by
 obtain⟨h1,h2,_⟩:=At.cons h;unfold Zag.g Zag.f;rw[nD l p out h1,U4];simp only[bare,Vd] at h2;have:=kC (1000+all.length+l.length+(p:I).toNat+out.length+(0:I).toNat) all hall G l p out 0 (l.getD p aQ).1 (l.getD p aQ).2.1 (l.getD p aQ).2.2.1 (l.getD p aQ).2.2.2.1 (1000+all.length+l.length+(p:I).toNat+out.length+(0:I).toNat) 0 (by omega) (by omega);rw[J ⟨rfl,h2.1,by rw[h2.2.1];simpa using hs⟩,h2.2.1,w64 (by omega)] at this;dsimp only;rw[h2.2.1];exact this
theorem wK(all:S Str)(hall:all.length<=100){l:S aj}{p:Y}{k:S Bt}(h:At l p k)(hs:noS all k)(out:S Item):Zag.g all l p out 0=Z ([],A,l,(p:I),out,0,()):=by
 unfold Zag.g Zag.f;cases k with
 |nil=>
  have hp:l.length<=p:=by
   unfold At at h;have:=congrArg List.length h;simp at this;omega
  rw[xZ l p out hp,U4];have:=kC (1000+all.length+l.length+(p:I).toNat+out.length+(0:I).toNat) all hall A l p out 0 0 0 [] 0 (1000+all.length+l.length+(p:I).toNat+out.length+(0:I).toNat) 0 (by omega) (by omega);rw[U (λh=>by cases h.1)] at this;exact this
 |cons b r=>
  obtain⟨h1,h2,_⟩:=At.cons h;rw[nD l p out h1,U4];have hb:=hs b r rfl;have:=kC (1000+all.length+l.length+(p:I).toNat+out.length+(0:I).toNat) all hall G l p out 0 (l.getD p aQ).1 (l.getD p aQ).2.1 (l.getD p aQ).2.2.1 (l.getD p aQ).2.2.2.1 (1000+all.length+l.length+(p:I).toNat+out.length+(0:I).toNat) 0 (by omega) (by omega);rw[U (λh=>hb (by rw[<- h2];exact⟨h.2.1,h.2.2⟩))] at this;exact this
theorem put_eq(a b:I)(c:Str)(l:S aj)(p:I)(out:S Item)(e:I)(ho:out.length<=1000000):Zas.g a b c l p out e=Z (l,p,out++[(a,b,c,())],e,()):=by
 unfold Zas.g Zas.f;rw[J (by simp;omega)]
theorem qw(x:I)(l:S aj)(p:I)(out:S Item):Zaz.g x l p out 0=Z (l,p,out,x,()):=by
 unfold Zaz.g Zaz.f;rw[J (by decide)]
abbrev dO:S Str:=[[42]]
abbrev dU:S Str:=[[43],[45]]
def okF(t:Tr):Prop:=∀(l:S aj) (p:Y) (out:S Item) (rest:S Bt) (d q:Y),l.length<=1000000->out.length+t.post.length<=1000000->At l p (t.toksA 2++rest)->d<=9->6*(9-d)+1<=q ->
 (d+t.depA 2<=8->(R q).expr_parser_factor (d:I) l p out 0=Z (l,((p+(t.toksA 2).length:Y):I),out++t.post,0,())) /\
 (¬d+t.depA 2<=8->∃(p':I) (out':S Item),(R q).expr_parser_factor (d:I) l p out 0=Z (l,p',out',24,())/\out'.length<=out.length+t.post.length)
def mc:Tr->Y
 | .bin .mul a _=>mc a+1
 |_=>0
def okT(t:Tr):Prop:=∀(l:S aj) (p:Y) (out:S Item) (rest:S Bt) (d q m n:Y),l.length<=1000000->out.length+t.post.length<=1000000->At l p (t.toksA 1++rest)->d<=9->6*(9-d)+2<=q->mc t<m ->
 (d+t.depA 1<=8->((R q).expr_parser_sum_1_1 (d:I) l p out 0).bind (λy1=>expr_parser_row_c284.l1 n (R q) m dO y1.2.2.1 y1.2.2.2.1 y1.2.2.2.2.1 y1.2.2.2.2.2.1 y1.2.1)=expr_parser_row_c284.l1 n (R q) (m-mc t) dO l ((p+(t.toksA 1).length:Y):I) (out++t.post) 0 (d:I)) /\
 (¬d+t.depA 1<=8->∃(p':I) (out':S Item),((R q).expr_parser_sum_1_1 (d:I) l p out 0).bind (λy1=>expr_parser_row_c284.l1 n (R q) m dO y1.2.2.1 y1.2.2.2.1 y1.2.2.2.2.1 y1.2.2.2.2.2.1 y1.2.1)=Z (l,p',out',24,(),(d:I),())/\out'.length<=out.length+t.post.length)
def ac:Tr->Y
 | .bin .add a _=>ac a+1
 | .bin .sub a _=>ac a+1
 |_=>0
def okS(t:Tr):Prop:=∀(l:S aj) (p:Y) (out:S Item) (rest:S Bt) (d q m n:Y),l.length<=1000000->out.length+t.post.length<=1000000->At l p (t.toks++rest)->noS dO rest->d<=9->6*(9-d)+4<=q->ac t<m ->
 (d+t.dep<=8->((R q).expr_parser_sum_1 (d:I) l p out 0).bind (λy1=>expr_parser_row_c283.l1 n (R q) m dU y1.2.2.1 y1.2.2.2.1 y1.2.2.2.2.1 y1.2.2.2.2.2.1 y1.2.1)=expr_parser_row_c283.l1 n (R q) (m-ac t) dU l ((p+t.toks.length:Y):I) (out++t.post) 0 (d:I)) /\
 (¬d+t.dep<=8->∃(p':I) (out':S Item),((R q).expr_parser_sum_1 (d:I) l p out 0).bind (λy1=>expr_parser_row_c283.l1 n (R q) m dU y1.2.2.1 y1.2.2.2.1 y1.2.2.2.2.1 y1.2.2.2.2.2.1 y1.2.1)=Z (l,p',out',24,(),(d:I),())/\out'.length<=out.length+t.post.length)
theorem Qp:∀t:Tr,mc t<=t.post.length
 | .num _=>Nat.zero_le _
 | .nam _=>Nat.zero_le _
 | .neg _=>Nat.zero_le _
 | .bin .mul a b=>by have:=Qp a;simp[mc,Tr.post];omega
 | .bin .add _ _=>Nat.zero_le _
 | .bin .sub _ _=>Nat.zero_le _
 | .br _=>Nat.zero_le _
end Rv
namespace Rv
open Go
theorem Ef(x:I)(l:S aj)(p:I)(out:S Item)(e:I)(he:e≠0):Zaz.g x l p out e=Z (l,p,out,e,()):=by
 simp_all [Zaz.g,Zaz.f]
theorem wy(n:Y)(r:ay)(m:Y)(l:S aj)(p:I)(out:S Item)(e d:I)(he:e≠0):expr_parser_row_c284.l1 n r (m+1) dO l p out e d=Z (l,p,out,e,(),d,()):=by
 simp_all [expr_parser_row_c284.l1,sN]
theorem ww(n:Y)(r:ay)(m:Y)(l:S aj)(p:I)(out:S Item)(e d:I)(he:e≠0):expr_parser_row_c283.l1 n r (m+1) dU l p out e d=Z (l,p,out,e,(),d,()):=by
 simp_all [expr_parser_row_c283.l1,sN]
theorem Ou(n:Y)(r:ay)(m:Y){l:S aj}{p:Y}{k:S Bt}(h:At l p k)(hs:noS dO k)(out:S Item)(d:I):expr_parser_row_c284.l1 n r (m+1) dO l p out 0 d=Z (l,(p:I),out,0,(),d,()):=by
 rw[expr_parser_row_c284.l1,wK dO (by simp) h hs out,U4];rfl
theorem Ot(n:Y)(r:ay)(m:Y){l:S aj}{p:Y}{k:S Bt}(h:At l p k)(hs:noS dU k)(out:S Item)(d:I):expr_parser_row_c283.l1 n r (m+1) dU l p out 0 d=Z (l,(p:I),out,0,(),d,()):=by
 rw[expr_parser_row_c283.l1,wK dU (by simp) h hs out,U4];rfl
theorem Kr(q:Y)(l:S aj)(p:I)(out:S Item):(R (q+1)).expr_parser_factor 9 l p out 0=Z (l,p,out,24,()):=by
 show expr_parser_factor.h (R q) 9 l p out 0=_;simp_all [expr_parser_factor.h,expr_parser_factor.f,qw]
theorem qa{t:Tr} (H:∀(l:S aj) (p:Y) (out:S Item) (rest:S Bt) (d q:Y),l.length<=1000000->out.length+t.post.length<=1000000->At l p (t.toksA 2++rest)->d<=8->6*(9-d)<=q ->
  (d+t.depA 2<=8->expr_parser_factor.h (R q) (d:I) l p out 0=Z (l,((p+(t.toksA 2).length:Y):I),out++t.post,0,())) /\
  (¬d+t.depA 2<=8->∃(p':I) (out':S Item),expr_parser_factor.h (R q) (d:I) l p out 0=Z (l,p',out',24,())/\out'.length<=out.length+t.post.length)):okF t:=by
 intro l p out rest d q hl ho hat hd hq;obtain⟨q,rfl⟩:∃q',q=q'+1:=⟨q-1,by omega⟩
 by_cases h9:d=9;·grind [Kr]
 ·exact H l p out rest d q hl ho hat (by omega) (by omega)
theorem EI{all:S Str}{b:Bt}{r:S Bt}(h:b.1≠3):noS all (b::r):=λb' r' e h'=>by grind
theorem yc{all:S Str}{b:Bt}{r:S Bt}(h:b.2.1 ∉ all):noS all (b::r):=λb' r' e h'=>by grind
theorem Uh(n:I):okF (.num n):=qa λl p out rest d q hl ho hat hd hq=>by
 have hat:At l p ((2,Lib.itoa n,n)::rest):=hat
 obtain⟨h1,h2,_⟩:=At.cons hat
 simp only[bare,Vd] at h2;refine⟨λ_=>?_,λh=>absurd (show d+(Tr.num n).depA 2<=8 from hd) h⟩;unfold expr_parser_factor.h expr_parser_factor.f;rw[U (by decide),U (by simp;omega),wK [[45],[40]] (by simp) hat (EI (show(2:I)≠3 by decide)) out,U4];dsimp only;rw[U (show ¬F (([]:Str)=[45])=G by decide),U (show ¬F (([]:Str)=[40])=G by decide),nD l p out h1,U4];dsimp only;rw[J rfl,J (by grind),h2.2.2,put_eq _ _ _ _ _ _ _ (by omega),U4];unfold expr_parser_factor.j19;dsimp only;rw[w64 (by omega)];rfl
theorem Uf{s:Str}(hs:ax s=G):okF (.nam s):=qa λl p out rest d q hl ho hat hd hq=>by
 have hat:At l p ((1,s,0)::rest):=hat
 obtain⟨h1,h2,_⟩:=At.cons hat
 simp only[bare,Vd] at h2;refine⟨λ_=>?_,λh=>absurd (show d+(Tr.nam s).depA 2<=8 from hd) h⟩;unfold expr_parser_factor.h expr_parser_factor.f;rw[U (by decide),U (by simp;omega),wK [[45],[40]] (by simp) hat (EI (show(1:I)≠3 by decide)) out,U4];dsimp only;rw[U (show ¬F (([]:Str)=[45])=G by decide),U (show ¬F (([]:Str)=[40])=G by decide),nD l p out h1,U4];dsimp only;rw[J rfl,U (by grind),J rfl,J (by grind),h2.2.1,nT,hs,U4];dsimp only;rw[J rfl,put_eq _ _ _ _ _ _ _ (by omega),U4];unfold expr_parser_factor.j19;dsimp only;rw[w64 (by omega)];rfl
theorem Ug{x:Tr}(hx:okF x):okF (.neg x):=qa λl p out rest d q hl ho hat hd hq=>by
 have hat:At l p (Bl::(x.toksA 2++rest)):=by
  have e:(Tr.neg x).toksA 2++rest=Bl::(x.toksA 2++rest):=rfl
  grind
 obtain⟨h1,_,hat2⟩:=At.cons hat
 have hpost:(Tr.neg x).post=x.post++[(3,0,[],())]:=rfl;have hdep:(Tr.neg x).depA 2=1+x.depA 2:=rfl;have htl:((Tr.neg x).toksA 2).length=1+(x.toksA 2).length:=by
  show(Bl::x.toksA 2).length=_
  grind
 rw[hpost] at ho;simp only[Vb,Vn,Vz] at ho;obtain⟨g1,g2⟩:=hx l (p+1) out rest (d+1) q hl (by omega) hat2 (by omega) (by omega);rw[hdep,htl,hpost];unfold expr_parser_factor.h expr_parser_factor.f;rw[U (by decide),U (by simp;omega),oF [[45],[40]] (by simp) hat hl (by simp) out,U4];dsimp only;rw[J (show F (([45]:Str)=[45])=G by decide),w64 (by omega),show(d:I)+1=((d+1:Y):I) by omega];constructor;·grind [put_eq]
 ·intro h;obtain⟨p',out',g3,g4⟩:=g2 (by omega);rw[g3,U4];dsimp only;rw[put_eq _ _ _ _ _ _ _ (by omega),U4]
  grind
theorem qi(b:C)(l:S Bt):l.length<=(brk b l).length:=by grind [brk]
theorem Hw:∀t:Tr,mc t<=t.toks.length
 | .num _=>Nat.zero_le _
 | .nam _=>Nat.zero_le _
 | .neg _=>Nat.zero_le _
 | .bin .mul a b=>by
  have h1:=Hw a
  grind [qi,mc,Tr.toks]
 | .bin .add _ _=>Nat.zero_le _
 | .bin .sub _ _=>Nat.zero_le _
 | .br _=>Nat.zero_le _
theorem Ac:∀t:Tr,ac t<=t.toks.length
 | .num _=>Nat.zero_le _
 | .nam _=>Nat.zero_le _
 | .neg _=>Nat.zero_le _
 | .bin .mul _ _=>Nat.zero_le _
 | .bin .add a b=>by
  have h1:=Ac a
  grind [qi,ac,Tr.toks]
 | .bin .sub a b=>by
  have h1:=Ac a
  grind [qi,ac,Tr.toks]
 | .br _=>Nat.zero_le _
theorem Bo(t:Tr):t.toks≠[]:=by cases t<;>simp[Tr.toks]
theorem P8(lv:Y)(t:Tr):t.toksA lv≠[]:=by
 intro h;have h1:=qi (F (t.tight<lv)) t.toks
 grind [Bo,List.length_eq_zero_iff,Tr.toksA]
theorem Kt{t:Tr}(hT:okT t)(l:S aj)(p:Y)(out:S Item)(rest:S Bt)(d q:Y)(hl:l.length<=1000000)(ho:out.length+t.post.length<=1000000)(hat:At l p (t.toksA 1++rest))(hr:noS dO rest)(hd:d<=9)(hq:6*(9-d)+4<=q) :
  (d+t.depA 1<=8->(R q).expr_parser_sum_1 (d:I) l p out 0=Z ((),(d:I),l,((p+(t.toksA 1).length:Y):I),out++t.post,0,())) /\
  (¬d+t.depA 1<=8->∃(p':I) (out':S Item),(R q).expr_parser_sum_1 (d:I) l p out 0=Z ((),(d:I),l,p',out',24,())/\out'.length<=out.length+t.post.length):=by
 obtain⟨q,rfl⟩:∃q',q=q'+2:=⟨q-2,by omega⟩
 have hmc:=Qp t;show(_->expr_parser_sum_1.h (R (q+1)) d l p out 0=_)/\(_->∃p' out',expr_parser_sum_1.h (R (q+1)) d l p out 0=_/\_)
 unfold expr_parser_sum_1.h expr_parser_sum_1.f;have e:(R (q+1)).expr_parser_row_c284 dO l (p:I) out 0 (d:I)=expr_parser_row_c284.h (R q) dO l (p:I) out 0 (d:I):=rfl;rw[e];unfold expr_parser_row_c284.h expr_parser_row_c284.f;have hN:∃N,1000+dO.length+l.length+(p:I).toNat+out.length+(0:I).toNat+(d:I).toNat=N:=⟨_,rfl⟩
 obtain⟨N,hN⟩:=hN;rw[hN];have hlen:=At.len hat (P8 1 t)
 have h1:=Hw t;have h2:=qi (F (t.tight<1)) t.toks;have hbig:mc t<N:=by grind [Tr.toksA]
 obtain⟨g1,g2⟩:=hT l p out rest d q N N hl ho hat hd (by omega) hbig;constructor
 ·intro h;rw[g1 h];obtain⟨m,hm⟩:∃m,N-mc t=m+1:=⟨N-mc t-1,by omega⟩
  rw[hm,Ou N (R q) m (At.app' hat) hr,U4]
 ·intro h;obtain⟨p',out',g3,g4⟩:=g2 h;simp_all
theorem DR{t:Tr}(hF:okF t)(hA:t.toksA 1=t.toksA 2)(hD:t.depA 1=t.depA 2)(hm0:mc t=0):okT t:=by
 intro l p out rest d q m n hl ho hat hd hq hm;obtain⟨q,rfl⟩:∃q',q=q'+1:=⟨q-1,by omega⟩
 rw[hA] at hat
 obtain⟨g1,g2⟩:=hF l p out rest d q hl ho hat hd (by omega);have e:(R (q+1)).expr_parser_sum_1_1 (d:I) l (p:I) out 0=expr_parser_sum_1_1.h (R q) (d:I) l (p:I) out 0:=rfl;rw[e,hA,hD,hm0];unfold expr_parser_sum_1_1.h expr_parser_sum_1_1.f;constructor;·grind
 ·intro h;obtain⟨p',out',g3,g4⟩:=g2 h;rw[g3,U4,U4];obtain⟨m,rfl⟩:∃m',m=m'+1:=⟨m-1,by omega⟩
  simp_all [wy]
theorem mx2{d x y:Y}(h:d+max x y<=8):d+y<=8:=by omega
theorem mx3{d x y:Y}(h:¬d+max x y<=8)(h1:d+x<=8):¬d+y<=8:=by omega
theorem Ui{a b:Tr}(ha:okT a)(hb:okF b):okT (.bin .mul a b):=by
 intro l p out rest d q m n hl ho hat hd hq hm;have hA:(Tr.bin .mul a b).toksA 1=a.toksA 1++tOp .mul::b.toksA 2:=rfl;have hP:(Tr.bin .mul a b).post=a.post++b.post++[(6,0,[],())]:=rfl;have hD:(Tr.bin .mul a b).depA 1=max (a.depA 1) (b.depA 2):=rfl;have hM:mc (Tr.bin .mul a b)=mc a+1:=rfl;rw[hA,Vm,List.cons_append] at hat
 rw[hM] at hm;rw[hP] at ho;simp only[Vb,Vn,Vz] at ho;obtain⟨g1,g2⟩:=ha l p out (tOp .mul::(b.toksA 2++rest)) d q m n hl (by omega) hat hd hq (by omega);rw[hA,hP,hD,hM];clear hD;have hat1:=At.app' hat
 obtain⟨_,_,hat2⟩:=At.cons hat1;by_cases h1:d+a.depA 1<=8
 ·rw[g1 h1];obtain⟨m',hm'⟩:∃m',m-mc a=m'+1:=⟨m-mc a-1,by omega⟩
  rw[hm',expr_parser_row_c284.l1,oF dO (by simp) hat1 hl (by simp[tOp,Opr.byte]) _,U4];dsimp only;rw[U (show ¬(!G)=G by decide)];obtain⟨q,rfl⟩:∃q',q=q'+1:=⟨q-1,by omega⟩
  obtain⟨k1,k2⟩:=hb l (p+(a.toksA 1).length+1) (out++a.post) rest d q hl (by simp;omega) hat2 hd (by omega);have e:(R (q+1)).expr_parser_sum_1_1 (d:I) l ((p+(a.toksA 1).length+1:Y):I) (out++a.post) 0=expr_parser_sum_1_1.h (R q) (d:I) l ((p+(a.toksA 1).length+1:Y):I) (out++a.post) 0:=rfl;rw[e];unfold expr_parser_sum_1_1.h expr_parser_sum_1_1.f;constructor
  ·intro h;rw[k1 (mx2 h),U4,U4];dsimp only;rw[put_eq _ _ _ _ _ _ _ (by simp;omega),U4];dsimp only;have e1:m-(mc a+1)=m':=by grind
   have e2:p+(a.toksA 1).length+1+(b.toksA 2).length=p+(a.toksA 1++tOp Opr.mul::b.toksA 2).length:=by simp;omega
   rw[e1,e2,Vm (out++a.post),Vm out,<- Vm a.post];rfl
  ·intro h;obtain⟨p',out',k3,k4⟩:=k2 (mx3 h h1);rw[k3,U4,U4];dsimp only;simp only[Vb] at k4;rw[put_eq _ _ _ _ _ _ _ (by omega),U4];dsimp only;obtain⟨m'',rfl⟩:∃k,m'=k+1:=⟨m'-1,by grind⟩
   exact⟨p',_,wy n (R (q+1)) m'' l p' _ 24 d (by decide),by grind⟩
 grind
theorem Sz{t:Tr}(hT:okT t)(hA:t.toks=t.toksA 1)(hD:t.dep=t.depA 1)(hm0:ac t=0):okS t:=by
 intro l p out rest d q m n hl ho hat hr hd hq hm;rw[hA] at hat
 obtain⟨g1,g2⟩:=Kt hT l p out rest d q hl ho hat hr hd hq;rw[hA,hD,hm0];constructor;·grind
 ·intro h;obtain⟨p',out',g3,g4⟩:=g2 h;rw[g3,U4];obtain⟨m,rfl⟩:∃m',m=m'+1:=⟨m-1,by grind⟩
  simp_all [ww]
theorem Qg{o:Opr}(ho':o=.add\/o=.sub){a b:Tr}(ha:okS a)(hb:okT b)(haA:a.toksA 0=a.toks):okS (.bin o a b):=by
 intro l p out rest d q m n hl ho hat hr hd hq hm;have hA:(Tr.bin o a b).toks=a.toks++tOp o::b.toksA 1:=by
  rcases ho' with rfl|rfl<;>(rw[<- haA];rfl)
 have hP:(Tr.bin o a b).post=a.post++b.post++[(o.kind,0,[],())]:=rfl;have hD:(Tr.bin o a b).dep=max a.dep (b.depA 1):=by
  rcases ho' with rfl|rfl;·show max (a.dep+if a.tight<0 then 1 else 0) (b.dep+if b.tight<0+1 then 1 else 0)=_;rw[U (Nat.not_lt_zero _)];rfl
  ·show max (a.dep+if a.tight<0 then 1 else 0) (b.dep+if b.tight<0+1 then 1 else 0)=_;rw[U (Nat.not_lt_zero _)];rfl
 have hM:ac (Tr.bin o a b)=ac a+1:=by rcases ho' with rfl|rfl<;>rfl
 have hin:[o.byte]∈dU:=by rcases ho' with rfl|rfl<;>decide
 have hno:noS dO (tOp o::(b.toksA 1++rest)):=yc (by rcases ho' with rfl|rfl<;>decide);have hk:(L.kinds [o.byte]).1=o.kind:=by rcases ho' with rfl|rfl<;>rfl
 rw[hA,Vm,List.cons_append] at hat
 rw[hM] at hm;rw[hP] at ho;simp only[Vb,Vn,Vz] at ho;obtain⟨g1,g2⟩:=ha l p out (tOp o::(b.toksA 1++rest)) d q m n hl (by omega) hat hno hd hq (by omega);rw[hA,hP,hD,hM];clear hD;have hat1:=At.app' hat
 obtain⟨_,_,hat2⟩:=At.cons hat1;by_cases h1:d+a.dep<=8
 ·rw[g1 h1];obtain⟨m',hm'⟩:∃m',m-ac a=m'+1:=⟨m-ac a-1,by grind⟩
  rw[hm',expr_parser_row_c283.l1,oF dU (by simp) hat1 hl hin _,U4];dsimp only;rw[U (show ¬(!G)=G by decide),hk];obtain⟨k1,k2⟩:=Kt hb l (p+a.toks.length+1) (out++a.post) rest d q hl (by grind) hat2 hr hd hq;constructor;·grind [put_eq]
  ·intro h;obtain⟨p',out',k3,k4⟩:=k2 (mx3 h h1);rw[k3,U4];dsimp only;simp only[Vb] at k4;rw[put_eq _ _ _ _ _ _ _ (by grind),U4];dsimp only;obtain⟨m'',rfl⟩:∃k,m'=k+1:=⟨m'-1,by grind⟩
   exact⟨p',_,ww n (R q) m'' l p' _ 24 d (by decide),by grind⟩
 grind
theorem FJ{t:Tr}(hS:okS t)(l:S aj)(p:Y)(out:S Item)(rest:S Bt)(d q:Y)(hl:l.length<=1000000)(ho:out.length+t.post.length<=1000000)(hat:At l p (t.toks++rest))(hr:noS dO rest)(hr2:noS dU rest)(hd:d<=9)(hq:6*(9-d)+6<=q) :
  (d+t.dep<=8->(R q).expr_parser_sum (d:I) l p out 0=Z (l,((p+t.toks.length:Y):I),out++t.post,0,())) /\
  (¬d+t.dep<=8->∃(p':I) (out':S Item),(R q).expr_parser_sum (d:I) l p out 0=Z (l,p',out',24,())/\out'.length<=out.length+t.post.length):=by
 obtain⟨q,rfl⟩:∃q',q=q'+2:=⟨q-2,by omega⟩
 show(_->expr_parser_sum.h (R (q+1)) d l p out 0=_)/\(_->∃p' out',expr_parser_sum.h (R (q+1)) d l p out 0=_/\_)
 unfold expr_parser_sum.h expr_parser_sum.f;have e:(R (q+1)).expr_parser_row_c283 dU l (p:I) out 0 (d:I)=expr_parser_row_c283.h (R q) dU l (p:I) out 0 (d:I):=rfl;rw[e];unfold expr_parser_row_c283.h expr_parser_row_c283.f;obtain⟨N,hN⟩:∃N,1000+dU.length+l.length+(p:I).toNat+out.length+(0:I).toNat+(d:I).toNat=N:=⟨_,rfl⟩
 rw[hN];have hlen:=At.len hat (Bo t)
 have h1:=Ac t;have hbig:ac t<N:=by omega
 obtain⟨g1,g2⟩:=hS l p out rest d q N N hl ho hat hr hd (by omega) hbig;constructor
 ·intro h;rw[g1 h];obtain⟨m,hm⟩:∃m,N-ac t=m+1:=⟨N-ac t-1,by grind⟩
  rw[hm,Ot N (R q) m (At.app' hat) hr2,U4]
 ·intro h;obtain⟨p',out',g3,g4⟩:=g2 h;simp_all
theorem GL{x:Tr}(hS:okS x)(l:S aj)(p:Y)(out:S Item)(rest:S Bt)(d q:Y)(hl:l.length<=1000000)(ho:out.length+x.post.length<=1000000)(hat:At l p (tLp::(x.toks++tRp::rest)))(hd:d<=8)(hq:6*(9-d)<=q) :
  (d+(x.dep+1)<=8->expr_parser_factor.h (R q) (d:I) l p out 0=Z (l,((p+(x.toks.length+2):Y):I),out++x.post,0,())) /\
  (¬d+(x.dep+1)<=8->∃(p':I) (out':S Item),expr_parser_factor.h (R q) (d:I) l p out 0=Z (l,p',out',24,())/\out'.length<=out.length+x.post.length):=by
 obtain⟨_,_,hat2⟩:=At.cons hat
 have hn1:noS dO (tRp::rest):=yc (by decide);have hn2:noS dU (tRp::rest):=yc (by decide);obtain⟨g1,g2⟩:=FJ hS l (p+1) out (tRp::rest) (d+1) q hl ho hat2 hn1 hn2 (by omega) (by omega);unfold expr_parser_factor.h expr_parser_factor.f;rw[U (by decide),U (by simp;omega),oF [[45],[40]] (by simp) hat hl (by simp) out,U4];dsimp only;rw[U (show ¬F (([40]:Str)=[45])=G by decide),J (show F (([40]:Str)=[40])=G by decide),w64 (by omega),show(d:I)+1=((d+1:Y):I) by omega];constructor
 ·intro h;rw[g1 (by grind),U4];dsimp only;rw[oF [[41]] (by simp) (At.app' hat2) hl (by simp) _,U4]
  grind
 ·intro h;obtain⟨p',out',g3,g4⟩:=g2 (by grind);simp_all [sN,Ef]
theorem IR{x:Tr}(hS:okS x)(ht:x.tight<2):okF x:=qa λl p out rest d q hl ho hat hd hq=>by
 have hA:x.toksA 2=tLp::(x.toks++[tRp]):=by simp_all [Tr.toksA,brk]
 have hD:x.depA 2=x.dep+1:=by unfold Tr.depA;rw[J ht]
 rw[hA] at hat⊢;rw[hD];have hat':At l p (tLp::(x.toks++tRp::rest)):=by
  grind
 grind [GL]
theorem UH{x:Tr}(hS:okS x):okF (.br x):=qa λl p out rest d q hl ho hat hd hq=>by
 have hA:(Tr.br x).toksA 2=tLp::(x.toks++[tRp]):=rfl;have hD:(Tr.br x).depA 2=x.dep+1:=by show 1+x.dep+(if(2:Y)<2 then 1 else 0)=_;grind
 have hP:(Tr.br x).post=x.post:=rfl;rw[hP] at ho⊢;rw[hA] at hat⊢;rw[hD];have hat':At l p (tLp::(x.toks++tRp::rest)):=by
  grind
 grind [GL]
theorem vY{t:Tr}(hF:okF t)(ht:t.tight=2)(hm0:mc t=0):okT t:=
 DR hF (by unfold Tr.toksA;rw[ht];rfl) (by grind [Tr.depA]) hm0
theorem qd{t:Tr}(hT:okT t)(ht:1<=t.tight)(ha0:ac t=0):okS t:=
 Sz hT (by unfold Tr.toksA brk;grind) (by unfold Tr.depA;grind) ha0
theorem iB:∀t:Tr,t.ok->okF t/\okT t/\okS t
 | .num n,_=>by
  have hF:=Uh n;have hT:=vY hF rfl rfl;exact⟨hF,hT,qd hT (show 1<=2 by decide) rfl⟩
 | .nam s,h=>by
  have hF:=Uf h;have hT:=vY hF rfl rfl;exact⟨hF,hT,qd hT (show 1<=2 by decide) rfl⟩
 | .neg x,h=>by
  have hF:=Ug (iB x h).1;have hT:=vY hF rfl rfl;exact⟨hF,hT,qd hT (show 1<=2 by decide) rfl⟩
 | .br x,h=>by
  have hF:=UH (iB x h).2.2;have hT:=vY hF rfl rfl;exact⟨hF,hT,qd hT (show 1<=2 by decide) rfl⟩
 | .bin .mul a b,h=>by
  have hT:=Ui (iB a h.1).2.1 (iB b h.2).1;have hS:=qd hT (show 1<=1 by decide) rfl;exact⟨IR hS (show 1<2 by decide),hT,hS⟩
 | .bin .add a b,h=>by
  have hS:=Qg (.inl rfl) (iB a h.1).2.2 (iB b h.2).2.1 (by unfold Tr.toksA brk;grind);have hF:=IR hS (show 0<2 by decide);exact⟨hF,DR hF rfl rfl rfl,hS⟩
 | .bin .sub a b,h=>by
  have hS:=Qg (.inr rfl) (iB a h.1).2.2 (iB b h.2).2.1 (by unfold Tr.toksA brk;grind);have hF:=IR hS (show 0<2 by decide);exact⟨hF,DR hF rfl rfl rfl,hS⟩
theorem KX{t:Tr}(ht:t.ok)(l:S aj)(p:Y)(rest:S Bt)(hl:l.length<=1000000)(hpost:t.post.length<=64)(hat:At l p (t.toks++rest))(hr:noS dO rest)(hr2:noS dU rest) :
  (t.dep<=8->Zau.g l p=Z (t.post,((p+t.toks.length:Y):I),0,()))/\(¬t.dep<=8->Zau.g l p=Z ([],0,24,())):=by
 unfold Zau.g Zau.f expr_parser_sum.g;obtain⟨g1,g2⟩:=FJ (iB t ht).2.2 l p [] rest 0 (1000+(0:I).toNat+l.length+(p:I).toNat+([]:S Item).length+(0:I).toNat) hl (by simp;omega) hat hr hr2 (by omega) (by omega);constructor
 ·intro h;have:=g1 (by grind);rw[show((0:Y):I)=0 from rfl] at this;rw[this,U4];dsimp only;rw[J (show F ((0:I)=0)=G by decide),U (by grind),Vw];unfold Zau.j5
  grind
 ·intro h;obtain⟨p',out',g3,g4⟩:=g2 (by grind);rw[show((0:Y):I)=0 from rfl] at g3;rw[g3,U4];dsimp only;rw[U (show ¬F ((24:I)=0)=G by decide)];unfold Zau.j5
  grind
end Rv
namespace Rv
open Go
theorem J7{s:Str}{b:S Bt}(h:bL s b)(hs:s.length<=1000000):∃ts:S aj,ts.map bare=b/\Zah.g s=Z (ts,0,()):=by
 obtain⟨ts,h1,h2⟩:=h 0;refine⟨ts,h1,?_⟩;have:=h2 [] (.inl rfl);rw[Vt,mD] at this;rw[wz s hs,this];simp[jY,bg]
theorem At.whole{ts:S aj}{b:S Bt}(h:ts.map bare=b):At ts 0 (b++[]):=by
 unfold At;rw[VB,h,Vt]
theorem HY(all:S Str):noS all []:=λb r h=>by cases h
end Rv
namespace Rv
open Go
structure Sm where
 k:I
 o:I
 a:I
 b:I
 c:I
 u:C
 e:S Item
 nm:Str
def iV(t:Tr):Prop:=t.ok/\t.plain/\fZ t.post/\t.post.length<=64
def postO:zab Tr->S Item
 |none=>[]
 |some t=>t.post
inductive GoodS:Sm->zab Tr->Prop
 |none:GoodS ⟨0,0,0,0,0,A,[],[]⟩ none
 |ins0 {k o a b c:I} {u:C}:bE k o a b c u->(k=1\/k=3\/k=4\/k=6)->GoodS ⟨k,o,a,b,c,u,[],[]⟩ none
 |ins1 {k o a b c:I} {u:C} {t:Tr}:bE k o a b c u->(k=2\/k=5\/k=7)->iV t->GoodS ⟨k,o,a,b,c,u,t.post,[]⟩ (Z t)
 |load {a:I} {t:Tr}:rg a->iV t->GoodS ⟨8,0,a,0,0,A,t.post,[]⟩ (Z t)
 |word {t:Tr}:iV t->GoodS ⟨9,0,0,0,0,A,t.post,[]⟩ (Z t)
 |exp {nm:Str}:bD nm=G->GoodS ⟨10,0,0,0,0,A,[],nm⟩ none
def rn(a:I):Str:=gz a.toNat
theorem Dz{a:I}(h:rg a):Zay.g a=Z (rn a,()):=by
 obtain⟨k,rfl⟩:∃k:Y,a=(k:I):=⟨a.toNat,by have:=h.1;omega⟩
 have:=(yA k (by have:=h.2;omega)).1
 grind [rn]
theorem UB(k:Y):gz k≠[]:=by grind [gz]
theorem jN(k:I):Zdq.g k=Z (F (k=2\/k=5\/k=7\/k=8\/k=9),()):=by
 unfold Zdq.g Zdq.f
 grind
abbrev EH(s:Sm):zab (C×zaa):=Zal.g s.k s.o s.a s.b s.c s.u s.e s.nm
theorem OL{s:Sm}{t:zab Tr}(h:GoodS s t):EH s=Z (G,()):=by
 have hw:∀t:Tr,iV t->Zbb.g t.post=Z (G,()):=λt h=>by
  rw[Bu t.post (by have:=h.2.2.2;omega),Bv h.2.2.1 h.2.2.2]
 have hp:∀t:Tr,F ((0:I)<(t.post.length:I))=G:=λt=>by have:=t.post_pos;simp;omega
 cases h with
 |none=>rfl
 |@ins0 k o a b c u h hk=>
  unfold EH Zal.g;generalize 1000+_+_+_+_+_+_+_=n;unfold Zal.f;have hn:F (k=2\/k=5\/k=7\/k=8\/k=9)=A:=by simp;omega
  have h10:F (k=10)=A:=by simp;omega
  simp only[jN,hn,U4];rw[J (by simp),U (by decide),h10,U (by simp)];unfold Zal.j4 Zal.j12;simp only[dt];rw[Ev h,U4,U (by omega),U (by omega),U (by omega),U (by omega)]
 |@ins1 k o a b c u t h hk ht=>
  unfold EH Zal.g;generalize 1000+_+_+_+_+_+_+_=n;unfold Zal.f;have hn:F (k=2\/k=5\/k=7\/k=8\/k=9)=G:=by simp;omega
  have h10:F (k=10)=A:=by simp;omega
  simp only[jN,hn,U4,hp,hw t ht];rw[J (by simp),J (by decide),J (by decide),h10,U (by simp)];unfold Zal.j4 Zal.j12;simp only[dt];rw[Ev h,U4,U (by omega),U (by omega),U (by omega),U (by omega)]
 |@load a t ha ht=>
  unfold EH Zal.g;simp_all [Zal.f,jN,Zal.j4,Dz,UB,rn]
 |@word t ht=>
  unfold EH Zal.g;generalize 1000+_+_+_+_+_+_+_=n;unfold Zal.f;simp only[jN,U4,hp,hw t ht];rw[J (by simp),J (by decide),J (by decide),U (by simp)];rfl
 |@exp nm hn=>
  have hne:nm≠[]:=by rintro rfl;exact absurd hn (by decide)
  simp_all [Zal.g,Zal.f,jN,Zal.j4,mq]
end Rv
namespace Rv
open Go
theorem uE{s:Sm}{t:zab Tr}(h:GoodS s t):s.e.length<=64/\s.e=postO t/\(∀x,t=Z x->iV x):=by
 cases h with
 |none=>exact⟨by simp,rfl,λx h=>by cases h⟩
 |ins0 _ _=>exact⟨by simp,rfl,λx h=>by cases h⟩
 |ins1 _ _ ht=>exact⟨ht.2.2.2,rfl,λx h=>by obtain rfl:=U6 h;exact ht⟩
 |load _ ht=>exact⟨ht.2.2.2,rfl,λx h=>by obtain rfl:=U6 h;exact ht⟩
 |word ht=>exact⟨ht.2.2.2,rfl,λx h=>by obtain rfl:=U6 h;exact ht⟩
 |exp _=>exact⟨by simp,rfl,λx h=>by cases h⟩
end Rv
namespace Rv
open Go
end Rv
namespace Rv
open Go
end Rv
namespace Rv
open Go
def iI(l:S Ln):S Str:=(l.map (·.1)).filter λs=>F (s≠[])
theorem zn(a b:S Ln):iI (a++b)=iI a++iI b:=by unfold iI;rw[VF,List.filter_append]
theorem wY{x:Ln}(h:x.1=[]):iI [x]=[]:=by simp[iI,h]
theorem zo{x:Ln}(h:x.1≠[]):iI [x]=[x.1]:=by simp[iI,h]
end Rv
namespace Rv
open Go
def nN:S Ln->Y->S I
 |[],_=>[]
 |x::l,c=>((4*c:Y):I)::nN l (c+bN x)
def dA:S Ln->Y->S Sym
 |[],_=>[]
 |x::l,c=>if x.1=[] then dA l (c+bN x) else(x.1,((4*c:Y):I),())::dA l (c+bN x)
theorem pX:∀(l:S Ln) (i:Y) (t:S I) (lb:S Sym) (c:Y) {r},bG l i t lb c=.ok r->r=(t++nN l c,lb++dA l c,c+(l.map bN).sum)
 |[],_,t,lb,c,r,h=>by
  rw[bG] at h;cases h;simp[nN,dA]
 |x::l,i,t,lb,c,r,h=>by
  rw[bG] at h;split at h;·rename_i hx;rw[pX l _ _ _ _ h,nN,dA,J hx,Vm,Vo,List.sum_cons,VS];rfl
  ·split at h
   ·cases h
   ·rename_i hx _;rw[pX l _ _ _ _ h,nN,dA,U hx,Vm,Vm,Vo,List.sum_cons,VS];rfl
theorem oV:∀(l:S Ln) (c:Y),(dA l c).map (·.1)=iI l
 |[],_=>rfl
 |x::l,c=>by
  rw[dA,show x::l=[x]++l from rfl,zn];split;·rename_i h;rw[wY h,Vw];exact oV l _
  ·rename_i h;rw[zo h,Vo,oV l];rfl
theorem nC:∀(a b:S Ln) (c:Y),dA (a++b) c=dA a c++dA b (c+(a.map bN).sum)
 |[],b,c=>by simp[dA]
 |x::a,b,c=>by
  rw[List.cons_append,dA,dA,Vo,List.sum_cons,<- VS];split;·exact nC a b _
  ·rw[nC a b,List.cons_append]
theorem BQ{s:Str}:∀{l:S Sym},s ∉ l.map (·.1)->bB s l=none
 |[],_=>rfl
 |x::l,h=>by
  simp only[Vo,Vg,not_or] at h;rw[bB,U (λe=>h.1 e.symm)];exact BQ h.2
theorem vg:∀(l:S Ln) (i:Y) (t:S I) (lb:S Sym) (c:Y),(lb.map (·.1)++iI l).Nodup->∃r,bG l i t lb c=.ok r
 |[],_,t,lb,c,_=>⟨_,by rw[bG]⟩
 |x::l,i,t,lb,c,h=>by
  rw[show x::l=[x]++l from rfl,zn] at h;by_cases hx:x.1=[]
  ·rw[wY hx,Vw] at h;rw[bG,J hx];exact vg l _ _ _ _ h
  ·rw[zo hx] at h;have hn:x.1 ∉ lb.map (·.1):=λhm=>(List.nodup_append.1 h).2.2 _ hm _ (by simp) rfl
   rw[bG,U hx,BQ hn,U (by simp)];refine vg l _ _ _ _ ?_;rw[VF,Vm];exact h
theorem Gw(l:S Ln)(h:(iI l).Nodup){pool:S Val}(hp:dE (dA l 0) l 0 []=.ok pool)(hs:(l.map bN).sum+pool.length<=1024) :
  ed l=(nN l 0,dA l 0,pool,((4*(l.map bN).sum:Y):I),(((l.map bN).sum+pool.length:Y):I),0,0,()):=by
 obtain⟨r,hr⟩:=vg l 0 [] [] 0 (by simpa using h);have:=pX l 0 [] [] 0 hr;rw[Vw,Vw,Nat.zero_add] at this;unfold ed Dy;rw[hr,this];dsimp only;rw[hp];unfold zD;dsimp only;rw[U (by omega)]
end Rv
namespace Rv
open Go
def nY(lb:S Sym)(q:S Val)(fr wd:I)(t:S I):S Ln->Y->WrT->Except (Y×I) WrT
 |[],_,r=>.ok r
 |x::l,i,r=>match gD lb q fr wd x.2.1 (t.getD i 0) r with
  | .error e=>.error (i+1,e)
  | .ok r'=>nY lb q fr wd t l (i+1) r'
def wG:S Val->WrT->WrT
 |[],r=>r
 |v::l,r=>wG l (kR r v.1 (F (v.2.1=1)))
abbrev DL:=S I×S I×S Sym×I×I×zaa
def wB(i:I)(e:I):DL:=([],[],[],i,e,())
def Am(r:WrT):DL:=if 64<r.2.2.length then wB 0 2 else(r.1,r.2.1,r.2.2,0,0,())
def O4(p:yI)(l:S Ln):DL:=
 if p.2.2.2.2.2.2.1≠0 then wB p.2.2.2.2.2.1 p.2.2.2.2.2.2.1
 else match nY p.2.1 p.2.2.1 p.2.2.2.1 p.2.2.2.2.1 p.1 l 0 ([],[],[]) with
  | .error x=>wB (x.1:I) x.2
  | .ok r=>Am (wG p.2.2.1 r)
def DX(l:S Ln):DL:=O4 (ed l) l
theorem NT{k o a b c:I}{v:I×I×zaa}{u:C}{x:I}(h:kJ k o a b c v u=.error x):x≠0:=by
 unfold kJ at h;split at h;·rename_i h1;cases h;exact h1
 ·exact G7 _ _ _ _ _ _ _ h
theorem Qf{lb:S Sym}{q:S Val}{fr wd:I}{s:Snt}{pl x:I}(h:jT lb q fr wd s pl=.error x):x≠0:=by
 unfold jT at h
 repeat' split at h
 all_goals first
  |exact NT h
  |exact G7 _ _ _ _ _ _ _ h
  |(cases h;assumption)
  |cases h
structure WOk (r:WrT) (i:Y):Prop where
 w:r.1.length<=i
 s:r.2.1.length<=i
 y:r.2.2.length<=i
 o:bS r.2.2
theorem Ik{r:WrT}{i:Y}(h:WOk r i)(v:I)(b:C):WOk (kR r v b) (i+1):=by
 refine⟨by have:=h.w;simp[kR];omega,?_,by have:=h.y;show r.2.2.length<=_;omega,h.o⟩;have:=h.s;unfold kR;dsimp only;split;·simp;omega
 ·omega
theorem K3{lb:S Sym}{nm:Str}{y y':S Sym}(h:lh lb nm y=.ok y'):bD nm=G/\(bB nm lb).isSome=G/\nQ y nm=A/\y'=pO y (nm,(bB nm lb).getD 0,()):=by
 unfold lh at h;split at h;·cases h
 ·split at h
  ·cases h
  ·split at h
   ·cases h
   ·rename_i h1 h2 h3;cases h;exact⟨by simpa using h1,(Bool.not_eq_false _).mp h2,by simpa using h3,rfl⟩
theorem Rp{lb:S Sym}{q:S Val}{fr wd:I}{s:Snt}{pl:I}{r r':WrT}{i:Y}(hr:WOk r i)(h:gD lb q fr wd s pl r=.ok r'):WOk r' (i+1):=by
 unfold gD at h;split at h;·cases h;exact⟨by have:=hr.w;omega,by have:=hr.s;omega,by have:=hr.y;omega,hr.o⟩
 ·split at h
  ·split at h
   ·cases h
   ·rename_i y hy;cases h;obtain⟨_,_,h3,rfl⟩:=K3 hy;exact⟨by have:=hr.w;show r.1.length<=_;omega,by have:=hr.s;show r.2.1.length<=_;omega,by have:=hr.y;show(pO _ _).length<=_;rw[Q8];omega,Jo hr.o h3⟩
  ·split at h
   ·cases h
   ·cases h;exact Ik hr _ _
theorem OB{lb:S Sym}{q:S Val}{fr wd:I}{s:Snt}{pl x:I}{r:WrT}(h:gD lb q fr wd s pl r=.error x):x≠0:=by
 unfold gD at h;split at h;·cases h
 ·split at h
  ·split at h
   ·rename_i e he;cases h;unfold lh at he;split at he
    ·cases he;decide
    ·split at he
     ·cases he;decide
     ·split at he
      ·cases he;decide
      ·cases he
   ·cases h
  ·split at h
   ·rename_i e he;cases h;exact Qf he
   ·cases h
section
variable(t:S I)(lb:S Sym)(q:S Val)(fr wd:I)
abbrev zV:Val:=((0:I),((0:I),()))
theorem SN{q:S Val}{i:Y}(h:i<q.length):q.drop i=q.getD i zV::q.drop (i+1):=by
 rw[Vs h,Vh,Ve h];rfl
theorem UL(hq:q.length<=1000000)(n:Y)(d e:S I)(y:S Sym):∀(m i j:Y) (r:WrT),i<=q.length->q.length-i<m->WOk r j->j+q.length<=1000000+i ->
  Zax.l14 n m q (q.length:I) (i:I) d e y t lb q fr wd r.1 r.2.1 r.2.2=Z (Am (wG (q.drop i) r)):=by
 intro m
 induction m with
 |zero=>intro i _ _ _ h;omega
 |succ m ih=>
  intro i j r hi hm hr hj;rw[Zax.l14];simp only[dt,Vj];by_cases h:i<q.length;·have h1:=hr.w;have h2:=hr.s;rw[J (by omega),J (by omega),SN h,wG,xA t lb q fr wd r (by omega) (by omega),U4];dsimp only;rw[w64 (by omega),show(i:I)+1=((i+1:Y):I) by omega];exact ih (i+1) (j+1) _ (by omega) (by omega) (Ik hr _ _) (by omega)
  ·obtain rfl:i=q.length:=by omega
   rw[U (by omega),VH,wG];unfold Am wB;by_cases h6:64<r.2.2.length;·rw[J (by omega),J h6]
   ·rw[U (by omega),U h6]
theorem al7(l:S Ln)(hl:l.length<=1000)(he:∀x∈l,(eL x).length<=4611686018427387904)(ht:t.length=l.length)(hlb:lb.length<=1000000)(hq:q.length<=1000)(n:Y)(hn2:q.length<n)(d e:S I)(y:S Sym) :
  ∀(m i:Y) (r:WrT),i<=l.length->l.length-i<m->WOk r i ->
  Zax.l7 n m l (l.length:I) (i:I) d e y t lb q fr wd t lb q fr wd r.1 r.2.1 r.2.2=Z (match nY lb q fr wd t (l.drop i) i r with | .error x=>wB (x.1:I) x.2 | .ok r=>Am (wG q r)):=by
 intro m
 induction m with
 |zero=>intro i _ _ h;omega
 |succ m ih=>
  intro i r hi hm hr;rw[Zax.l7];simp only[dt,Vj];by_cases h:i<l.length
  ·have h1:=hr.w;have h2:=hr.s;have h3:=hr.y;rw[J (by omega),J (by omega),J (by omega),Al h,nY];have hx:=he _ (Hd h);generalize l.getD i zL=x at hx⊢;rw[Ni t lb q fr wd r (by omega) (by omega) hr.o (by omega) hlb (by omega) x.2.1 hx,U4];cases hA:gD lb q fr wd x.2.1 (t.getD i 0) r with
   |error e=>
    refine(J (show(yj t lb q fr wd r (Except.error e)).1≠0 from OB hA)).trans ?_;rw[w64 (by omega),show(i:I)+1=((i+1:Y):I) by omega];rfl
   |ok r'=>
    refine(U (show ¬((yj t lb q fr wd r (Except.ok r')).1≠0) from λh=>h rfl)).trans ?_;rw[w64 (by omega),show(i:I)+1=((i+1:Y):I) by omega];exact ih (i+1) r' (by omega) (by omega) (Rp hr hA)
  ·obtain rfl:i=l.length:=by omega
   rw[U (by omega),VH,nY];have:=UL t lb q fr wd (by omega) n d e y n 0 l.length r (by omega) (by omega) hr (by omega);rw[VB] at this;exact this
end
theorem Gx(l:S Ln)(h:(ed l).2.2.2.2.2.2.1=0):(ed l).1.length=l.length/\(ed l).2.1.length<=l.length/\(ed l).2.2.1.length<=l.length /\
  ∃r p,bG l 0 [] [] 0=.ok r/\dE r.2.1 l 0 []=.ok p/\r.2.2+p.length<=1024/\ed l=(r.1,r.2.1,p,((4*r.2.2:Y):I),((r.2.2+p.length:Y):I),0,0,()):=by
 rcases JN l with⟨x,hx,h0,_⟩|⟨r,p,h1,h2,h3⟩;·rw[hx] at h;exact absurd h h0
 ·have a:=mY l 0 [] [] 0 h1;have b:=oW r.2.1 l 0 [] h2;unfold zD at h3;dsimp only at h3;by_cases hc:1024<r.2.2+p.length
  ·rw[J hc] at h3;rw[h3] at h;exact absurd h (by decide)
  ·rw[U hc] at h3;rw[h3];simp only[Vz,Nat.zero_add] at a b;exact⟨a.1,a.2.1,b,r,p,h1,h2,by omega,rfl⟩
theorem Kz(l:S Ln)(hl:l.length<=1000)(he:∀x∈l,(eL x).length<=4611686018427387904):Zax.g l=Z (DX l):=by
 unfold Zax.g;generalize hn:1000+l.length=n;unfold Zax.f DX O4;rw[RQ l (by omega) he,U4];simp only[dt];by_cases h:(ed l).2.2.2.2.2.2.1=0;·obtain⟨h1,h2,h3,_⟩:=Gx l h;rw[U (by simpa using h),U (by simpa using h)];have:=al7 (ed l).1 (ed l).2.1 (ed l).2.2.1 (ed l).2.2.2.1 (ed l).2.2.2.2.1 l hl he h1 (by omega) (by omega) n (by omega) [] [] [] n 0 ([],[],[]) (by omega) (by omega) ⟨U7 _,U7 _,U7 _,List.Pairwise.nil⟩;rw[VB] at this;exact this
 ·rw[J (by simpa using h),J (by simpa using h)];rfl
end Rv
namespace Rv
open Go
theorem KC{t:S I}{x:Ln}{l:S Ln}{i c:Y}(h:t.drop i=nN (x::l) c):t.getD i 0=((4*c:Y):I)/\t.drop (i+1)=nN l (c+bN x):=by
 rw[nN] at h;have hlt:i<t.length:=by
  rcases Nat.lt_or_ge i t.length with g|g;·exact g
  ·rw[List.drop_eq_nil_of_le g] at h;cases h
 rw[Vs hlt] at h;injection h with h1 h2
 refine⟨?_,h2⟩;rw[Vh,Ve hlt];exact h1
section
variable(lb:S Sym)(q:S Val)(fr wd:I)(t:S I)
end
theorem xJ:∀{y:S Sym}{s:Str}{v:I},bS y->(s,v,())∈y->bB s y=Z v
 |[],_,_,_,h=>by cases h
 |x::r,s,v,hy,h=>by
  rw[bB];rcases Vg.1 h with rfl|g;·rw[J rfl]
  ·have:=(List.pairwise_cons.1 hy).1 _ g;rw[U (λe=>by rw[e] at this;rw[lY] at this;cases this)];exact xJ (List.pairwise_cons.1 hy).2 g
end Rv
namespace Rv
open Go
section
variable(lb:S Sym)(q:S Val)(fr wd:I)(t:S I)
end
end Rv
namespace Rv
open Go
theorem Ar:∀{lb:S Sym}{s:Str}{v:I},(lb.map (·.1)).Nodup->(s,v,())∈lb->bB s lb=Z v
 |[],_,_,_,h=>by cases h
 |x::r,s,v,hn,h=>by
  rw[Vo,List.nodup_cons] at hn;rw[bB];rcases Vg.1 h with rfl|g;·rw[J rfl]
  ·rw[U (λe=>hn.1 (by grind))];exact Ar hn.2 g
section
variable(lb:S Sym)(q:S Val)(fr wd:I)
def eT:S Ln->WrT->Except I WrT
 |[],r=>.ok r
 |x::l,r=>match gD lb q fr wd x.2.1 ((4*r.1.length:Y):I) r with
  | .error e=>.error e
  | .ok r'=>eT l r'
theorem mR:∀(a b:S Ln) (r:WrT),eT lb q fr wd (a++b) r=match eT lb q fr wd a r with | .error e=>.error e | .ok r'=>eT lb q fr wd b r'
 |[],b,r=>rfl
 |x::a,b,r=>by
  rw[List.cons_append,eT,eT];cases gD lb q fr wd x.2.1 ((4*r.1.length:Y):I) r with
  |error e=>rfl
  |ok r'=>exact mR a b r'
theorem LA{x:Ln}{pl:I}{r r':WrT}(h:gD lb q fr wd x.2.1 pl r=.ok r'):r'.1.length=r.1.length+bN x:=by
 unfold gD at h;unfold bN;by_cases k0:x.2.1.1=0;·grind
 rw[U k0] at h;by_cases k10:x.2.1.1=10;·grind
 rw[U k10] at h;split at h;·cases h
 ·cases h;simp_all [kR]
theorem EE(t:S I):∀(l:S Ln) (i:Y) (r r':WrT),t.drop i=nN l r.1.length->eT lb q fr wd l r=.ok r'->nY lb q fr wd t l i r=.ok r'
 |[],_,_,_,_,h=>by cases h;rfl
 |x::l,i,r,r',ht,h=>by
  obtain⟨ht1,ht2⟩:=KC ht;rw[eT] at h;rw[nY,ht1];cases hA:gD lb q fr wd x.2.1 ((4*r.1.length:Y):I) r with
  |error e=>grind
  |ok r1=>
   rw[hA] at h;exact EE t l (i+1) r1 r' (by grind [LA]) h
end
structure IU (ws ss:S I) (ys lb:S Sym):Prop where
 pl:∀x∈plR ws ss,bB (nmR x) lb=Z x
 nm:∀z∈ys,bB z.1 lb=Z z.2.1
theorem zR{lb:S Sym}{e:S Item}{v:Val}(hw:fZ e)(hl:e.length<=64)(hr:jJ lb [] e=.ok [v]):vOf lb e=(v.1,v.2.1,0,()):=by
 unfold vOf ofR;rw[J (Bv hw hl),hr];rfl
theorem AU:((List.range 1025).all λk=>ax (nmR (4*(k:I)))&&F ((nmR (4*(k:I))).length=5)&&F ((nmR (4*(k:I))).getD 0 0=95) &&
  F (((nmR (4*(k:I))).drop 1).foldl (λ(a:Y) (b:UInt8)=>a*16+(if b.toNat<=57 then b.toNat-48 else b.toNat-55)) 0=4*k))=G:=by decide +kernel
theorem rW{k:Y}(h:k<=1024):ax (nmR (4*(k:I)))=G/\(nmR (4*(k:I))).length=5/\(nmR (4*(k:I))).getD 0 0=95:=by
 have:=Vq.1 AU k (by simp;omega)
 grind
theorem Tt{k j:Y}(h:k<=1024)(hj:j<=1024)(e:nmR (4*(k:I))=nmR (4*(j:I))):k=j:=by
 have h1:=Vq.1 AU k (by simp;omega);have h2:=Vq.1 AU j (by simp;omega)
 grind
theorem zi{s:Str}(h:ax s=G):az ((2:I),0,s,())=(0,G):=by
 simp_all [az]
theorem M3{lb:S Sym}{k:Y}(hk:k<=1024)(hf:bB (nmR (4*(k:I))) lb=Z (4*(k:I))):vOf lb (nmE (4*(k:I)))=(4*(k:I),1,0,()):=by
 have h1:=zi (rW hk).1;refine zR (v:=(4*(k:I),1,())) ?_ (by simp[nmE]) ?_;·grind [fZ,nmE,enough]
 ·show(match jF lb [] ((2:I),0,nmR (4*(k:I)),()) with | .ok st=>jJ lb st [] | .error e=>.error e)=_;unfold jF;rw[J rfl];dsimp only;rw[hf];dsimp only;rw[show M.wrap (4*(k:I))=4*(k:I) by rw[IntKind.wrap_u32];omega];rfl
theorem Bq{lb:S Sym}{v:I}(h:-4294967295<=v/\v<=4294967295):vOf lb (fE v)=(M.wrap v,0,0,()):=by
 unfold fE;split
 ·refine zR (v:=(M.wrap v,0,())) ?_ (by simp) ?_
  ·rfl
  ·show Except.ok [(M.wrap (0-M.wrap (-v)),D.wrap (0-0),())]=_;have e:M.wrap (0-M.wrap (-v))=M.wrap v:=by
    grind [IntKind.wrap_u32]
   rw[e];rfl
 ·exact zR (v:=(M.wrap v,0,())) rfl (by simp) rfl
theorem Sl{lb:S Sym}{v:I}(h:0<=v/\v<=4294967295)(hf:bB (nmR 0) lb=Z 0):vOf lb (nmE 0++fE v++[((4:I),0,[],())])=(v,1,0,()):=by
 have h1:=zi (rW (k:=0) (by decide)).1;rw[G5 h];refine zR (v:=(v,1,())) ?_ (by simp[nmE]) ?_
 ·show enough 0 [((2:I),0,nmR 0,()),((1:I),v,[],()),((4:I),0,[],())]=Z 1
  grind [az,enough]
 ·have hs:jF lb [] ((2:I),0,nmR 0,())=.ok [(0,1,())]:=by
   unfold jF;rw[J rfl];dsimp only;rw[hf];rfl
  show(match jF lb [] ((2:I),0,nmR 0,()) with | .ok st=>jJ lb st [((1:I),v,[],()),((4:I),0,[],())] | .error e=>.error e)=_;rw[hs];show Except.ok [(M.wrap (0+v),D.wrap (1+0),())]=_;have e:M.wrap (0+v)=v:=by rw[IntKind.wrap_u32];omega
  rw[e];rfl
theorem KU{k o a b c i:I}{u:C}(h:bE k o a b c u)(hi:iT k o i u):uw k o a b c i u=.ok (((aP k o a b c i u).toNat:I),A):=by
 have e:uu k o a b c i u=(((aP k o a b c i u).toNat:I),0,()):=by
  unfold uu;rw[J ((xM k o a b c i u).1 ⟨h,hi⟩)]
 grind [uw]
section
variable{ws ss:S I}{ys lb:S Sym}(O:OkO ws ss ys)(B:IU ws ss ys lb)
include O B
theorem Na{i:Y}(hi:i<ws.length)(q:S Val)(fr:I):jT lb q fr (ws.length:I) (kI ws ss i) ((4*i:Y):I)=.ok (ws.getD i 0,F ((i:I)∈ss)):=by
 have hlw:=O.lw;have hat:=O.ok.at hi;have z:∀(k:I) (e:S Item),jT lb q fr (ws.length:I) (stN k e) ((4*i:Y):I)=jT lb q fr (ws.length:I) (k,0,0,0,0,A,e,[],()) ((4*i:Y):I):=λ_ _=>rfl
 have word:∀(e:S Item) (ad:I),(ad=0\/ad=1/\ws.getD i 0<=4*(ws.length:I))->vOf lb e=(ws.getD i 0,ad,0,())->jT lb q fr (ws.length:I) (stN 9 e) ((4*i:Y):I)=.ok (ws.getD i 0,F (ad=1)):=λe ad ha hv=>by
  have hadr:ug (ws.getD i 0) ad (ws.length:I)=0:=by
   unfold ug;rw[U (by omega),w64 (by omega),w64 (by omega)]
   grind
  grind [jT]
 have num:jT lb q fr (ws.length:I) (stN 9 (fE (ws.getD i 0))) ((4*i:Y):I)=.ok (ws.getD i 0,A):=by
  have:=word (fE (ws.getD i 0)) 0 (.inl rfl) (by grind [Bq,IntKind.wrap_u32]);exact this
 unfold kI;rw[U (by omega)];by_cases hm:(i:I)∈ss
 ·rw[J hm,decide_eq_true hm];obtain⟨_,h2,h3⟩:=O.site hm;rw[Vj] at h2 h3;have hp:sO ws (i:I)∈plR ws ss:=(AY ws ss).2 (.inl ⟨_,hm,rfl⟩);have hf:=B.pl _ hp;unfold sO at hf;rw[Vj] at hf;by_cases h4:ws.getD i 0 % 4=0
  ·rw[J h4] at hf⊢;have hk:ws.getD i 0=4*(((ws.getD i 0) / 4).toNat:I):=by omega
   refine word _ 1 (.inr ⟨rfl,h3⟩) ?_;rw[hk] at hf⊢
   grind [M3]
  ·rw[U h4] at hf⊢;exact word _ 1 (.inr ⟨rfl,h3⟩) (Sl hat hf)
 ·rw[U hm,decide_eq_false hm];rcases(ko hat).2 with e|⟨k,o,a,b,c,m,u,e,g1,g2,g3⟩
  ·grind
  ·have hj:eH ws ss i=if k=7/\0<=(i:I)+1+m/\(i:I)+1+m<=ws.length then(4*((i:I)+1+m),G,()) else(0,A,()):=by
    unfold eH
    grind
   have hjp:(eH ws ss i).2.1=G->bB (nmR (eH ws ss i).1) lb=Z (eH ws ss i).1:=λh=>B.pl _ ((AY ws ss).2 (.inr ⟨i,hi,h,rfl⟩))
   have hk:=jg g1;have henc:=KU g1 g2;rw[<- g3] at henc;rw[e];dsimp only;rw[U (by decide)];by_cases k7:k=7
   ·rw[J k7];rw[hj] at hjp⊢;by_cases hc:k=7/\0<=(i:I)+1+m/\(i:I)+1+m<=ws.length
    ·rw[J hc] at hjp⊢;have hf:=hjp rfl;dsimp only at hf⊢;rw[J rfl];subst k7;obtain⟨t,ht⟩:∃t:Y,(i:I)+1+m=(t:I):=⟨((i:I)+1+m).toNat,by omega⟩
     rw[ht] at hf⊢;have hv:=M3 (by omega) hf;have hi7:-8388608<=m/\m<=8388607:=by grind
     have hd:xH (4*(t:I)) ((4*i:Y):I)=4*m:=by
      grind [xH,IntKind.wrap_u32,IntKind.wrap_i32,w64]
     have hfv:Eg (4*(t:I)) 1 ((4*i:Y):I)=(m,0,()):=by
      unfold Eg;rw[hd,U (by decide),Int.mul_tmod_right];have ht:Int.tdiv (4*m) 4=m:=Int.mul_tdiv_cancel_left _ (by decide);rw[ht,w64 (by omega),U (by omega)]
     unfold jT;simp_all [kJ]
    grind
   ·rw[U k7];unfold jT;dsimp only;by_cases k2:k=2
    ·rw[J k2,J (.inl k2)];have hi2:-65536<=m/\m<=65535/\(o=0->u=G->0<=m):=by
      rcases g2 with⟨_,h1,h2,h3⟩|h|h|h;·grind
      all_goals omega
     have hn:∀low,(low=-65536\/low=0/\0<=m)->uT lb (fE m) low 65535=(m,0,()):=λlow hlow=>by
      unfold uT;rw[Bq (by omega)];dsimp only;rw[U (by decide),U (by decide)];unfold yf;have e1:D.wrap (IntKind.i32.wrap (M.wrap m))=m:=by
       grind [IntKind.wrap_u32,IntKind.wrap_i32,w64]
      grind
     rw[hn _ (by grind)];simp_all [kJ]
    ·rw[U k2];by_cases k5:k=5
     ·rw[J k5,J (.inr k5)];have hi5:-524288<=m/\m<=524287:=by grind [iT]
      have hn:uT lb (fE m) (-524288) 524287=(m,0,()):=by
       unfold uT;rw[Bq (by omega)];dsimp only;rw[U (by decide),U (by decide)];unfold yf;have e1:D.wrap (IntKind.i32.wrap (M.wrap m))=m:=by
        grind [IntKind.wrap_u32,IntKind.wrap_i32,w64]
       grind
      simp_all [kJ]
     ·have hm0:m=0:=by grind [iT]
      grind
end
end Rv
