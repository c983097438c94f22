/- Texts put together. -/
import Derived.Test.YtfphlcngbllgoaaGreatDoorSS2
import Derived.Test.YtfphlcngbllgoaaGreatDoorSS1
set_option linter.all false
namespace Rv
open Go
theorem Ob(x:Ln):Zed.g x.2.1.1 x.2.1.2.1 x.2.1.2.2.1 x.2.1.2.2.2.1 x.2.1.2.2.2.2.1 x.2.1.2.2.2.2.2.1 x.2.1.2.2.2.2.2.2.1 x.2.1.2.2.2.2.2.2.2.1=some ((bM x:Int),()):=by
 unfold Zed.g Zed.f bM;simp only[dt];by_cases h0:x.2.1.1=0;·rw[if_pos h0,if_pos h0,if_pos (.inl h0)];rfl
 ·rw[if_neg h0];by_cases h1:x.2.1.1=10
  ·rw[if_pos h1,if_pos (.inr h1)];rfl
  ·rw[if_neg h1,if_neg (by rintro(h|h)<;>contradiction)];rfl
theorem Tm(x:Val)(a b:Int):(decide (x.1=a)&&(decide (x.2.1=b)&&true))=decide (x=(a,b,())):=by
 obtain⟨x1,x2,_⟩:=x;simp only[Bool.and_true];by_cases h1:x1=a<;>by_cases h2:x2=b<;>simp[h1,h2]
theorem LC(p:List Val)(a b:Int)(hp:p.length<=1000000)(n:Nat):∀(m i:Nat),i<=p.length->p.length-i<m ->
  Zbs.l2 n m p p (p.length:Int) (i:Int) a b=some (if(a,b,())∈p.drop i then p else p++[(a,b,())],((i+yg (a,b,()) (p.drop i):Nat):Int),()):=by
 intro m
 induction m with
 |zero=>intro i _ h;omega
 |succ m ih=>
  intro i hi hm;rw[Zbs.l2];simp only[Tm,dt,UL];by_cases h:i<p.length
  ·have hd:p.drop i=p.getD i ((0:Int),((0:Int),()))::p.drop (i+1):=by
    rw[UX h,UH,UF h];rfl
   rw[if_pos (by omega),if_pos (by omega),hd];generalize p.getD i ((0:Int),((0:Int),()))=x;unfold yg;by_cases hx:x=(a,b,())
   ·rw[if_pos hx,if_pos (by rw[hx];simp),if_pos hx];simp
   ·rw[if_neg hx,if_neg hx,w64 (by omega),show(i:Int)+1=((i+1:Nat):Int) by omega,ih (i+1) (by omega) (by omega)];have e:((a,b,())∈x::p.drop (i+1))=((a,b,())∈p.drop (i+1)):=by
     apply propext;rw[UG];exact⟨fun h=>h.resolve_left fun e=>hx e.symm,.inr⟩
    simp only[e];rw[show i+1+yg (a,b,()) (p.drop (i+1))=i+(yg (a,b,()) (p.drop (i+1))+1) by omega]
  ·obtain rfl:i=p.length:=by omega
   rw[if_neg (by omega),Vf];unfold Zep.g Zep.f;rw[if_pos ⟨rfl,rfl,rfl⟩,Uv];dsimp only;rw[if_pos (by simp),if_pos (by simp;omega),if_neg (by simp)];rfl
theorem HV(p:List Val)(a b:Int)(hp:p.length<=1000000):Zbs.g p a b=some (zX p (a,b,()),(yg (a,b,()) p:Int),()):=by
 unfold Zbs.g Zbs.f;have:=LC p a b hp (1000+p.length+a.toNat+b.toNat) (1000+p.length+a.toNat+b.toNat) 0 (by omega) (by omega);rw[U3,Nat.zero_add] at this;exact this
theorem CK{c k:Nat}(hc:c<=1000000)(hk:k<=1):IntKind.i64.wrap (((4*c:Nat):Int)+IntKind.i64.wrap (4*(k:Int)))=((4*(c+k):Nat):Int):=by
 rw[w64 (x:=4*(k:Int)) (by omega),w64 (by omega)];omega
theorem OP(x:Ln)(t:List Int)(lb:List Sym)(q:List Val)(c:Nat)(s:Int)(ht:t.length<=1000000)(hlb:lb.length<=1000000)(hc:c<=1000000) :
  Zcs.g x.1 x.2.1.1 x.2.1.2.1 x.2.1.2.2.1 x.2.1.2.2.2.1 x.2.1.2.2.2.2.1 x.2.1.2.2.2.2.2.1 x.2.1.2.2.2.2.2.2.1 x.2.1.2.2.2.2.2.2.2.1 t lb q ((4*c:Nat):Int) s =
   some (if x.1=[] then(0,t++[((4*c:Nat):Int)],lb,q,((4*(c+bM x):Nat):Int),s,()) else if(bC x.1 lb).isSome=true then(26,t++[((4*c:Nat):Int)],lb,q,((4*c:Nat):Int),s,())
    else(0,t++[((4*c:Nat):Int)],lb++[(x.1,((4*c:Nat):Int),())],q,((4*(c+bM x):Nat):Int),s,())):=by
 unfold Zcs.g;generalize 1000+_+_+_+_+_+_+_+_+_+_+_+_+_=n;unfold Zcs.f Zcs.j7;rw[if_pos (by simp;omega),Ai lb x.1 (by omega),Uv,Ob,Uv];dsimp only;rw[CK hc (sM x)];simp only[Bool.not_eq_true',decide_eq_false_iff_not];by_cases h:x.1=[]
 ·rw[if_neg (by simpa using h),if_pos h,Uv];dsimp only;rw[CK hc (sM x)]
 ·rw[if_pos h,if_neg h];by_cases h2:(bC x.1 lb).isSome=true
  ·rw[if_pos h2,if_pos h2]
  ·rw[if_neg h2,if_neg h2,if_pos (by simp;omega)]
theorem Ae{a:List Ln}{i:Nat}(h:i<a.length):a.drop i=a.getD i zL::a.drop (i+1):=by
 rw[UX h,UH,UF h];rfl
theorem GK{a:List Ln}{i:Nat}(h:i<a.length):a.getD i zL∈a:=by
 rw[UH,UF h];exact Vg h
theorem Qu(a:List Ln)(ha:a.length<=1000000)(n:Nat)(q:List Val)(s:Int):∀(m i:Nat) (t:List Int) (lb:List Sym) (c:Nat),i<=a.length->a.length-i<m->t.length<=i->lb.length<=i->c<=i ->
  ∃r,Zda.l2 n m a (a.length:Int) (i:Int) t lb q ((4*c:Nat):Int) s=some r/\(∀x,bF (a.drop i) i t lb c=.error x->r.1=(x.1:Int)/\r.2.1=x.2/\x.2≠0) /\
   (∀y,bF (a.drop i) i t lb c=.ok y->r=(0,0,y.1,y.2.1,q,((4*y.2.2:Nat):Int),s,())):=by
 intro m
 induction m with
 |zero=>intro i _ _ _ _ h;omega
 |succ m ih=>
  intro i t lb c hi hm ht hlb hc;rw[Zda.l2];simp only[dt,UL];by_cases h:i<a.length
  ·rw[if_pos (by omega),if_pos (by omega),OP _ t lb q c s (by omega) (by omega) (by omega),Uv,Ae h];have hs:=sM (a.getD i zL);generalize a.getD i zL=x at hs;have W:IntKind.i64.wrap ((i:Int)+1)=((i+1:Nat):Int):=by rw[w64 (by omega)];omega
   rw[bF,W];by_cases h1:x.1=[]
   ·rw[if_pos h1,if_pos h1];simp only[ne_eq,not_true_eq_false,↓reduceIte];exact ih (i+1) _ _ _ (by omega) (by omega) (by simp;omega) (by omega) (by omega)
   ·rw[if_neg h1,if_neg h1];by_cases h2:(bC x.1 lb).isSome=true
    ·rw[if_pos h2,if_pos h2];dsimp only;rw[if_pos (by decide)];exact⟨_,rfl,fun y hy=>by cases hy;exact⟨rfl,rfl,(by decide:(26:Int)≠0)⟩,fun y hy=>by cases hy⟩
    ·rw[if_neg h2,if_neg h2];simp only[ne_eq,not_true_eq_false,↓reduceIte];exact ih (i+1) _ _ _ (by omega) (by omega) (by simp;omega) (by simp;omega) (by omega)
  ·obtain rfl:i=a.length:=by omega
   rw[if_neg (by omega),Vf];exact⟨_,rfl,fun x hx=>by(rw[bF] at hx;cases hx),fun y hy=>by(rw[bF] at hy;cases hy;rfl)⟩
theorem OQ(x:Ln)(t:List Int)(lb:List Sym)(q:List Val)(f s:Int)(hlb:lb.length<=1000000)(hq:q.length<=1000000)(he:(eL x).length<=4611686018427387904) :
  Zee.g x.1 x.2.1.1 x.2.1.2.1 x.2.1.2.2.1 x.2.1.2.2.2.1 x.2.1.2.2.2.2.1 x.2.1.2.2.2.2.2.1 x.2.1.2.2.2.2.2.2.1 x.2.1.2.2.2.2.2.2.2.1 t lb q f s =
   some (if x.2.1.1=8 then(if(vOf lb (eL x)).2.2.1≠0 then((vOf lb (eL x)).2.2.1,t,lb,q,f,s,()) else if(vOf lb (eL x)).2.1<0\/1<(vOf lb (eL x)).2.1 then(27,t,lb,q,f,s,())
    else(0,t,lb,zX q ((vOf lb (eL x)).1,(vOf lb (eL x)).2.1,()),f,s,())) else(0,t,lb,q,f,s,())):=by
 unfold Zee.g;generalize 1000+_+_+_+_+_+_+_+_+_+_+_+_+_=n;unfold Zee.f;rw[Js lb (by omega) _ he,Hg,Uv];simp only[dt,df];by_cases h8:x.2.1.1=8
 ·rw[if_neg (by simpa using h8),if_pos h8];show(if(vOf lb (eL x)).2.2.1≠0 then _ else _)=_;by_cases h1:(vOf lb (eL x)).2.2.1≠0
  ·rw[if_pos h1,if_pos h1]
  ·rw[if_neg h1,if_neg h1,HV q _ _ hq,Uv];by_cases h2:(vOf lb (eL x)).2.1<0
   ·rw[if_neg (by simpa using h2),if_pos (.inl h2)]
   ·rw[if_pos h2];by_cases h3:1<(vOf lb (eL x)).2.1
    ·rw[if_pos h3,if_pos (.inr h3)]
    ·rw[if_neg h3,if_neg (by rintro(h|h)<;>contradiction)]
 ·rw[if_pos h8,if_neg h8]
theorem Qv(a:List Ln)(ha:a.length<=1000000)(he:∀x∈a,(eL x).length<=4611686018427387904)(n:Nat)(t:List Int)(lb:List Sym)(hlb:lb.length<=1000000)(f s:Int):∀(m i:Nat) (q:List Val),i<=a.length->a.length-i<m->q.length<=i ->
  ∃r,Zdb.l2 n m a (a.length:Int) (i:Int) t lb q f s=some r/\(∀x,dB lb (a.drop i) i q=.error x->r.1=(x.1:Int)/\r.2.1=x.2/\x.2≠0) /\
   (∀y,dB lb (a.drop i) i q=.ok y->r=(0,0,t,lb,y,f,s,())):=by
 intro m
 induction m with
 |zero=>intro i _ _ h;omega
 |succ m ih=>
  intro i q hi hm hq;rw[Zdb.l2];simp only[dt,UL];by_cases h:i<a.length
  ·rw[if_pos (by omega),if_pos (by omega),OQ _ t lb q f s hlb (by omega) (he _ (GK h)),Uv,Ae h];generalize a.getD i zL=x;have W:IntKind.i64.wrap ((i:Int)+1)=((i+1:Nat):Int):=by rw[w64 (by omega)];omega
   rw[dB,W];by_cases h8:x.2.1.1=8
   ·rw[if_pos h8,if_pos h8];show ∃r,_/\(∀y,(if(vOf lb (eL x)).2.2.1≠0 then _ else _)=_->_)/\_;by_cases h1:(vOf lb (eL x)).2.2.1≠0
    ·rw[if_pos h1];dsimp only;rw[if_pos h1];refine⟨_,rfl,fun y hy=>?_,fun y hy=>?_⟩
     ·rw[if_pos h1] at hy;cases hy;exact⟨rfl,rfl,h1⟩
     ·rw[if_pos h1] at hy;cases hy
    ·rw[if_neg h1];by_cases h2:(vOf lb (eL x)).2.1<0\/1<(vOf lb (eL x)).2.1
     ·rw[if_pos h2];dsimp only;rw[if_pos (by decide)];refine⟨_,rfl,fun y hy=>?_,fun y hy=>?_⟩
      ·rw[if_neg h1,if_pos h2] at hy;cases hy;exact⟨rfl,rfl,(by decide:(27:Int)≠0)⟩
      ·rw[if_neg h1,if_pos h2] at hy;cases hy
     ·rw[if_neg h2];simp only[ne_eq,not_true_eq_false,↓reduceIte];have hl:=DD q ((vOf lb (eL x)).1,(vOf lb (eL x)).2.1,());obtain⟨r,hr,g1,g2⟩:=ih (i+1) (zX q ((vOf lb (eL x)).1,(vOf lb (eL x)).2.1,())) (by omega) (by omega) (by omega);refine⟨r,hr,fun y hy=>g1 y ?_,fun y hy=>g2 y ?_⟩
      ·rw[if_neg h1,if_neg h2] at hy;exact hy
      ·rw[if_neg h1,if_neg h2] at hy;exact hy
   ·rw[if_neg h8,if_neg h8];simp only[ne_eq,not_true_eq_false,↓reduceIte];exact ih (i+1) q (by omega) (by omega) (by omega)
  ·obtain rfl:i=a.length:=by omega
   rw[if_neg (by omega),Vf];exact⟨_,rfl,fun x hx=>by(rw[dB] at hx;cases hx),fun y hy=>by(rw[dB] at hy;cases hy;rfl)⟩
theorem Jy{c k:Nat}(hc:c<=1000000)(hk:k<=1000000):IntKind.i64.wrap (IntKind.i64.wrap (Int.tdiv ((4*c:Nat):Int) 4)+(k:Int))=((c+k:Nat):Int):=by
 have:Int.tdiv ((4*c:Nat):Int) 4=(c:Int):=by
  rw[Int.tdiv_eq_ediv_of_nonneg (by omega)];omega
 rw[this,w64 (x:=(c:Int)) (by omega),w64 (by omega)];omega
theorem Rm(a:List Ln)(ha:a.length<=1000000)(he:∀x∈a,(eL x).length<=4611686018427387904):Zbf.g a=some (dY a):=by
 have key:∀n m,3<=m->Zbf.l4 n m a 2 0 [] [] [] 0 0=some (dY a):=by
  intro n m hm;obtain⟨k,rfl⟩:∃k,m=k+3:=⟨m-3,by omega⟩
  obtain⟨r,hr,g1,g2⟩:=Qu a ha (1000+a.length+([]:List Int).length+([]:List Sym).length+([]:List Val).length+(0:Int).toNat+(0:Int).toNat) [] 0 (1000+a.length+([]:List Int).length+([]:List Sym).length+([]:List Val).length+(0:Int).toNat+(0:Int).toNat) 0 [] [] 0 (by omega) (by omega) (by simp) (by simp) (by omega);rw[U3] at g1 g2;have hr':Zda.g a [] [] [] 0 0=some r:=hr;rw[Zbf.l4,if_pos (by decide),if_pos rfl,hr',Uv,Zbf.j7];unfold dY Dk;cases hp:bF a 0 [] [] 0 with
  |error x=>
   obtain⟨e1,e2,e3⟩:=g1 x hp;rw[e1,e2];simp only[dt];rw[if_pos e3];rfl
  |ok y=>
   obtain rfl:=g2 y hp;simp only[ne_eq,not_true_eq_false,decide_false,Bool.false_eq_true,↓reduceIte];have hl:=mV _ _ _ _ _ hp;simp only[U2,Nat.zero_add] at hl;rw[show IntKind.i64.wrap ((0:Int)+1)=1 from rfl,Zbf.l4,if_pos (by decide),if_neg (by decide),if_pos rfl];obtain⟨r2,hr2,k1,k2⟩:=Qv a ha he (1000+a.length+y.1.length+y.2.1.length+([]:List Val).length+(((4*y.2.2:Nat):Int)).toNat+(0:Int).toNat) y.1 y.2.1 (by omega) ((4*y.2.2:Nat):Int) 0 (1000+a.length+y.1.length+y.2.1.length+([]:List Val).length+(((4*y.2.2:Nat):Int)).toNat+(0:Int).toNat) 0 [] (by omega) (by omega) (by simp);rw[U3] at k1 k2;have hr2':Zdb.g a y.1 y.2.1 [] ((4*y.2.2:Nat):Int) 0=some r2:=hr2;rw[hr2',Uv,Zbf.j7];cases hq:dB y.2.1 a 0 [] with
   |error x=>
    obtain⟨e1,e2,e3⟩:=k1 x hq;rw[e1,e2];simp only[dt];rw[if_pos e3];rfl
   |ok z=>
    obtain rfl:=k2 z hq;have hz:=oO _ _ _ _ hq;simp only[U2,Nat.zero_add] at hz;simp only[ne_eq,not_true_eq_false,decide_false,Bool.false_eq_true,↓reduceIte];rw[show IntKind.i64.wrap ((1:Int)+1)=2 from rfl,Zbf.l4,if_neg (by decide),Jy (by omega) (by omega)];simp only[dt];unfold zu;by_cases hw:1024<y.2.2+z.length;·rw[if_pos (by omega)];dsimp only;rw[if_pos hw];rfl
    ·rw[if_neg (by omega)];dsimp only;rw[if_neg hw]
 exact key _ _ (by omega)
end Rv
namespace Rv
open Go
end Rv
namespace Rv
open Go
def Dj(p:List Int×Int)(s:Int):List Int×Int:=(p.1.set s.toNat (p.1.getD s.toNat 0*65536+p.2),s+1)
def stP(ws ss:List Int)(i:Nat):List Int×Int:=(ss.take i).foldl Dj (ws,0)
def oQ(ws ss:List Int):List Int×Int:=ss.foldl Dj (ws,0)
theorem RD(ws ss:List Int):stP ws ss ss.length=oQ ws ss:=by unfold stP oQ;rw[List.take_length]
theorem Tj{ss:List Int}{i:Nat}(h:i<ss.length):ss.take (i+1)=ss.take i++[ss.getD i 0]:=by
 rw[List.take_succ,UH,UF h];rfl
theorem Fq{ws ss:List Int}{i:Nat}(h:i<ss.length):stP ws ss (i+1)=Dj (stP ws ss i) (ss.getD i 0):=by
 unfold stP;rw[Tj h,List.foldl_append];rfl
theorem Rh(a k i:Nat)(h:a<2 ^ i)(hs:2 ^ i*k+a<4294967296):aC .or .u32 ((2 ^ i*k:Nat):Int) (a:Int)=((2 ^ i*k+a:Nat):Int):=by
 have ha:(BitVec.ofNat 32 a).toNat=a:=by rw[BitVec.toNat_ofNat];omega
 have hk:(BitVec.ofNat 32 (2 ^ i*k)).toNat=2 ^ i*k:=by rw[BitVec.toNat_ofNat];exact Nat.mod_eq_of_lt (by omega)
 have:=OG (BitVec.ofNat 32 (2 ^ i*k)) (BitVec.ofNat 32 a);rw[BitVec.toNat_or,ha,hk,<- Nat.two_pow_add_eq_or_of_lt h] at this;exact this
structure OkS (ws ss:List Int):Prop where
 lw:ws.length<=1024
 wr:∀x∈ws,0<=x/\x<=4294967295
 lt:∀i j,i<j->j<ss.length->ss.getD i 0<ss.getD j 0
 at_:∀i,i<ss.length->0<=ss.getD i 0/\ss.getD i 0<(ws.length:Int)
 low:∀i,i<ss.length->ws.getD (ss.getD i 0).toNat 0<=65535
section
variable{ws ss:List Int}(O:OkS ws ss)
include O
theorem OkS.len:ss.length<=1024:=by
 have key:∀i,i<ss.length->(i:Int)<=ss.getD i 0:=by
  intro i
  induction i with
  |zero=>intro h;have:=(O.at_ 0 h).1;omega
  |succ i ih=>intro h;have:=ih (by omega);have:=O.lt i (i+1) (by omega) h;omega
 have hl:=O.lw;rcases Nat.lt_or_ge 1024 ss.length with h|h;·have:=key 1024 h;have:=(O.at_ 1024 h).2;omega
 ·exact h
theorem OI:∀i,i<=ss.length->(stP ws ss i).1.length=ws.length/\(∀j,i<=j->j<ss.length->(stP ws ss i).1.getD (ss.getD j 0).toNat 0=ws.getD (ss.getD j 0).toNat 0) /\
  0<=(stP ws ss i).2/\(stP ws ss i).2<=1024/\(∀j,i<=j->j<ss.length->(stP ws ss i).2<=ss.getD j 0)/\∀x∈(stP ws ss i).1,0<=x/\x<=4294967295:=by
 intro i
 induction i with
 |zero=>
  intro _;refine⟨rfl,fun _ _ _=>rfl,Int.le_refl _,by show(0:Int)<=1024;decide,fun j _ hj=>(O.at_ j hj).1,O.wr⟩
 |succ i ih=>
  intro h;obtain⟨h1,h2,h3,h4,h5,h6⟩:=ih (by omega);have hs:=O.at_ i (by omega);have hlow:=O.low i (by omega);have hlw:=O.lw;have e:=h2 i (Uz _) (by omega);rw[Fq (by omega)];generalize hq:stP ws ss i=q at h1 h2 h3 h4 h5 h6 e;obtain⟨o,hd⟩:=q;dsimp only at h1 h2 h3 h4 h5 h6 e;have hpos:0<=o.getD (ss.getD i 0).toNat 0:=by
   rw[UH,UF (by omega)];exact(h6 _ (Vg _)).1
  unfold Dj;dsimp only;refine⟨by rw[List.length_set];exact h1,fun j hj hj2=>?_,by omega,by omega,fun j hj hj2=>?_,fun x hx=>?_⟩
  ·have hlt:=O.lt i j (by omega) hj2;rw[UH,List.getElem?_set_ne (by omega),<- UH];exact h2 j (by omega) hj2
  ·have:=O.lt i j (by omega) hj2;omega
  ·rcases List.mem_or_eq_of_mem_set hx with hx|rfl
   ·exact h6 x hx
   ·omega
theorem OJ(n:Nat):∀(m i:Nat),i<=ss.length->ss.length-i<m->Zbg.l12 n m (stP ws ss i).1 (stP ws ss i).2 ss (ss.length:Int) (i:Int)=some ((oQ ws ss).1,(oQ ws ss).2,0,()):=by
 intro m
 induction m with
 |zero=>intro i _ h;omega
 |succ m ih=>
  intro i hi hm;have hl:=O.len;rw[Zbg.l12];simp only[dt,UL];by_cases h:i<ss.length
  ·obtain⟨h1,h2,h3,h4,h5,h6⟩:=OI O i hi;have hs:=O.at_ i h;have hlow:=O.low i h;have e:=h2 i (Uz _) h;have ih:=ih (i+1) (by omega) (by omega);rw[Fq h] at ih;have hlw:=O.lw;generalize hq:stP ws ss i=q at h1 h2 h3 h4 h5 h6 e ih;obtain⟨o,hd⟩:=q;dsimp only at h1 h2 h3 h4 h5 h6 e ih⊢;have hpos:0<=o.getD (ss.getD i 0).toNat 0:=by
    rw[UH,UF (by omega)];exact(h6 _ (Vg _)).1
   have hr:0<=ss.getD i 0/\ss.getD i 0<(o.length:Int):=by omega
   have hv:aC .or .u32 (IntKind.u32.wrap (o.getD (ss.getD i 0).toNat 0*2 ^ (min (16:Int).toNat IntKind.u32.bits))) (IntKind.u32.wrap hd)=o.getD (ss.getD i 0).toNat 0*65536+hd:=by
    have e16:(2:Int) ^ (min (16:Int).toNat IntKind.u32.bits)=65536:=by decide
    rw[e16,e];rw[e] at hpos;generalize ws.getD (ss.getD i 0).toNat 0=y at hpos hlow;obtain⟨y,rfl⟩:=Int.eq_ofNat_of_zero_le hpos;obtain⟨d,rfl⟩:=Int.eq_ofNat_of_zero_le h3;have a1:IntKind.u32.wrap ((y:Int)*65536)=((2 ^ 16*y:Nat):Int):=by rw[IntKind.wrap_u32];omega
    have a2:IntKind.u32.wrap (d:Int)=(d:Int):=by rw[IntKind.wrap_u32];omega
    rw[a1,a2,Rh _ _ 16 (by omega) (by omega)];omega
   rw[if_pos (by omega),if_pos (by omega),if_pos hr,if_neg (by omega),if_pos hr,if_pos hr,hv,w64 (by omega),w64 (by omega),show(i:Int)+1=((i+1:Nat):Int) by omega];exact ih
  ·obtain rfl:i=ss.length:=by omega
   rw[if_neg (by omega),RD]
theorem Rl(n:Nat)(hn:ss.length<n):∀(m i:Nat) (c:Int),i<=ss.length->ss.length-i<m->(∀j,i<=j->j<ss.length->c<ss.getD j 0)->Zbg.l3 n m ws ss c ss (ss.length:Int) (i:Int)=some ((oQ ws ss).1,(oQ ws ss).2,0,()):=by
 intro m
 induction m with
 |zero=>intro i _ _ h;omega
 |succ m ih=>
  intro i c hi hm hc;have hl:=O.len;have hlw:=O.lw;rw[Zbg.l3];simp only[dt,df,UL];by_cases h:i<ss.length;·have hs:=O.at_ i h;have h0:=hc i (Uz _) h;rw[if_pos (by omega),if_pos (by omega),if_pos (by omega),if_pos (by omega),if_neg (by omega),w64 (by omega),show(i:Int)+1=((i+1:Nat):Int) by omega];exact ih (i+1) _ (by omega) (by omega) fun j hj hj2=>O.lt i j (by omega) hj2
  ·rw[if_neg (by omega)];unfold L.cloneO;rw[if_pos (by omega),Uv];exact OJ O n n 0 (by omega) (by omega)
theorem Rk:Zbg.g ws ss=some ((oQ ws ss).1,(oQ ws ss).2,0,()):=by
 unfold Zbg.g;generalize hn:1000+ws.length+ss.length=n;unfold Zbg.f;exact Rl O n (by omega) n 0 (-1) (by omega) (by omega) fun j _ hj=>by have:=(O.at_ j hj).1;omega
end
end Rv
namespace Rv
open Go
theorem NY:((List.range 256).all fun k=>decide (Zbv.g (k:Int) true=some (isA (UInt8.ofNat k),()))&&decide (Zbv.g (k:Int) false=some (isW (UInt8.ofNat k),())))=true:=by decide +kernel
theorem GY(b:UInt8)(f:Bool):Zbv.g (b.toNat:Int) f=some (if f then isA b else isW b,()):=by
 have h:=UT.1 NY b.toNat (by simp;exact b.toNat_lt)
 simp at h;cases f;·exact h.2
 ·exact h.1
theorem FX(s:Str)(hs:s.length<=12)(n:Nat):∀(m i:Nat),1<=i->i<=s.length->s.length-i<m ->
  Zao.l4 n m s (s.length:Int) (i:Int)=if(s.drop i).all isW=true then Zao.l4 n 1 s (s.length:Int) (s.length:Int) else some (false,()):=by
 intro m
 induction m with
 |zero=>intro i _ _ h;omega
 |succ m ih=>
  intro i h0 hi hm;by_cases h1:i<s.length;·rw[Zao.l4,if_pos (by simp;omega),if_pos (by omega),uh,GY,Uv,eY h1,Vi];dsimp only;rw[if_neg (show ¬decide ((i:Int)=0)=true by simp;omega),w64 (by omega),show(i:Int)+1=((i+1:Nat):Int) by omega,ih (i+1) (by omega) (by omega) (by omega)];cases isW (s.getD i 0)<;>simp
  ·have hi':i=s.length:=by omega
   subst hi';rw[Vf,List.all_nil,if_pos rfl];have hlt:¬((s.length:Int)<s.length):=by omega
   simp only[Zao.l4,dt,hlt,if_false]
theorem oN(s:Str):Zao.g s=some (bZ s,()):=by
 unfold Zao.g Zao.f;simp only[dt,df];by_cases h0:s=[]
 ·subst h0;rw[if_neg (by simp)];rfl
 ·have hl0:0<s.length:=List.length_pos_iff.2 h0;rw[if_pos (by omega)];by_cases h12:s.length<=12
  ·rw[if_neg (by omega)];obtain⟨m,hm⟩:∃m,1000+s.length=m+1:=⟨999+s.length,by omega⟩
   rw[show Zao.l4 (1000+s.length) (1000+s.length) s (s.length:Int) 0=Zao.l4 (1000+s.length) (m+1) s (s.length:Int) 0 by rw[hm],Zao.l4,if_pos (by simp;omega),if_pos (by omega)];have hb0:bt s 0=((s.getD 0 0).toNat:Int):=rfl;rw[hb0,GY,Uv];dsimp only;have hdd:decide ((0:Int)=0)=true:=rfl;rw[hdd,if_pos (show true=true from rfl),show IntKind.i64.wrap ((0:Int)+1)=((1:Nat):Int) from rfl,FX s h12 (1000+s.length) m 1 (by omega) (by omega) (by omega)];have hall:s.all isW=(isW (s.getD 0 0)&&(s.drop 1).all isW):=by
    have:=eY (s:=s) (k:=0) hl0;rw[U3] at this
    conv=>lhs;rw[this]
    rw[Vi]
   unfold bZ;rw[decide_eq_true h0,decide_eq_true h12,hall];have hAW:isA (s.getD 0 0)=true->isW (s.getD 0 0)=true:=fun h=>by unfold isW;rw[TD,h];rfl
   cases hA:isA (s.getD 0 0) with
   |false=>rw[if_pos (by simp)];simp
   |true=>
    rw[if_neg (by simp),hAW hA];by_cases hw:(s.drop 1).all isW=true
    ·rw[if_pos hw,hw];simp only[Zao.l4,dt,df];rw[if_neg (by omega),if_pos (by omega),hb0];have h82:(((s.getD 0 0).toNat:Int)=82)=(s.getD 0 0=82):=kV _ 82 (by omega);simp only[h82];have htake:(s.take (s.length:Int).toNat).drop (1:Int).toNat=s.drop 1:=by
      rw[show(s.length:Int).toNat=s.length by omega,List.take_length];rfl
     have htrim:s.length<=3->L.trimO ((s.take (s.length:Int).toNat).drop (1:Int).toNat) [48,49,50,51,52,53,54,55,56,57]=some (L.trimDig (s.drop 1),()):=fun h=>by
      rw[htake];unfold L.trimO;rw[if_pos ⟨rfl,by simp;omega⟩]
     have hT:decide (L.trimDig (s.drop 1)=[])=(s.drop 1).all isD:=by
      rw[Bool.eq_iff_iff,UE,FI]
     unfold qD;by_cases hR:s.getD 0 0=82
     ·rw[if_pos hR,decide_eq_true hR];by_cases h2:s.length=2
      ·rw[if_neg (by omega),if_pos (by omega),htrim (by omega),Uv,decide_eq_true h2];dsimp only;rw[hT];simp
      ·rw[if_pos (by omega),decide_eq_false h2];by_cases h3:s.length=3
       ·rw[if_pos (by omega),if_pos (by omega),htrim (by omega),Uv,decide_eq_true h3];dsimp only;rw[hT];simp
       ·rw[if_neg (by omega),decide_eq_false h3];simp
     ·rw[if_neg hR,decide_eq_false hR];simp
    ·rw[if_neg hw,Bool.eq_false_iff.2 hw];simp
  ·rw[if_pos (by omega)];unfold bZ;rw[decide_eq_false h12];simp
end Rv
namespace Rv
open Go
theorem Jp{s:Str}(h:bZ s=true):1<=s.length/\s.length<=12:=by
 unfold bZ at h;simp only[UB,UE] at h;refine⟨?_,h.1.1.1.2⟩;cases s with
 |nil=>simp at h
 |cons _ _=>simp
end Rv
namespace Rv
open Go
abbrev zSy:Sym:=(([]:Str),((0:Int),()))
abbrev less(a b:Str):Bool:=Op.bytesLess a b
theorem qZ:∀a b:Str,(L.cmpR a b<0↔less a b=true)/\(L.cmpR a b=0↔a=b)
 |[],[]=>by simp[L.cmpR,Op.bytesLess]
 |[],_::_=>by simp[L.cmpR,Op.bytesLess]
 |_::_,[]=>by simp[L.cmpR,Op.bytesLess]
 |a::r,b::s=>by
  have ih:=qZ r s;unfold L.cmpR less Op.bytesLess;by_cases h1:a<b
  ·have:a≠b:=fun e=>by subst e;exact absurd h1 (UInt8.lt_irrefl a)
   simp[h1,this]
  ·by_cases h2:b<a
   ·have:a≠b:=fun e=>by subst e;exact absurd h2 (UInt8.lt_irrefl a)
    simp[h1,h2,this]
   ·have e:a=b:=UInt8.le_antisymm (UInt8.not_lt.1 h2) (UInt8.not_lt.1 h1);subst e;simp only[h1,if_false,decide_false,Bool.false_or,beq_self_eq_true,Bool.true_and,List.cons.injEq,true_and];exact ih
theorem jw:∀{a b c:Str},less a b=true->less b c=true->less a c=true
 |_,[],_,h,_=>by simp[Op.bytesLess] at h
 |_,_::_,[],_,h=>by simp[Op.bytesLess] at h
 |[],_::_,_::_,_,_=>by simp[Op.bytesLess]
 |a::x,b::y,c::z,h1,h2=>by
  simp only[less,Op.bytesLess,Bool.or_eq_true,UE,UB,beq_iff_eq] at h1 h2⊢;rcases h1 with h1|⟨rfl,h1⟩
  ·rcases h2 with h2|⟨rfl,h2⟩
   ·exact .inl (UInt8.lt_trans h1 h2)
   ·exact .inl h1
  ·rcases h2 with h2|⟨rfl,h2⟩
   ·exact .inl h2
   ·exact .inr ⟨rfl,jw h1 h2⟩
theorem lX(a:Str):less a a=false:=by
 have:=qZ a a;cases h:less a a with
 |false=>rfl
 |true=>
  have h1:=this.1.2 h;have h2:=this.2.2 rfl;omega
theorem Jk{a b:Str}(h:less a b=false)(hne:a≠b):less b a=true:=by
 induction a generalizing b with
 |nil=>cases b with
  |nil=>exact absurd rfl hne
  |cons b y=>simp[Op.bytesLess] at h
 |cons a x ih=>cases b with
  |nil=>simp[Op.bytesLess]
  |cons b y=>
   simp only[less,Op.bytesLess,Bool.or_eq_false_iff,decide_eq_false_iff_not,Bool.and_eq_false_iff,beq_eq_false_iff_ne,Bool.or_eq_true,UE,UB,beq_iff_eq] at h⊢;obtain⟨h1,h2⟩:=h;by_cases e:a=b;·subst e;refine .inr ⟨rfl,ih (h2.resolve_left (fun g=>g rfl)) fun e=>hne (by rw[e])⟩
   ·exact .inl (UInt8.lt_of_le_of_ne (UInt8.not_lt.1 h1) (Ne.symm e))
def fA(y:List Sym):Prop:=y.Pairwise fun a b=>less a.1 b.1=true
def kS:List Sym->Str->Nat
 |[],_=>0
 |x::r,s=>if less x.1 s=true then kS r s+1 else 0
theorem Je:∀(y:List Sym) (s:Str),kS y s<=y.length
 |[],_=>Uz _
 |x::r,s=>by unfold kS;split;exact Nat.succ_le_succ (Je r s);exact Nat.zero_le _
theorem Jd:∀{y:List Sym}{s:Str}{i:Nat},(∀t,t<i->less (y.getD t zSy).1 s=true)->i<=y.length->(i<y.length->less (y.getD i zSy).1 s=false)->kS y s=i
 |[],_,i,_,h,_=>by simp at h;subst h;rfl
 |x::r,s,0,_,_,h=>by
  have h:=h (by simp);have h:less x.1 s=false:=h;unfold kS;rw[if_neg (by rw[h];decide)]
 |x::r,s,i+1,h1,h2,h3=>by
  have h0:less x.1 s=true:=h1 0 (by omega);unfold kS;rw[if_pos h0,Jd (y:=r) (i:=i) (fun t ht=>by simpa using h1 (t+1) (by omega)) (by simpa using h2) (fun h=>by simpa using h3 (by simpa using h))]
theorem sO{y:List Sym}(hy:fA y){i j:Nat}(hij:i<j)(hj:j<y.length):less (y.getD i zSy).1 (y.getD j zSy).1=true:=by
 have:=List.pairwise_iff_getElem.1 hy i j (by omega) hj hij;rw[UH,UH,UF hj,UF (show i<y.length by omega)];exact this
def nM(y:List Sym)(s:Str):Bool:=decide (kS y s<y.length/\(y.getD (kS y s) zSy).1=s)
theorem CF{x:Int}(h:0<=x/\x<=9223372036854775807):IntKind.u64.wrap x=x:=by
 show(x % 2 ^ 64:Int)=x;omega
theorem Qr(a:Str)(b:Int)(c:Str):Zeq.g a b c=some (L.cmpR a c,()):=rfl
theorem P8(y:List Sym)(s:Str)(hy:fA y)(hl:y.length<=1000000)(n:Nat):∀(m i j:Nat),i<=j->j<=y.length->j-i<m->(∀t,t<i->less (y.getD t zSy).1 s=true)->(∀t,j<=t->t<y.length->less (y.getD t zSy).1 s=false) ->
  Zca.l3 n m y s (y.length:Int) (i:Int) (j:Int)=some ((kS y s:Int),nM y s,()):=by
 intro m
 induction m with
 |zero=>intro i j _ _ h;omega
 |succ m ih=>
  intro i j hij hj hm h1 h2;rw[Zca.l3];have hmid:IntKind.i64.wrap ((IntKind.u64.wrap (IntKind.i64.wrap ((i:Int)+(j:Int)))).fdiv (2 ^ (min (1:Int).toNat IntKind.u64.bits)))=(((i+j) / 2:Nat):Int):=by
   show IntKind.i64.wrap ((IntKind.u64.wrap (IntKind.i64.wrap ((i:Int)+(j:Int)))).fdiv 2)=_;rw[w64 (x:=(i:Int)+(j:Int)) (by omega),Int.fdiv_eq_ediv_of_nonneg _ (by decide),CF (by omega),w64 (by omega)];omega
  rw[hmid];simp only[dt,UL,Qr,Uv];by_cases h:i<j
  ·rw[if_pos (by omega),if_pos (by omega)];generalize hq:(i+j) / 2=q;have hc:=(qZ (y.getD q zSy).1 s).1;by_cases hlt:less (y.getD q zSy).1 s=true
   ·rw[if_pos (hc.2 hlt),w64 (by omega),show(q:Int)+1=((q+1:Nat):Int) by omega];refine ih (q+1) j (by omega) hj (by omega) (fun t ht=>?_) h2;by_cases e:t=q
    ·rw[e];exact hlt
    ·exact jw (sO hy (show t<q by omega) (by omega)) hlt
   ·rw[if_neg (fun g=>hlt (hc.1 g))];refine ih i q (by omega) (by omega) (by omega) h1 fun t ht htl=>?_
    have hf:less (y.getD q zSy).1 s=false:=by simpa using hlt
    by_cases e:t=q;·rw[e];exact hf
    ·cases ht2:less (y.getD t zSy).1 s with
     |false=>rfl
     |true=>rw[jw (sO hy (show q<t by omega) htl) ht2] at hf;cases hf
  ·obtain rfl:i=j:=by omega
   have hk:kS y s=i:=Jd h1 hj (fun h=>h2 i (by omega) h);rw[if_neg (by omega)];unfold nM;rw[hk];by_cases hl2:i<y.length;·rw[if_pos (by omega),if_pos (by omega)];have:=(qZ (y.getD i zSy).1 s).2;congr 3;rw[Bool.eq_iff_iff,UE,UE,this];exact⟨fun h=>⟨hl2,h⟩,fun h=>h.2⟩
   ·rw[if_neg (by omega),decide_eq_false (fun h=>hl2 h.1)]
theorem Tz(y:List Sym)(s:Str)(hy:fA y)(hl:y.length<=1000000):Zca.g y s=some ((kS y s:Int),nM y s,()):=by
 unfold Zca.g Zca.f;exact P8 y s hy hl _ _ 0 y.length (by omega) (by omega) (by omega) (fun t h=>by omega) (fun t h h2=>by omega)
def pI(y:List Sym)(x:Sym):List Sym:=y.take (kS y x.1)++[x]++y.drop (kS y x.1)
theorem Ap:∀{y:List Sym}{s:Str},∀a∈y.take (kS y s),less a.1 s=true
 |[],_,a,h=>by simp at h
 |x::r,s,a,h=>by
  unfold kS at h;split at h
  ·rename_i hx;rw[List.take_succ_cons,UG] at h;rcases h with rfl|h
   ·exact hx
   ·exact Ap a h
  ·simp at h
theorem QJ{y:List Sym}{s:Str}(hy:fA y)(hs:nM y s=false):∀a∈y.drop (kS y s),less s a.1=true:=by
 intro a ha;obtain⟨j,hj,rfl⟩:=List.getElem_of_mem ha;rw[U5] at hj;rw[List.getElem_drop];have hk:kS y s<y.length:=by omega
 unfold nM at hs;rw[decide_eq_false_iff_not] at hs;have hne:(y.getD (kS y s) zSy).1≠s:=fun e=>hs ⟨hk,e⟩
 have hnl:less (y.getD (kS y s) zSy).1 s=false:=by
  have gen:∀(y:List Sym),kS y s<y.length->less (y.getD (kS y s) zSy).1 s=false:=by
   intro y
   induction y with
   |nil=>intro h;simp at h
   |cons x r ih=>
    intro h;unfold kS at h⊢;split;·rename_i hx;rw[if_pos hx] at h;simpa using ih (by simpa using h)
    ·rename_i hx;simpa using hx
  exact gen y hk
 have h0:=Jk hnl hne;by_cases e:j=0;·subst e;rw[UH,UF hk] at h0;exact h0
 ·have:=sO hy (show kS y s<kS y s+j by omega) (by omega);have:=jw h0 this;rw[UH,UF (show kS y s+j<y.length by omega)] at this;exact this
theorem I8{y:List Sym}{x:Sym}(hy:fA y)(hs:nM y x.1=false):fA (pI y x):=by
 unfold fA pI;rw[List.pairwise_append];have h1:(y.take (kS y x.1)).Pairwise fun a b=>less a.1 b.1=true:=hy.sublist (List.take_sublist _ _)
 have h2:(y.drop (kS y x.1)).Pairwise fun a b=>less a.1 b.1=true:=hy.sublist (List.drop_sublist _ _)
 refine⟨?_,h2,?_⟩;·rw[List.pairwise_append];exact⟨h1,List.pairwise_singleton _ _,fun a ha b hb=>by rw[UV.1 hb];exact Ap a ha⟩
 ·intro a ha b hb;have hxb:=QJ hy hs b hb;rcases UK.1 ha with h|h
  ·exact jw (Ap a h) hxb
  ·rw[UV.1 h];exact hxb
theorem QG(y:List Sym)(x:Sym):(pI y x).length=y.length+1:=by
 have:=Je y x.1;unfold pI;simp only[UD,U1,U5,List.length_singleton];omega
end Rv
namespace Rv
open Go
theorem Jo{a:List Sym}{i:Nat}(h:i<a.length):a.getD i zSy∈a:=by
 rw[UH,UF h];exact Vg h
structure OkO (ws ss:List Int) (ys:List Sym):Prop extends OkS ws ss where
 bey:∀i,i<ss.length->ws.getD (ss.getD i 0).toNat 0<=4*(ws.length:Int)
 nm:∀x∈ys,bZ x.1=true
 srt:fA ys
 sat_:∀x∈ys,0<=x.2.1/\x.2.1<=4*(ws.length:Int)/\x.2.1 % 4=0
 ly:ys.length<=64
section
variable{ws ss:List Int}{ys:List Sym}(O:OkO ws ss ys)
include O
theorem QV(n:Nat):∀(m i:Nat),i<=ss.length->ss.length-i<m->Zck.l2 n m ss (ss.length:Int) (i:Int) ws ss ys (4*(ws.length:Int))=some (-1,ws,ss,ys,4*(ws.length:Int),()):=by
 intro m
 induction m with
 |zero=>intro i _ h;omega
 |succ m ih=>
  intro i hi hm;have hl:=O.toOkS.len;have hlw:=O.lw;rw[Zck.l2];simp only[dt,UL];by_cases h:i<ss.length
  ·have hs:=O.at_ i h;have hb:=O.bey i h;have hx:0<=ws.getD (ss.getD i 0).toNat 0:=by
    rw[UH,UF (by omega)];exact(O.wr _ (Vg _)).1
   unfold Zej.g Zej.f;rw[if_pos (by omega),if_pos (by omega),if_pos hs,Uv,w64 (by omega)];dsimp only;rw[if_neg (by simpa using hb),w64 (by omega)];exact ih (i+1) (by omega) (by omega)
  ·rw[if_neg (by omega)]
theorem QW(n:Nat):∀(m i:Nat),i<=ys.length->ys.length-i<m->Zcl.l2 n m ys (ys.length:Int) (i:Int) (4*(ws.length:Int))=some (-1,4*(ws.length:Int),()):=by
 intro m
 induction m with
 |zero=>intro i _ h;omega
 |succ m ih=>
  intro i hi hm;have hl:=O.ly;have hlw:=O.lw;rw[Zcl.l2];simp only[dt,UL];by_cases h:i<ys.length
  ·have hs:=O.sat_ _ (Jo h);generalize ys.getD i zSy=x at hs;unfold Zek.g Zek.f;simp only[df];rw[if_pos (by omega),if_pos (by omega),if_pos (by omega),if_pos (by omega),Uv];dsimp only;have ht:Int.tmod x.2.1 4=0:=by rw[Vl hs.1];exact hs.2.2
   rw[if_neg (by simp[ht]),w64 (by omega)];exact ih (i+1) (by omega) (by omega)
  ·rw[if_neg (by omega)]
theorem Sw(n:Nat):∀(m i:Nat),i<=ys.length->ys.length-i<m->Zbh.l2 n m ys (ys.length:Int) (i:Int) ws ss ys=some (true,ws,ss,ys,()):=by
 intro m
 induction m with
 |zero=>intro i _ h;omega
 |succ m ih=>
  intro i hi hm;have hl:=O.ly;rw[Zbh.l2];unfold Zbh.j6;simp only[dt,UL];by_cases h:i<ys.length
  ·have hn:=O.nm _ (Jo h);rw[if_pos (by omega),if_pos (by omega),oN,Uv,hn];dsimp only;rw[if_pos (by simp)];have w:IntKind.i64.wrap ((i:Int)+1)=((i+1:Nat):Int):=by rw[w64 (by omega)];omega
   rw[w];by_cases h0:0<i
   ·have w1:IntKind.i64.wrap ((i:Int)-1)=((i-1:Nat):Int):=by rw[w64 (by omega)];omega
    have hlt:less (ys.getD (i-1) zSy).1 (ys.getD i zSy).1=true:=by
     have hp:=List.pairwise_iff_getElem.1 O.srt (i-1) i (by omega) h (by omega);rw[UH,UF (by omega),UH,UF h];exact hp
    have hno:¬((Op.bytesLess (ys.getD i zSy).1 (ys.getD (i-1) zSy).1||decide ((ys.getD i zSy).1=(ys.getD (i-1) zSy).1))=true):=by
     rw[Bool.or_eq_true,UE];rintro(hh|hh);·have:=jw hlt hh;rw[lX] at this;cases this
     ·rw[hh,lX] at hlt;cases hlt
    rw[if_pos (by omega),w1,UL,if_pos (by omega),if_neg hno];exact ih (i+1) (by omega) (by omega)
   ·rw[if_neg (by omega)];exact ih (i+1) (by omega) (by omega)
  ·rw[if_neg (by omega)]
theorem Hl:Zcc.g ws ss ys=some (0,()):=by
 have hlw:=O.lw;have hly:=O.ly;have hls:=O.toOkS.len;unfold Zcc.g;generalize 1000+ws.length+ss.length+ys.length=n;unfold Zcc.f;have w4:IntKind.i64.wrap ((4:Int)*(ws.length:Int))=4*(ws.length:Int):=w64 (by omega);have c52:Zdn.g ss ws ss ys (4*(ws.length:Int))=some (false,ws,ss,ys,4*(ws.length:Int),()):=by
  unfold Zdn.g Zdn.f Zck.g Zck.f;have:=QV O (1000+ss.length+ws.length+ss.length+ys.length+(4*(ws.length:Int)).toNat) (1000+ss.length+ws.length+ss.length+ys.length+(4*(ws.length:Int)).toNat) 0 (by omega) (by omega);rw[show((0:Nat):Int)=0 from rfl] at this;rw[this];rfl
 have c3:Zbh.g ws ss ys=some (true,ws,ss,ys,()):=by
  unfold Zbh.g Zbh.f;exact Sw O _ _ 0 (by omega) (by omega)
 have c53:Zdo.g ys (4*(ws.length:Int))=some (false,4*(ws.length:Int),()):=by
  unfold Zdo.g Zdo.f Zcl.g Zcl.f;have:=QW O (1000+ys.length+(4*(ws.length:Int)).toNat) (1000+ys.length+(4*(ws.length:Int)).toNat) 0 (by omega) (by omega);rw[show((0:Nat):Int)=0 from rfl] at this;rw[this];rfl
 simp only[dt,df];rw[if_pos (by omega),if_neg (by omega),Rk O.toOkS,Uv];dsimp only;rw[if_neg (by decide),w4,c52,Uv];dsimp only;rw[if_neg (by decide),c3,Uv];dsimp only;rw[if_neg (by decide),c53,Uv];rfl
end
section
variable{ws ss:List Int}{ys:List Sym}(O:OkO ws ss ys)
include O
end
end Rv
namespace Rv
open Go
theorem rf{x z:Int}:∀{l:List Int},z∈L.insN x l↔z=x\/z∈l
 |[]=>by simp[L.insN]
 |y::r=>by
  rw[L.insN];split;·simp
  ·split
   ·rename_i h;subst h;simp
   ·rw[UG,rf (l:=r),UG];exact or_left_comm
theorem xA{x:Int}:∀{l:List Int},l.Pairwise (· < ·)->(L.insN x l).Pairwise (· < ·)
 |[],_=>by simp[L.insN]
 |y::r,h=>by
  rw[L.insN];have h':=List.pairwise_cons.1 h;split
  ·rename_i hx;refine List.pairwise_cons.2 ⟨fun z hz=>?_,h⟩;rcases UG.1 hz with rfl|hz
   ·exact hx
   ·have:=h'.1 z hz;omega
  ·split
   ·exact h
   ·refine List.pairwise_cons.2 ⟨fun z hz=>?_,xA h'.2⟩;rcases rf.1 hz with rfl|hz
    ·omega
    ·exact h'.1 z hz
def sK(ws:List Int)(s:Int):Int:=if ws.getD s.toNat 0 % 4=0 then ws.getD s.toNat 0 else 0
def plS(ws:List Int):List Int->List Int->List Int
 |[],acc=>acc
 |s::r,acc=>plS ws r (L.insN (sK ws s) acc)
def plJ(ws ss:List Int):Nat->Nat->List Int->List Int
 |0,_,acc=>acc
 |n+1,i,acc=>plJ ws ss n (i+1) (if(eF ws ss i).2.1=true then L.insN (eF ws ss i).1 acc else acc)
def plR(ws ss:List Int):List Int:=plJ ws ss ws.length 0 (plS ws ss [])
theorem Hy(ws:List Int){x:Int}:∀{l acc:List Int},x∈plS ws l acc↔x∈acc\/∃s∈l,x=sK ws s
 |[],acc=>by simp[plS]
 |s::r,acc=>by
  rw[plS,Hy ws (l:=r),rf];simp only[UG,exists_eq_or_imp];constructor
  ·rintro((h|h)|h)
   ·exact .inr (.inl h)
   ·exact .inl h
   ·exact .inr (.inr h)
  ·rintro(h|h|h)
   ·exact .inl (.inr h)
   ·exact .inl (.inl h)
   ·exact .inr h
theorem Ht(ws ss:List Int){x:Int}:∀{n i:Nat}{acc:List Int},x∈plJ ws ss n i acc↔x∈acc\/∃k,i<=k/\k<i+n/\(eF ws ss k).2.1=true/\x=(eF ws ss k).1
 |0,i,acc=>by
  rw[plJ];exact⟨.inl,fun h=>h.elim id fun⟨k,h1,h2,_⟩=>by omega⟩
 |n+1,i,acc=>by
  rw[plJ,Ht ws ss (n:=n)];have h0:x∈(if(eF ws ss i).2.1=true then L.insN (eF ws ss i).1 acc else acc)↔x∈acc\/((eF ws ss i).2.1=true/\x=(eF ws ss i).1):=by
   split;·rename_i h;rw[rf];exact⟨fun g=>g.elim (fun g=>.inr ⟨h,g⟩) .inl,fun g=>g.elim .inr fun g=>.inl g.2⟩
   ·rename_i h;exact⟨.inl,fun g=>g.elim id fun g=>absurd g.1 h⟩
  rw[h0];constructor
  ·rintro((h|h)|⟨k,h1,h2,h3⟩)
   ·exact .inl h
   ·exact .inr ⟨i,Uz _,by omega,h⟩
   ·exact .inr ⟨k,by omega,by omega,h3⟩
  ·rintro(h|⟨k,h1,h2,h3⟩)
   ·exact .inl (.inl h)
   ·rcases Nat.eq_or_lt_of_le h1 with rfl|h1
    ·exact .inl (.inr h3)
    ·exact .inr ⟨k,h1,by omega,h3⟩
theorem Hz(ws:List Int):∀{l acc:List Int},acc.Pairwise (· < ·)->(plS ws l acc).Pairwise (· < ·)
 |[],_,h=>h
 |s::r,acc,h=>by rw[plS];exact Hz ws (xA h)
theorem Hu(ws ss:List Int):∀{n i:Nat}{acc:List Int},acc.Pairwise (· < ·)->(plJ ws ss n i acc).Pairwise (· < ·)
 |0,_,_,h=>h
 |n+1,i,acc,h=>by
  rw[plJ];refine Hu ws ss ?_;split;·exact xA h
  ·exact h
theorem Hw(ws ss:List Int):(plR ws ss).Pairwise (· < ·):=Hu ws ss (Hz ws List.Pairwise.nil)
theorem AJ(ws ss:List Int){x:Int}:x∈plR ws ss↔(∃s∈ss,x=sK ws s)\/∃k,k<ws.length/\(eF ws ss k).2.1=true/\x=(eF ws ss k).1:=by
 unfold plR;rw[Ht,Hy];simp
section
variable{ws ss:List Int}{ys:List Sym}(O:OkO ws ss ys)
include O
theorem OkO.ok:zU ws ss:=⟨by have:=O.lw;omega,by have:=O.lw;have:=O.toOkS.len;omega,O.wr⟩
theorem OkO.site{s:Int}(h:s∈ss):(0<=s/\s<(ws.length:Int))/\0<=ws.getD s.toNat 0/\ws.getD s.toNat 0<=4*(ws.length:Int):=by
 obtain⟨i,hi,rfl⟩:=List.getElem_of_mem h;have h1:=O.at_ i hi;have h2:=O.bey i hi;have e:ss.getD i 0=ss[i]:=by rw[UH,UF hi];rfl
 rw[e] at h1 h2;refine⟨h1,?_,h2⟩;rw[UH,UF (by omega)];exact(O.wr _ (Vg _)).1
theorem LB{x:Int}(h:x∈plR ws ss):∃k:Nat,x=4*(k:Int)/\k<=ws.length:=by
 rcases(AJ ws ss).1 h with⟨s,hs,rfl⟩|⟨k,hk,h1,rfl⟩
 ·obtain⟨_,h2,h3⟩:=O.site hs;unfold sK;split
  ·exact⟨(ws.getD s.toNat 0 / 4).toNat,by omega,by omega⟩
  ·exact⟨0,rfl,Nat.zero_le _⟩
 ·unfold eF at h1⊢;split at h1
  ·rename_i hc;rw[if_pos hc];exact⟨((k:Int)+1+(jX (ws.getD k 0)).2.2.2.2.2.1).toNat,by dsimp only;omega,by omega⟩
  ·cases h1
theorem GX:∀(l acc:List Int),(∀s∈l,s∈ss)->L.labS ws l acc=some (plS ws l acc)
 |[],acc,_=>rfl
 |s::r,acc,h=>by
  obtain⟨h1,h2,h3⟩:=O.site (h s (by simp));have hs:s.toNat<ws.length:=by omega
  have hg:ws.getD s.toNat 0=ws[s.toNat]:=by rw[UH,UF hs];rfl
  have hr:=O.wr _ (Vg hs);rw[L.labS,if_pos h1.1,UF hs];dsimp only;rw[if_pos hr,GX r _ fun t ht=>h t (by simp[ht]),plS];unfold sK;rw[hg]
theorem Ar:∀(n i:Nat) (acc:List Int),i+n<=100000->L.labJ (Zcj.g ws ss ys) n (i:Int) acc=some (plJ ws ss n i acc)
 |0,i,acc,_=>rfl
 |n+1,i,acc,h=>by
  rw[L.labJ,DW O.ok ys i (by omega)];obtain⟨x,b,u,hj⟩:∃x b u,eF ws ss i=(x,b,u):=⟨_,_,_,rfl⟩
  rw[hj];dsimp only;have hx:b=true->-9223372036854775808<=x/\x<=9223372036854775807:=fun hb=>by
   unfold eF at hj;split at hj;·cases hj;have:=O.lw;omega
   ·cases hj;cases hb
  rw[plJ,hj,show(i:Int)+1=((i+1:Nat):Int) by omega];by_cases hb:b=true;·rw[if_pos hb,if_pos (hx hb),if_pos hb];exact Ar n (i+1) _ (by omega)
  ·rw[if_neg hb,if_neg hb];exact Ar n (i+1) _ (by omega)
theorem Kv:Zei.g ws ss ys=some (plR ws ss,0,()):=by
 have h1:=O.ok.w;have h2:=O.ok.s;unfold Zei.g L.labelOfO;rw[Hl O];dsimp only;rw[if_pos rfl,if_pos ⟨by omega,by omega⟩,GX O ss [] fun s h=>h];dsimp only;rw[show(0:Int)=((0:Nat):Int) from rfl,Ar O ws.length 0 _ (by omega)];rfl
end
end Rv
namespace Rv
open Go
def xZ(a b low high:Int):Int×Int×Unit:=if low<=a/\a<=high then(a,0,()) else if low<=b/\b<=high then(b,0,()) else(0,28,())
theorem Ow(n m:Nat)(a b low high:Int):Zar.l7 n (m+3) low high a b 0=some (xZ a b low high):=by
 have e2:Zar.l7 n (m+1) low high a b 2=some (0,28,()):=by
  simp only[Zar.l7,dt];rw[if_neg (by decide)]
 have e1:Zar.l7 n (m+2) low high a b 1=some (if low<=b/\b<=high then(b,0,()) else(0,28,())):=by
  rw[Zar.l7];simp only[dt,Zar.j11];rw[if_pos (by decide),if_pos (by decide),show([a,b].getD (1:Int).toNat 0)=b from rfl,show IntKind.i64.wrap (1+1)=2 by decide,e2];by_cases h1:low<=b
  ·by_cases h2:b<=high
   ·rw[if_pos h1,if_pos h2,if_pos ⟨h1,h2⟩]
   ·rw[if_pos h1,if_neg h2,if_neg (fun h=>h2 h.2)]
  ·rw[if_neg h1,if_neg (fun h=>h1 h.1)]
 rw[Zar.l7];simp only[dt,Zar.j11];rw[if_pos (by decide),if_pos (by decide),show([a,b].getD (0:Int).toNat 0)=a from rfl,show IntKind.i64.wrap (0+1)=1 by decide,e1];unfold xZ;by_cases h1:low<=a
 ·by_cases h2:a<=high
  ·rw[if_pos h1,if_pos h2,if_pos ⟨h1,h2⟩]
  ·rw[if_pos h1,if_neg h2,if_neg (show ¬(low<=a/\a<=high) from fun h=>h2 h.2)]
 ·rw[if_neg h1,if_neg (show ¬(low<=a/\a<=high) from fun h=>h1 h.1)]
theorem J5(e:List Item)(labels:List Sym)(low high v1 v2 x:Int)(h:Zai.g e labels=some (v1,v2,x,())) :
  Zar.g e labels low high=some (if x≠0 then(0,x,()) else if v2≠0 then(0,27,()) else xZ (IntKind.i64.wrap (IntKind.i32.wrap v1)) (IntKind.i64.wrap v1) low high):=by
 unfold Zar.g Zar.f;rw[h,Uv];simp only[dt];have z:¬((0:Int)≠0):=by decide
 by_cases h1:x=0
 ·subst h1;rw[if_neg z,if_neg z];by_cases h2:v2=0
  ·subst h2;rw[if_neg z,if_neg z];have:∀k,3<=k->Zar.l7 k k low high (IntKind.i64.wrap (IntKind.i32.wrap v1)) (IntKind.i64.wrap v1) 0=some (xZ (IntKind.i64.wrap (IntKind.i32.wrap v1)) (IntKind.i64.wrap v1) low high):=fun k hk=>by
    obtain⟨m,rfl⟩:∃m,k=m+3:=⟨k-3,by omega⟩
    exact Ow _ m _ _ _ _
   exact this _ (by omega)
  ·rw[if_pos (show v2≠0 from h2),if_pos (show v2≠0 from h2)]
 ·rw[if_pos (show x≠0 from h1),if_pos (show x≠0 from h1)]
end Rv
namespace Rv
open Go
end Rv
namespace Rv
open Go
section
variable{W X:W32}
end
def pu(k o a b c i:Int)(u:Bool):Int×Int×Unit:=if I0P k o a b c u/\gG k o i u/\(0<=a/\a<16)/\(0<=b/\b<16)/\(0<=c/\c<16) then(((aQ k o a b c i u).toNat:Int),0,()) else(0,1,())
theorem rC(k o a b c i:Int)(u:Bool):(bB k o a b c u/\gG k o i u)↔I0P k o a b c u/\gG k o i u/\(0<=a/\a<16)/\(0<=b/\b<16)/\(0<=c/\c<16):=by
 constructor;·rintro⟨h,hi⟩;obtain⟨ha,hb,hc⟩:=I6 h;exact⟨(GN ha hb hc).1 h,hi,ha,hb,hc⟩
 ·rintro⟨h,hi,ha,hb,hc⟩;exact⟨(GN ha hb hc).2 h,hi⟩
theorem GR(k o a b c i:Int)(u:Bool):Zby.g k o a b c i u=some (pu k o a b c i u):=by
 unfold pu;by_cases h:I0P k o a b c u/\gG k o i u/\(0<=a/\a<16)/\(0<=b/\b<16)/\(0<=c/\c<16)
 ·rw[if_pos h];obtain⟨h1,h2⟩:=(rC k o a b c i u).2 h;unfold Zby.g Zby.f;rw[KW h1 h2,Uv];dsimp only;rw[if_neg (by decide),lu,Uv]
 ·rw[if_neg h];obtain⟨r,hr,_⟩:=BN k o a b c i u;have:r=false:=by
   cases r with
   |false=>rfl
   |true=>exact absurd ((rC k o a b c i u).1 (BM hr)) h
  subst this;unfold Zby.g Zby.f;rw[hr,Uv];rfl
end Rv
namespace Rv
open Go
def uq(k o a b c i:Int)(u:Bool):Except Int (Int×Bool):=if(pu k o a b c i u).2.1=0 then .ok ((pu k o a b c i u).1,false) else .error (pu k o a b c i u).2.1
def uP(lb:List Sym)(e:List Item)(low high:Int):Int×Int×Unit:=
 if(vOf lb e).2.2.1≠0 then(0,(vOf lb e).2.2.1,()) else if(vOf lb e).2.1≠0 then(0,27,()) else xZ (IntKind.i64.wrap (IntKind.i32.wrap (vOf lb e).1)) (IntKind.i64.wrap (vOf lb e).1) low high
def xD(v pl:Int):Int:=IntKind.i64.wrap (IntKind.i32.wrap (IntKind.u32.wrap (IntKind.u32.wrap (v-IntKind.u32.wrap pl)-4)))
def D6(v ad pl:Int):Int×Int×Unit:=
 if ad≠1 then(0,27,()) else if Int.tmod (xD v pl) 4≠0\/IntKind.i64.wrap (Int.tdiv (xD v pl) 4) < -8388608\/8388608<=IntKind.i64.wrap (Int.tdiv (xD v pl) 4) then(0,28,())
 else(IntKind.i64.wrap (Int.tdiv (xD v pl) 4),0,())
def tY(n ad words:Int):Int:=if ad<0\/1<ad then 27 else if ad=1/\IntKind.i64.wrap (4*words)<IntKind.i64.wrap n then 28 else 0
abbrev Snt:=Int×Int×Int×Int×Int×Bool×List Item×Str×Unit
def kJ(k o a b c:Int)(r:Int×Int×Unit)(u:Bool):Except Int (Int×Bool):=if r.2.1≠0 then .error r.2.1 else uq k o a b c r.1 u
def jV(lb:List Sym)(q:List Val)(fr wd:Int)(s:Snt)(pl:Int):Except Int (Int×Bool):=
 if s.1=2 then kJ s.1 s.2.1 s.2.2.1 s.2.2.2.1 s.2.2.2.2.1 (uP lb s.2.2.2.2.2.2.1 (if s.2.1=0/\s.2.2.2.2.2.1=true then 0 else -65536) 65535) s.2.2.2.2.2.1
 else if s.1=5 then kJ s.1 s.2.1 s.2.2.1 s.2.2.2.1 s.2.2.2.2.1 (uP lb s.2.2.2.2.2.2.1 (-524288) 524287) s.2.2.2.2.2.1
 else if s.1=7 then
  (if(vOf lb s.2.2.2.2.2.2.1).2.2.1≠0 then .error (vOf lb s.2.2.2.2.2.2.1).2.2.1 else kJ s.1 s.2.1 s.2.2.1 s.2.2.2.1 s.2.2.2.2.1 (D6 (vOf lb s.2.2.2.2.2.2.1).1 (vOf lb s.2.2.2.2.2.2.1).2.1 pl) s.2.2.2.2.2.1)
 else if s.1=8 then
  (if(vOf lb s.2.2.2.2.2.2.1).2.2.1≠0 then .error (vOf lb s.2.2.2.2.2.2.1).2.2.1
  else kJ 5 0 s.2.2.1 13 0 (IntKind.i64.wrap (fr+IntKind.i64.wrap (4*(yg ((vOf lb s.2.2.2.2.2.2.1).1,(vOf lb s.2.2.2.2.2.2.1).2.1,()) q:Int))),tY (vOf lb s.2.2.2.2.2.2.1).1 (vOf lb s.2.2.2.2.2.2.1).2.1 wd,()) false)
 else if s.1=9 then
  (if(vOf lb s.2.2.2.2.2.2.1).2.2.1≠0 then .error (vOf lb s.2.2.2.2.2.2.1).2.2.1
  else if tY (vOf lb s.2.2.2.2.2.2.1).1 (vOf lb s.2.2.2.2.2.2.1).2.1 wd≠0 then .error (tY (vOf lb s.2.2.2.2.2.2.1).1 (vOf lb s.2.2.2.2.2.2.1).2.1 wd)
  else .ok ((vOf lb s.2.2.2.2.2.2.1).1,decide ((vOf lb s.2.2.2.2.2.2.1).2.1=1)))
 else uq s.1 s.2.1 s.2.2.1 s.2.2.2.1 s.2.2.2.2.1 0 s.2.2.2.2.2.1
abbrev WrT:=List Int×List Int×List Sym
def kR(r:WrT)(w:Int)(st:Bool):WrT:=(r.1++[w],if st=true then r.2.1++[(r.1.length:Int)] else r.2.1,r.2.2)
def lh(lb:List Sym)(nm:Str)(y:List Sym):Except Int (List Sym):=
 if bZ nm=false then .error 9 else if(bC nm lb).isSome=false then .error 25 else if nM y nm=true then .error 26 else .ok (pI y (nm,(bC nm lb).getD 0,()))
def gF(lb:List Sym)(q:List Val)(fr wd:Int)(s:Snt)(pl:Int)(r:WrT):Except Int WrT:=
 if s.1=0 then .ok r
 else if s.1=10 then(match lh lb s.2.2.2.2.2.2.2.1 r.2.2 with | .error x=>.error x | .ok y=>.ok (r.1,r.2.1,y))
 else match jV lb q fr wd s pl with | .error x=>.error x | .ok w=>.ok (kR r w.1 w.2)
abbrev Uc:=Int×List Int×List Sym×List Val×Int×Int×List Int×List Int×List Sym×Unit
def yc(t:List Int)(lb:List Sym)(q:List Val)(fr wd:Int)(r:WrT):Except Int WrT->Uc
 | .error x=>(x,t,lb,q,fr,wd,r.1,r.2.1,r.2.2,())
 | .ok r'=>(0,t,lb,q,fr,wd,r'.1,r'.2.1,r'.2.2,())
theorem GD(k o a b c i:Int)(u:Bool){x:Int}(h:uq k o a b c i u=.error x):x≠0:=by
 grind [uq]
section
variable(t:List Int)(lb:List Sym)(q:List Val)(fr wd:Int)(r:WrT)
theorem xw(h1:r.1.length<=1000000)(h2:r.2.1.length<=1000000)(v ad:Int) :
  Zbp.g v ad t lb q fr wd r.1 r.2.1 r.2.2=some (t,lb,q,fr,wd,(kR r v (decide (ad=1))).1,(kR r v (decide (ad=1))).2.1,(kR r v (decide (ad=1))).2.2,()):=by
 unfold Zbp.g Zbp.f Zbp.j3 kR
 grind
theorem Ke(h1:r.1.length<=1000000)(h2:r.2.1.length<=1000000)(k o a b c i:Int)(u:Bool) :
  Zeg.g k o a b c i u t lb q fr wd r.1 r.2.1 r.2.2=some (yc t lb q fr wd r (match uq k o a b c i u with | .error x=>.error x | .ok w=>.ok (kR r w.1 w.2))):=by
 unfold Zeg.g Zeg.f uq;rw[GR,Uv];simp only[dt];by_cases h:(pu k o a b c i u).2.1=0;·simp_all [xw,yc]
 ·rw[if_neg h,if_neg h];rfl
theorem Gt(v ad:Int):Zdm.g v ad t lb q fr wd r.1 r.2.1 r.2.2=some (tY v ad wd,t,lb,q,fr,wd,r.1,r.2.1,r.2.2,()):=by
 unfold Zdm.g Zdm.f tY
 grind
theorem PZ(v ad pl:Int):Zeh.g v ad pl=some (D6 v ad pl):=by
 unfold Zeh.g Zeh.f D6;simp only[dt,df];rw[show IntKind.i64.wrap (IntKind.i32.wrap (IntKind.u32.wrap (IntKind.u32.wrap (v-IntKind.u32.wrap pl)-4)))=xD v pl from rfl]
 grind
theorem Iz(hy:fA r.2.2)(hl:r.2.2.length<=1000000)(hlb:lb.length<=1000000)(nm:Str) :
  Zef.g nm t lb q fr wd r.1 r.2.1 r.2.2=some (yc t lb q fr wd r (match lh lb nm r.2.2 with | .error x=>.error x | .ok y=>.ok (r.1,r.2.1,y))):=by
 unfold Zef.g Zef.f lh;rw[Ai lb nm (by omega),Uv,Tz r.2.2 nm hy hl,Uv,oN,Uv];dsimp only;cases bZ nm with
 |false=>rfl
 |true=>
  cases(bC nm lb).isSome with
  |false=>rfl
  |true=>
   cases hi:nM r.2.2 nm with
   |true=>rfl
   |false=>
    have hk:=Je r.2.2 nm;have e:L.insertO r.2.2 (kS r.2.2 nm:Int) [(nm,(bC nm lb).getD 0,())]=some (pI r.2.2 (nm,(bC nm lb).getD 0,()),()):=by
     unfold L.insertO;rw[if_pos ⟨by omega,by omega,rfl,by omega⟩];rfl
    simp only[Bool.not_true,Bool.false_eq_true,if_false];rw[e];rfl
theorem P6(hlb:lb.length<=1000000)(e:List Item)(he:e.length<=4611686018427387904)(low high:Int):Zar.g e lb low high=some (uP lb e low high):=by
 obtain⟨v1,v2,x,h⟩:=Hf lb e;rw[J5 e lb low high v1 v2 x (by grind [Js])]
 grind [uP,vOf]
theorem RZ(hlb:lb.length<=1000000)(e:List Item)(he:e.length<=4611686018427387904):Zai.g e lb=some (vOf lb e):=by
 grind [Js,Hg]
theorem MW(h1:r.1.length<=1000000)(h2:r.2.1.length<=1000000)(hy:fA r.2.2)(hl:r.2.2.length<=1000000)(hlb:lb.length<=1000000)(hq:q.length<=1000000)(s:Snt)(he:s.2.2.2.2.2.2.1.length<=4611686018427387904)(pl:Int) :
  Zan.g s.1 s.2.1 s.2.2.1 s.2.2.2.1 s.2.2.2.2.1 s.2.2.2.2.2.1 s.2.2.2.2.2.2.1 s.2.2.2.2.2.2.2.1 pl t lb q fr wd r.1 r.2.1 r.2.2=some (yc t lb q fr wd r (gF lb q fr wd s pl r)):=by
 obtain⟨k,o,a,b,c,u,e,nm,z⟩:=s;dsimp only at he⊢;unfold Zan.g;generalize 1000+_+_+_+_+_+_+_+_+_+_+_+_+_+_+_+_=n;have J32:∀(x k o a b c i:Int) (u:Bool),Zan.j32 n t lb q fr wd r.1 r.2.1 r.2.2 x k o a b c i u=some (yc t lb q fr wd r (match kJ k o a b c (i,x,()) u with | .error x=>.error x | .ok w=>.ok (kR r w.1 w.2))):=by
  intro x k o a b c i u;unfold Zan.j32 kJ;simp only[dt];by_cases hx:x=0;·simp_all [Ke]
  ·rw[if_pos (by simpa using hx),if_pos (by simpa using hx)];rfl
 have hof:=RZ lb hlb e he;obtain⟨v1,v2,x,hv⟩:∃v1 v2 x,vOf lb e=(v1,v2,x,()):=⟨(vOf lb e).1,(vOf lb e).2.1,(vOf lb e).2.2.1,rfl⟩
 have J1:Zdc.g k o a b c u e nm 0 t lb q fr wd r.1 r.2.1 r.2.2=some (v1,v2,k,o,a,b,c,u,e,nm,(),x,t,lb,q,fr,wd,r.1,r.2.1,r.2.2,()):=by
  grind [Zdc.g,Zdc.f]
 unfold Zan.f gF jV;simp only[dt,Zan.j12,P6 lb hlb e he,Uv,J1,J32,hv];by_cases k0:k=0;·rw[if_pos k0,if_pos k0];rfl
 rw[if_neg k0,if_neg k0];by_cases k10:k=10;·simp_all [Iz]
 rw[if_neg k10,if_neg k10];by_cases k2:k=2;·grind
 rw[if_neg k2,if_neg k2];by_cases k5:k=5;·grind
 rw[if_neg k5,if_neg k5];by_cases k7:k=7
 ·rw[if_pos k7,if_pos k7];by_cases hx:x=0
  ·simp_all [PZ]
  simp_all [kJ]
 rw[if_neg k7,if_neg k7];by_cases k8:k=8
 ·rw[if_pos k8,if_pos k8];by_cases hx:x=0
  ·simp_all [HV,Gt]
  simp_all [kJ]
 rw[if_neg k8,if_neg k8];by_cases k9:k=9
 ·rw[if_pos k9,if_pos k9];unfold Zan.j29 Zan.j31;simp only[dt];by_cases hx:x=0
  ·rw[if_pos hx,if_neg (by simpa using hx),Gt t lb q fr wd r,Uv];dsimp only;by_cases ha:tY v1 v2 wd=0
   ·rw[if_pos ha,if_neg (by simpa using ha),xw t lb q fr wd r h1 h2,Uv,ha];rfl
   ·rw[if_neg ha,if_pos (by simpa using ha)];rfl
  ·rw[if_neg hx,if_neg hx,if_pos (by simpa using hx)];rfl
 simp_all [kJ]
end
end Rv
namespace Rv
open Go
theorem sj:∀(l:List Ln) (i:Nat) (a:List Int) (lb:List Sym) (c:Nat) {x:Nat×Int},bF l i a lb c=.error x->x.2=26/\i<x.1/\x.1<=i+l.length
 |[],_,_,_,_,_,h=>by(rw[bF] at h;cases h)
 |y::r,i,a,lb,c,x,h=>by
  rw[bF] at h;split at h;·have:=sj r _ _ _ _ h;simp;omega
  ·split at h
   ·cases h;exact⟨rfl,by show i<i+1;omega,by simp⟩
   ·have:=sj r _ _ _ _ h;simp;omega
theorem BV(lb:List Sym):∀(l:List Ln) (i:Nat) (p:List Val) {x:Nat×Int},dB lb l i p=.error x->x.2≠0/\i<x.1/\x.1<=i+l.length/\(l.getD (x.1-1-i) zL).2.1.1=8/\(x.2=27\/x.2=(vOf lb (eL (l.getD (x.1-1-i) zL))).2.2.1)
 |[],_,_,_,h=>by(rw[dB] at h;cases h)
 |y::r,i,p,x,h=>by
  have step:∀{q},dB lb r (i+1) q=.error x->x.2≠0/\i<x.1/\x.1<=i+(y::r).length/\((y::r).getD (x.1-1-i) zL).2.1.1=8/\(x.2=27\/x.2=(vOf lb (eL ((y::r).getD (x.1-1-i) zL))).2.2.1):=fun {q} hq=>by
   obtain⟨h1,h2,h3,h4,h5⟩:=BV lb r (i+1) q hq;have e:x.1-1-i=(x.1-1-(i+1))+1:=by omega
   rw[e,List.getD_cons_succ];exact⟨h1,by omega,by simp;omega,h4,h5⟩
  rw[dB] at h;split at h
  ·rename_i h8;split at h
   ·rename_i hne;cases h;have e:i+1-1-i=0:=by omega
    dsimp only;rw[e,List.getD_cons_zero];exact⟨hne,by omega,by simp,h8,.inr rfl⟩
   ·split at h
    ·cases h;have e:i+1-1-i=0:=by omega
     dsimp only;rw[e,List.getD_cons_zero];exact⟨by decide,by omega,by simp,h8,.inl rfl⟩
    ·exact step h
  ·exact step h
theorem Jw(w:List Ln):(∃x:Nat×Int,dY w=zn x.1 x.2/\x.2≠0/\0<x.1/\x.1<=w.length/\((∃y,bF w 0 [] [] 0=.error y)\/∃r,bF w 0 [] [] 0=.ok r/\dB r.2.1 w 0 []=.error x)) \/
  ∃r p,bF w 0 [] [] 0=.ok r/\dB r.2.1 w 0 []=.ok p/\dY w=zu r.1 r.2.1 r.2.2 (.ok p):=by
 unfold dY Dk;cases hp:bF w 0 [] [] 0 with
 |error x=>
  have:=sj _ _ _ _ _ hp;exact .inl ⟨x,rfl,by omega,by omega,by omega,.inl ⟨x,rfl⟩⟩
 |ok r=>
  dsimp only;cases hq:dB r.2.1 w 0 [] with
  |error x=>
   obtain⟨h1,h2,h3,_⟩:=BV _ _ _ _ hq;exact .inl ⟨x,rfl,h1,by omega,by omega,.inr ⟨r,rfl,hq⟩⟩
  |ok p=>exact .inr ⟨r,p,rfl,hq,rfl⟩
end Rv
namespace Rv
open Go
end Rv
namespace Rv
open Go
theorem Q6:∀e∈L.nameTbl,L.mnemR e.2.1.1 e.2.1.2.1 e.2.1.2.2=e.2.2/\L.ofR e.2.2=(e.2.1.1,e.2.1.2.1,e.2.1.2.2,true,())/\e.2.2≠[]:=by decide +kernel
theorem Ou:∀e∈L.nameTbl,1<=e.2.1.1/\e.2.1.1<=10/\0<=e.2.1.2.1/\e.2.1.2.1<=15:=by decide +kernel
theorem xU{k o:Int}{u:Bool}(h:L.mnemR k o u≠[]):∃e∈L.nameTbl,e.2.1=(k,o,u)/\e.2.2=L.mnemR k o u:=by
 unfold L.mnemR at h⊢;cases hf:L.nameTbl.find? fun e=>e.2.1 == (k,o,u) with
 |none=>rw[hf] at h;exact absurd rfl h
 |some e=>
  have h1:=List.mem_of_find?_eq_some hf;have h2:e.2.1=(k,o,u):=by simpa using List.find?_some hf
  exact⟨e,h1,h2,rfl⟩
theorem QZ{k o:Int}{u:Bool}(h:L.mnemR k o u≠[]):L.ofR (L.mnemR k o u)=(k,o,u,true,())/\1<=k/\k<=10/\0<=o/\o<=15:=by
 obtain⟨e,he,hk,hs⟩:=xU h;obtain⟨h1,h2,h3⟩:=Q6 e he;have h4:=Ou e he;rw[hk] at h2 h4;rw[<- hs];exact⟨h2,h4⟩
theorem Oi{k o:Int}(u:Bool)(hk:-9223372036854775808<=k/\k<=9223372036854775807)(ho:-9223372036854775808<=o/\o<=9223372036854775807):L.mnemO k o u=some (L.mnemR k o u,()):=by
 unfold L.mnemO;rw[if_pos ⟨hk.1,hk.2,ho.1,ho.2⟩]
end Rv
namespace Rv
open Go
set_option maxRecDepth 100000
def okE(r:Option (Int×Option Int×Unit)):Prop:=∃v e,r=some (v,e,())/\(e=none\/e=some 1\/e=some 2)
theorem x9{v:Int}:okE (some (v,none,())):=⟨_,_,rfl,.inl rfl⟩
theorem qy{v:Int}:okE (some (v,some 1,())):=⟨_,_,rfl,.inr (.inl rfl)⟩
theorem dX{v:Int}:okE (some (v,some 2,())):=⟨_,_,rfl,.inr (.inr rfl)⟩
theorem Jm(c:Int):Zal.g c=some (aC .or .u8 c 32,()):=rfl
theorem Rj(s09:Str)(c mv:Int)(l:List Int)(hl:l.length<=1000000)(n:Nat):∀(m i:Nat),i<=l.length->l.length-i<m->∀v,okE (Zaa.l36 n m 10 false s09 c mv false v l (l.length:Int) (i:Int)):=by
 intro m
 induction m with
 |zero=>intro i _ h;omega
 |succ m ih=>
  intro i hi hm v;unfold Zaa.l36;by_cases hlt:i<l.length
  ·rw[if_pos (by simp;omega),if_pos (by omega)];have w1:IntKind.i64.wrap ((i:Int)+1)=((i+1:Nat):Int):=by rw[w64 (by omega)];omega
   have h46:∀d,okE (Zaa.j46 n (Zaa.l36 n m) 10 false s09 c mv false v d l (l.length:Int) (i:Int)):=by
    intro d;unfold Zaa.j46;split;·exact dX
    ·split
     ·exact qy
     ·split
      ·split
       ·exact qy
       ·unfold Zaa.j55;rw[w1];exact ih (i+1) (by omega) (by omega) _
      ·exact qy
   simp only[Jm,Uv,Bool.false_eq_true,if_false];generalize hb:l.getD (i:Int).toNat 0=b;by_cases e1:b=95
   ·rw[if_pos (by simp[e1])];split
    ·split
     ·exact h46 _
     ·split
      ·split
       ·exact h46 _
       ·exact dX
      ·exact dX
    ·split
     ·split
      ·exact h46 _
      ·exact dX
     ·exact dX
   ·rw[if_neg (by simp[e1])];split
    ·split
     ·exact h46 _
     ·split
      ·split
       ·exact h46 _
       ·exact dX
      ·exact dX
    ·split
     ·split
      ·exact h46 _
      ·exact dX
     ·exact dX
  ·rw[if_neg (by simp;omega)];simp only[Bool.false_eq_true,if_false];exact x9
theorem TN(s:Str)(hs:s.length<=1000000):okE (Zaa.g s 10 0):=by
 unfold Zaa.g Zaa.f;by_cases h0:s=[]
 ·rw[if_pos (by simp[h0])];exact dX
 ·rw[if_neg (by simp[h0]),if_pos (by decide),if_pos (by decide)];unfold Zaa.j21;rw[if_pos (by decide)];unfold Zaa.j25;rw[if_pos (by decide)];unfold Zaa.j32;rw[if_neg (by decide)];have hd:decide ((10:Int)=0)=false:=by decide
  rw[hd];have hz:(0:Int)=((0:Nat):Int):=rfl;have:=Rj s 1844674407370955162 (IntKind.u64.wrap ((IntKind.u64.wrap ((1:Int)*2 ^ (min (IntKind.u64.wrap 64).toNat IntKind.u64.bits)))-(1:Int))) (s.map fun b=>(b.toNat:Int)) (by simpa using hs) (1000+s.length+(10:Int).toNat+(0:Int).toNat) (1000+s.length+(10:Int).toNat+(0:Int).toNat) 0 (by simp) (by simp;omega) 0;exact this
theorem SN(n:Nat)(g:Bool)(v:Int):okE (Zaj.j21 n g v):=by
 unfold Zaj.j21;split<;>exact x9
theorem SL(n:Nat)(g:Bool)(v c:Int):okE (Zaj.j19 n g v c):=by
 unfold Zaj.j19;split
 ·split
  ·exact qy
  ·exact SN _ _ _
 ·exact SN _ _ _
theorem Uo(n:Nat)(g:Bool)(v:Int):okE (Zaj.j16 n 64 g v):=by
 unfold Zaj.j16;have h:¬IntKind.u64.wrap (IntKind.i64.wrap (64-1))<0:=by rw[w64 (by omega),yA (by omega)];omega
 rw[if_neg h];generalize IntKind.u64.wrap ((1:Int)*2 ^ (min (IntKind.u64.wrap (IntKind.i64.wrap (64-1))).toNat IntKind.u64.bits))=c;split
 ·split
  ·exact qy
  ·exact SL _ _ _ _
 ·exact SL _ _ _ _
theorem SK(n:Nat)(g:Bool)(v:Int):okE (Zaj.j14 n 0 g v):=by
 unfold Zaj.j14;rw[if_pos (by decide)];exact Uo _ _ _
theorem TK(s:Str)(hs:s.length<=1000000):okE (Zaj.g s 10 0):=by
 unfold Zaj.g Zaj.f;generalize 1000+s.length+(10:Int).toNat+(0:Int).toNat=n;have h10:∀(t:Str) g,t.length<=1000000->okE (Zaj.j10 n t 10 0 g):=fun t g ht=>by
  unfold Zaj.j10;obtain⟨v,e,he,h⟩:=TN t ht;rw[he,Uv];dsimp only;rcases h with rfl|rfl|rfl;·rw[if_neg (by decide)];exact SK _ _ _
  ·rw[if_pos (by decide),if_neg (by simp)];exact SK _ _ _
  ·rw[if_pos (by decide),if_pos (by simp)];exact dX
 by_cases h0:s=[]
 ·rw[if_pos (by simp[h0])];exact dX
 ·rw[if_neg (by simp[h0])];have hlen:0<s.length:=List.length_pos_iff.2 h0;have ht:((s.take ((s.length:Int)).toNat).drop ((1:Int)).toNat).length<=1000000:=by simp;omega
  rw[if_pos (by omega)];split;·rw[if_pos (by omega)];exact h10 _ _ ht
  ·split
   ·rw[if_pos (by omega)];exact h10 _ _ ht
   ·exact h10 _ _ hs
theorem at_loop(s05:Str)(h5:s05≠[])(l:List Int)(hl:l.length<=1000000)(n:Nat):∀(m i:Nat),i<=l.length->l.length-i<m->∀v,okE (Zaq.l10 n m s05 v l (l.length:Int) (i:Int)):=by
 intro m
 induction m with
 |zero=>intro i _ h;omega
 |succ m ih=>
  intro i hi hm v;unfold Zaq.l10;by_cases hlt:i<l.length
  ·rw[if_pos (by simp;omega),if_pos (by omega)];have w1:IntKind.i64.wrap ((i:Int)+1)=((i+1:Nat):Int):=by rw[w64 (by omega)];omega
   split;·exact dX
   ·rw[w1];exact ih (i+1) (by omega) (by omega) _
  ·rw[if_neg (by simp;omega)];have hlen:0<s05.length:=List.length_pos_iff.2 h5;rw[if_pos (by omega)];split<;>exact x9
theorem TC(s:Str)(hs:s.length<=1000000):okE (Zaq.g s):=by
 unfold Zaq.g Zaq.f;obtain⟨n,hn⟩:∃n,1000+s.length=n:=⟨_,rfl⟩
 rw[hn];have h8:∀t:Str,t.length<=s.length->s≠[]->okE (Zaq.j8 n t s):=fun t ht h0=>by
  unfold Zaq.j8;have:=at_loop s h0 (t.map fun b=>(b.toNat:Int)) (by simp;omega) n n 0 (by simp) (by simp;omega) 0;exact this
 have h20:okE (Zaq.j20 n s):=by
  unfold Zaq.j20;obtain⟨v,e,he,h⟩:=TK s hs;rw[he,Uv];exact⟨v,e,rfl,h⟩
 by_cases h0:s=[]
 ·rw[if_neg (by simp[h0])];exact h20
 ·have hlen:0<s.length:=List.length_pos_iff.2 h0;have ht:((s.take ((s.length:Int)).toNat).drop ((1:Int)).toNat).length<=s.length:=by simp
  have h6:okE (Zaq.j6 n ((s.take ((s.length:Int)).toNat).drop ((1:Int)).toNat) s):=by
   unfold Zaq.j6;split;·exact dX
   ·exact h8 _ ht h0
  rw[if_pos (by simp;omega)];split
  ·rw[if_pos (by omega)];split
   ·rw[if_pos (by omega)];split
    ·rw[if_pos (by omega)];exact h6
    ·exact h8 _ (Uz _) h0
   ·rw[if_pos (by omega)];exact h6
  ·exact h20
theorem Kh(s:Str)(hs:s.length<=1000000):∃v b,Zdt.g s=some (v,b,()):=by
 unfold Zdt.g Zdt.f;obtain⟨v,e,he,h⟩:=TC s hs;rw[he,Uv];dsimp only;rcases h with rfl|rfl|rfl;·exact⟨_,_,rfl⟩
 ·have:L.toErrorO ([65,116,111,105]:Str) s 0 0 (some 1)=some (false,()):=by unfold L.toErrorO;rw[if_pos ⟨by omega,Or.inl rfl⟩]
  rw[if_pos (by decide),this];exact⟨_,_,rfl⟩
 ·have:L.toErrorO ([65,116,111,105]:Str) s 0 0 (some 2)=some (false,()):=by unfold L.toErrorO;rw[if_pos ⟨by omega,Or.inr rfl⟩]
  rw[if_pos (by decide),this];exact⟨_,_,rfl⟩
end Rv
namespace Rv
open Go
def gB(k:Nat):Str:=if k<10 then[82,UInt8.ofNat (48+k)] else[82,49,UInt8.ofNat (38+k)]
def bW(s:Str):Int×Bool:=match (List.range 16).find? (fun k=>gB k == s) with|some k=>((k:Int),true)|none=>(0,false)
theorem L8:((List.range 16).all fun k=>decide (Zay.g (k:Int)=some (gB k,()))&&decide (Zcd.g (gB k)=some ((k:Int),true,())))=true:=by decide +kernel
theorem yo(k:Nat)(hk:k<16):Zay.g (k:Int)=some (gB k,())/\Zcd.g (gB k)=some ((k:Int),true,()):=by
 have:=UT.1 L8 k (List.mem_range.2 hk);simpa[and_assoc] using this
theorem Gm{v:Int}(h:v<0\/16<=v):Zay.g v=some ([],()):=by
 unfold Zay.g Zay.f;by_cases h0:v<0;·rw[if_neg (by simp;omega)]
 ·rw[if_pos (by simp;omega),if_pos (by simp;omega)]
theorem CZ(v:Int):∃s,Zay.g v=some (s,())/\(s≠[]->∃k:Nat,k<16/\v=(k:Int)/\s=gB k):=by
 by_cases h:v<0\/16<=v;·exact⟨[],Gm h,fun e=>absurd rfl e⟩
 ·obtain⟨k,rfl⟩:∃k:Nat,v=(k:Int):=⟨v.toNat,by omega⟩
  have hk:k<16:=by omega
  exact⟨gB k,(yo k hk).1,fun _=>⟨k,hk,rfl,rfl⟩⟩
theorem Qm{s p:Str}(h:L.cutIs s p=true)(hp:p≠[]):s≠[]:=by
 rintro rfl;cases p with
 |nil=>exact hp rfl
 |cons a l=>simp[L.cutIs,Lib.hasPrefix] at h
theorem sD{s:Str}{k:Nat}(h:(List.range 16).find? (fun k=>gB k == s)=some k):k<16/\gB k=s:=by
 have h1:=List.mem_of_find?_eq_some h;have h2:=List.find?_some h;exact⟨List.mem_range.1 h1,by simpa using h2⟩
theorem L6(s:Str)(hs:s.length<=1000000):Zcd.g s=some ((bW s).1,(bW s).2,()):=by
 unfold bW;cases hf:(List.range 16).find? (fun k=>gB k == s) with
 |some k=>
  obtain⟨h1,h2⟩:=sD hf;have:=(yo k h1).2;rw[h2] at this;exact this
 |none=>
  have hno:∀k,k<16->gB k≠s:=fun k hk e=>by
   have:=List.find?_eq_none.1 hf k (List.mem_range.2 hk);simp[e] at this
  unfold Zcd.g Zcd.f;obtain⟨v,b,hvb⟩:=Kh (L.cutRest s [82]) (by
   unfold L.cutRest Lib.trimPrefix;split;·rw[U5];omega
   ·omega)
  rw[hvb,Uv];dsimp only;cases hc:L.cutIs s [82] with
  |false=>rfl
  |true=>
   rw[if_pos (by decide)];cases b with
   |false=>rfl
   |true=>
    rw[if_pos (by decide)];obtain⟨t,ht,hk⟩:=CZ v;rw[ht,Uv];dsimp only;by_cases e:t=s;·have hne:=Qm hc (by decide);obtain⟨k,hk1,_,hk2⟩:=hk (by rw[e];exact hne);exact absurd (hk2.symm.trans e) (hno k hk1)
    ·rw[if_pos (by simp[e])]
end Rv
namespace Rv
open Go
abbrev aj:=Int×Int×Str×Int×Unit
def kg(ts:List aj):Except Int (List aj)->Except Int (List aj)
 | .error e=>.error e
 | .ok l=>.ok (ts++l)
theorem iD(a b:List aj)(x:Except Int (List aj)):kg (a++b) x=kg a (kg b x):=by cases x<;>simp[kg]
def okR(r:Str):Prop:=r=[]\/∃b y,r=b::y/\isW b=false
theorem sS{s r:Str}(hs:s.all isW=true)(hr:okR r):bf (s++r)=s:=by
 rcases hr with rfl|⟨b,y,rfl,hb⟩;·rw[UU];exact zN hs
 ·unfold bf;rw[Mx hb];exact zN hs
theorem uK{s:Str}{c:UInt8}{t:Str}(hs:s=c::t)(ha:s.all isW=true){q v:Int}(hk:∀r,okR r->jb c (t++r)=.ok (0,q,s,v))(k:Int){r:Str}(hr:okR r):aI k (s++r)=kg [(q,k,s,v,())] (aI (k+s.length) r):=by
 subst hs;have hW:isW c=true:=by simp only[Vi,UB] at ha;exact ha.1
 obtain⟨h1,h2⟩:=FO hW;rw[List.cons_append,eT,if_neg h1,if_neg h2,hk r hr];dsimp only;have hd:(t++r).drop (0+(c::t).length-1)=r:=by
  rw[UN,show 0+(t.length+1)-1=t.length by omega];exact List.drop_left' rfl
 rw[hd,show k+((0:Nat):Int)+((c::t).length:Int)=k+((c::t).length:Int) by omega];cases aI (k+((c::t).length:Int)) r<;>rfl
theorem nQ(c:UInt8)(hc:c∈([40,41,42,43,45]:Str))(k:Int)(r:Str):aI k (c::r)=kg [(3,k,[c],0,())] (aI (k+1) r):=by
 have step:isL c=false/\isD c=false/\c≠46/\isS c=true/\c≠59/\c≠32/\c≠9:=by
  simp only[UG,Vj,or_false] at hc;rcases hc with rfl|rfl|rfl|rfl|rfl<;>decide
 obtain⟨h1,h2,h3,h4,h5,h6,h7⟩:=step;rw[eT,if_neg h5,if_neg (fun h=>h.elim h6 h7)];unfold jb;rw[if_neg (by simp[h1]),if_neg (by simp[h2]),if_neg (fun h=>h3 h.1),if_pos h4];dsimp only;rw[show k+((0:Nat):Int)+(([c]:Str).length:Int)=k+1 by simp,show 0+([c]:Str).length-1=0 from rfl,U3];cases aI (k+1) r<;>rfl
theorem rH(k:Int)(r:Str):aI k (32::r)=aI (k+1) r:=by
 rw[eT,if_neg (by decide),if_pos (.inl rfl)]
end Rv
namespace Rv
open Go
inductive Opr
 |add|sub|mul
def Opr.kind:Opr->Int
 | .add=>4 | .sub=>5 | .mul=>6
def Opr.byte:Opr->UInt8
 | .add=>43 | .sub=>45 | .mul=>42
def Opr.tight:Opr->Nat
 | .mul=>1|_=>0
inductive Tr
 |num (n:Int)|nam (s:Str)|neg (x:Tr)|bin (o:Opr) (a b:Tr)|br (x:Tr)
namespace Tr
def post:Tr->List Item
 | .num n=>[(1,n,[],())]
 | .nam s=>[(2,0,s,())]
 | .neg x=>x.post++[(3,0,[],())]
 | .bin o a b=>a.post++b.post++[(o.kind,0,[],())]
 | .br x=>x.post
def ok:Tr->Prop
 | .num n=>0<=n/\n<=4294967295
 | .nam s=>ax s=true
 | .neg x=>x.ok
 | .bin _ a b=>a.ok/\b.ok
 | .br x=>x.ok
def plain:Tr->Prop
 | .neg x=>x.plain
 | .bin _ a b=>a.plain/\b.plain
 | .br _=>False
 |_=>True
def tight:Tr->Nat
 | .bin o _ _=>o.tight
 |_=>2
end Tr
abbrev Bt:=Int×Str×Int
def bare(t:aj):Bt:=(t.1,t.2.2.1,t.2.2.2.1)
def tLp:Bt:=(3,[40],0)
def tRp:Bt:=(3,[41],0)
def tOp(o:Opr):Bt:=(3,[o.byte],0)
def Ba:Bt:=(3,[45],0)
def brk(b:Bool)(l:List Bt):List Bt:=if b then tLp::(l++[tRp]) else l
namespace Tr
def toks:Tr->List Bt
 | .num n=>[(2,Lib.itoa n,n)]
 | .nam s=>[(1,s,0)]
 | .neg x=>Ba::brk (decide (x.tight<2)) x.toks
 | .bin o a b=>brk (decide (a.tight<o.tight)) a.toks++tOp o::brk (decide (b.tight<o.tight+1)) b.toks
 | .br x=>tLp::(x.toks++[tRp])
def toksA(lv:Nat)(x:Tr):List Bt:=brk (decide (x.tight<lv)) x.toks
def dep:Tr->Nat
 | .num _=>0
 | .nam _=>0
 | .neg x=>1+(x.dep+if x.tight<2 then 1 else 0)
 | .bin o a b=>max (a.dep+if a.tight<o.tight then 1 else 0) (b.dep+if b.tight<o.tight+1 then 1 else 0)
 | .br x=>1+x.dep
def depA(lv:Nat)(x:Tr):Nat:=x.dep+if x.tight<lv then 1 else 0
theorem post_pos:∀x:Tr,1<=x.post.length
 | .num _=>by simp[post]
 | .nam _=>by simp[post]
 | .neg _=>by simp[post]
 | .bin _ _ _=>by simp[post];omega
 | .br x=>post_pos x
def cnt(l:List Bt):Nat:=l.countP fun b=>decide (b.2.1=[45])||decide (b.2.1=[40])
end Tr
theorem Ja{x:Item}(h:(az x).2=true):(∃n,x=(1,n,[],()))\/(∃s,x=(2,0,s,())/\ax s=true)\/x=(3,0,[],())\/∃o:Opr,x=(o.kind,0,[],()):=by
 obtain⟨a,b,c,u⟩:=x;cases u;unfold az at h;dsimp only at h;split at h;·rename_i h1;simp only[UE] at h;exact .inl ⟨b,by rw[h1,h]⟩
 ·split at h
  ·rename_i h2;simp only[UB,UE] at h;exact .inr (.inl ⟨c,by rw[h2,h.1],h.2⟩)
  ·split at h
   ·rename_i h3;simp only[UB,UE] at h;exact .inr (.inr (.inl (by rw[h3,h.1,h.2])))
   ·split at h
    ·rename_i h4;simp only[UB,UE] at h;obtain⟨rfl,rfl⟩:=h;rcases h4 with rfl|rfl|rfl
     ·exact .inr (.inr (.inr ⟨.add,rfl⟩))
     ·exact .inr (.inr (.inr ⟨.sub,rfl⟩))
     ·exact .inr (.inr (.inr ⟨.mul,rfl⟩))
    ·cases h
theorem JS(l:List Tr):l=[]\/∃a x,l=a++[x]:=by
 rcases List.eq_nil_or_concat l with h|⟨a,x,h⟩;·exact .inl h
 ·exact .inr ⟨a,x,by simpa using h⟩
def posts(st:List Tr):List Item:=(st.map Tr.post).flatten
theorem oU(a b:List Tr):posts (a++b)=posts a++posts b:=by simp[posts]
theorem mD(x:Tr):posts [x]=x.post:=by simp[posts]
theorem FE:∀(e:List Item) (st:List Tr) (k:Int),enough (st.length:Int) e=some k->(∀x∈e,xH x)->(∀x∈st,x.ok/\x.plain) ->
  ∃st':List Tr,(st'.length:Int)=k/\posts st++e=posts st'/\∀x∈st',x.ok/\x.plain
 |[],st,k,h,_,ho=>by
  simp only[enough,Uw] at h;exact⟨st,h,by simp,ho⟩
 |x::e,st,k,h,hg,ho=>by
  have hgx:=hg x (by simp);unfold enough at h;split at h
  case isFalse=>cases h
  rename_i hc;have push:∀(l:List Tr) (t:Tr),(∀y∈l,y.ok/\y.plain)->t.ok/\t.plain->((l.length:Int)+1=st.length+(1-(az x).1))->posts st++[x]=posts l++t.post->∃st':List Tr,(st'.length:Int)=k/\posts st++x::e=posts st'/\∀x∈st',x.ok/\x.plain:=by
   intro l t hl ht hlen hp;obtain⟨st',h1,h2,h3⟩:=FE e (l++[t]) k (by rw[show((l++[t]).length:Int)=st.length+(1-(az x).1) by rw[<- hlen];simp];exact h) (fun y hy=>hg y (by simp[hy])) (fun y hy=>by
    rcases UK.1 hy with hy|hy;·exact hl y hy
    ·rw[UV] at hy;subst hy;exact ht)
   refine⟨st',h1,?_,h3⟩;rw[<- h2,oU,mD,<- hp];simp
  rcases Ja hc.1 with⟨n,rfl⟩|⟨s,rfl,hs⟩|rfl|⟨o,rfl⟩;·exact push st (.num n) ho ⟨⟨hgx.1,hgx.2.1⟩,trivial⟩ (by rw[show(az (1,n,[],())).1=0 from rfl];omega) rfl
  ·exact push st (.nam s) ho ⟨hs,trivial⟩ (by rw[show(az (2,0,s,())).1=0 from rfl];omega) rfl
  ·have e1:(az (3,0,[],())).1=1:=rfl;rcases JS st with rfl|⟨l,v,rfl⟩
   ·exact absurd hc.2 (by rw[e1];simp)
   ·have hv:=ho v (by simp);exact push l (.neg v) (fun y hy=>ho y (by simp[hy])) hv (by rw[e1];simp<;>omega) (by rw[oU,mD];simp[Tr.post])
  ·have e2:(az (o.kind,0,[],())).1=2:=by cases o<;>rfl
   rcases JS st with rfl|⟨l0,v,rfl⟩;·exact absurd hc.2 (by rw[e2];simp)
   ·rcases JS l0 with rfl|⟨l,w,rfl⟩
    ·exact absurd hc.2 (by rw[e2];simp)
    ·exact push l (.bin o w v) (fun y hy=>ho y (by simp[hy])) ⟨⟨(ho w (by simp)).1,(ho v (by simp)).1⟩,(ho w (by simp)).2,(ho v (by simp)).2⟩ (by rw[e2];simp<;>omega) (by rw[oU,oU,mD,mD];simp[Tr.post])
theorem RI{e:List Item}(h:fZ e)(hg:∀x∈e,xH x):∃t:Tr,t.post=e/\t.ok/\t.plain:=by
 obtain⟨st,h1,h2,h3⟩:=FE e [] 1 h hg (fun x hx=>by cases hx)
 match st,h1,h2,h3 with
 |[t],_,h2,h3=>exact⟨t,by rw[mD] at h2;exact h2.symm,h3 t (by simp)⟩
 |[],h1,_,_=>simp at h1
 |_::_::_,h1,_,_=>simp at h1;omega
end Rv
namespace Rv
open Go
def dch(d:Nat):UInt8:=if d<10 then UInt8.ofNat (48+d) else UInt8.ofNat (87+d)
theorem Qn:((List.range 16).all fun d=>decide (iX (dch d)=some d)&&isW (dch d)&&(decide (10<=d)||isD (dch d))&&decide ((([48,49,50,51,52,53,54,55,56,57,97,98,99,100,101,102]:Str).take (d+1)).drop d=[dch d]))=true:=by decide +kernel
theorem Bo{d:Nat}(h:d<16):iX (dch d)=some d/\isW (dch d)=true/\(d<10->isD (dch d)=true)/\(([48,49,50,51,52,53,54,55,56,57,97,98,99,100,101,102]:Str).take (d+1)).drop d=[dch d]:=by
 have:=UT.1 Qn d (by simpa using h);simp only[UB,UE,Bool.or_eq_true] at this;obtain⟨⟨⟨h1,h2⟩,h3⟩,h4⟩:=this;exact⟨h1,h2,fun h=>h3.resolve_left (by omega),h4⟩
theorem wY(b:Nat):∀(s t:Str) (v:Nat),aT b v (s++t)=(aT b v s).bind fun w=>aT b w t
 |[],t,v=>rfl
 |c::s,t,v=>by
  simp only[List.cons_append,aT];cases iX c with
  |none=>rfl
  |some d=>
   simp only;split
   ·split
    ·exact wY b s t _
    ·rfl
   ·rfl
end Rv
namespace Rv
open Go
def brkT(b:Bool)(s:Str):Str:=if b then 40::(s++[41]) else s
namespace Tr
def txt:Tr->Str
 | .num n=>Lib.itoa n
 | .nam s=>s
 | .neg x=>45::brkT (decide (x.tight<2)) x.txt
 | .bin o a b=>brkT (decide (a.tight<o.tight)) a.txt++([32,o.byte,32]++brkT (decide (b.tight<o.tight+1)) b.txt)
 | .br x=>40::(x.txt++[41])
end Tr
theorem Qo:∀(n:Nat),n<4294967296->aT 10 0 (Lib.decDigits n)=some n:=by
 intro n
 induction n using Nat.strongRecOn with
 |_ n ih=>
  intro hn;rw[Lib.decDigits];have hd:∀d,d<10->iX (UInt8.ofNat (48+d))=some d:=fun d h=>by
   have:=(Bo (show d<16 by omega)).1;unfold dch at this
   rwa [if_pos h] at this
  split;·rename_i h;simp only[aT,hd n h];rw[if_pos h,if_pos (by omega)];simp
  ·rename_i h;rw[wY,ih (n / 10) (by omega) (by omega),Uv];simp only[aT,hd (n % 10) (by omega)];have e:n / 10*10+n % 10=n:=by omega
   rw[if_pos (by omega),e,if_pos hn]
theorem vX:∀(n:Nat),(Lib.decDigits n).all isD=true/\Lib.decDigits n≠[]:=by
 intro n
 induction n using Nat.strongRecOn with
 |_ n ih=>
  rw[Lib.decDigits];have hd:∀d,d<10->isD (UInt8.ofNat (48+d))=true:=fun d h=>by
   have:=(Bo (show d<16 by omega)).2.2.1 h;unfold dch at this
   rwa [if_pos h] at this
  split;·rename_i h;exact⟨by rw[Vi,hd n h];rfl,by simp⟩
  ·rename_i h;exact⟨by rw[List.all_append,(ih (n / 10) (by omega)).1,Vi,hd (n % 10) (by omega)];rfl,by simp⟩
theorem Gz:∀(k n:Nat),n<10 ^ (k+1)->(Lib.decDigits n).length<=k+1
 |0,n,h=>by
  rw[Lib.decDigits,dif_pos (by simpa using h)];simp
 |k+1,n,h=>by
  rw[Lib.decDigits];split;·simp
  ·have:=Gz k (n / 10) (by rw[Nat.div_lt_iff_lt_mul (by omega),<- Nat.pow_succ];exact h);simp;omega
theorem NZ(n:Int)(h:0<=n/\n<=4294967295)(k:Int){r:Str}(hr:okR r):aI k (Lib.itoa n++r)=kg [(2,k,Lib.itoa n,n,())] (aI (k+(Lib.itoa n).length) r):=by
 obtain⟨m,rfl⟩:∃m:Nat,n=m:=⟨n.toNat,by omega⟩
 have hi:Lib.itoa (m:Int)=Lib.decDigits m:=by unfold Lib.itoa;rw[if_neg (by omega)];rfl
 obtain⟨hD,hne⟩:=vX m;rw[hi];obtain⟨c,t,hs⟩:∃c t,Lib.decDigits m=c::t:=by
  cases hd:Lib.decDigits m with
  |nil=>exact absurd hd hne
  |cons c t=>exact⟨c,t,rfl⟩
 have hW:(Lib.decDigits m).all isW=true:=by
  rw[UT] at hD⊢;intro x hx;have:=hD x hx;simp[isW,this]
 have hc:isD c=true:=UT.1 hD c (by rw[hs];simp);refine uK hs hW (fun r hr=>?_) k hr;have hL:¬isL c=true:=by
  intro h;unfold isL at h;unfold isD at hc;simp only[UE] at h hc;omega
 have hword:bf (c::(t++r))=Lib.decDigits m:=by
  rw[<- List.cons_append,<- hs];exact sS hW hr
 have hnum:num (Lib.decDigits m)=some m:=by
  unfold num;have:¬([48,120]:Str).isPrefixOf (Lib.decDigits m)=true:=by
   intro hp;rw[hs] at hp hD;cases t with
   |nil=>simp[List.isPrefixOf] at hp
   |cons b t=>
    have hb:isD b=true:=UT.1 hD b (by simp);simp only[List.isPrefixOf,Bool.and_true,UB,beq_iff_eq] at hp;rw[<- hp.2] at hb;exact absurd hb (by decide)
  rw[if_neg this,if_neg hne];exact Qo m (by omega)
 unfold jb;rw[if_neg hL,if_pos hc,hword,hnum]
theorem zg{s:Str}(h:ax s=true)(k:Int){r:Str}(hr:okR r):aI k (s++r)=kg [(1,k,s,0,())] (aI (k+s.length) r):=by
 unfold ax at h;simp only[UB,UE,Bool.not_eq_true'] at h;obtain⟨⟨⟨⟨hne,_⟩,hD⟩,hW⟩,_⟩:=h;obtain⟨c,t,hs⟩:∃c t,s=c::t:=by
  cases s with
  |nil=>exact absurd rfl hne
  |cons c t=>exact⟨c,t,rfl⟩
 have hc:isL c=true:=by
  have h1:isW c=true:=UT.1 hW c (by rw[hs];simp);rw[hs] at hD;have h2:isD c=false:=hD;simpa[isW,h2] using h1
 refine uK hs hW (fun r hr=>?_) k hr;have hword:bf (c::(t++r))=s:=by
  rw[<- List.cons_append,<- hs];exact sS hW hr
 unfold jb;rw[if_pos hc,hword]
def bK(s:Str)(b:List Bt):Prop:=∀k:Int,∃ts:List aj,ts.map bare=b/\∀r,okR r->aI k (s++r)=kg ts (aI (k+s.length) r)
theorem bK.sig(c:UInt8)(hc:c∈([40,41,42,43,45]:Str)):∀k:Int,∃ts:List aj,ts.map bare=[(3,[c],0)]/\∀r,aI k ([c]++r)=kg ts (aI (k+([c]:Str).length) r):=fun k=>
 ⟨[(3,k,[c],0,())],rfl,fun r=>nQ c hc k r⟩
theorem bK.brk{s:Str}{b:List Bt}(h:bK s b):bK (40::(s++[41])) (tLp::(b++[tRp])):=fun k=>by
 obtain⟨ts,h1,h2⟩:=h (k+1);refine⟨[(3,k,[40],0,())]++ts++[(3,k+1+s.length,[41],0,())],?_,fun r hr=>?_⟩;·rw[U6,U6,h1];rfl
 ·have e:(40::(s++[41]))++r=40::(s++(41::r)):=by simp
  rw[e,nQ 40 (by simp),h2 _ (.inr ⟨41,r,rfl,by decide⟩),nQ 41 (by simp),<- iD,<- iD];congr 2;simp;omega
theorem bK.brkT{s:Str}{b:List Bt}(h:bK s b)(x:Bool):bK (Rv.brkT x s) (Rv.brk x b):=by
 unfold Rv.brkT Rv.brk;cases x with
 |false=>exact h
 |true=>exact h.brk
theorem jE:∀t:Tr,t.ok->bK t.txt t.toks
 | .num n,h=>fun k=>⟨_,rfl,fun r hr=>NZ n h k hr⟩
 | .nam s,h=>fun k=>⟨_,rfl,fun r hr=>zg h k hr⟩
 | .neg x,h=>fun k=>by
  obtain⟨ts,h1,h2⟩:=(jE x h).brkT (decide (x.tight<2)) (k+1);refine⟨[(3,k,[45],0,())]++ts,?_,fun r hr=>?_⟩;·rw[U6,h1];rfl
  ·show aI k (45::(Rv.brkT (decide (x.tight<2)) x.txt++r))=_;rw[nQ 45 (by simp),h2 r hr,<- iD];congr 2;simp[Tr.txt];omega
 | .br x,h=>(jE x h).brk
 | .bin o a b,h=>fun k=>by
  obtain⟨t1,h1,h2⟩:=(jE a h.1).brkT (decide (a.tight<o.tight)) k;obtain⟨t2,h3,h4⟩:=(jE b h.2).brkT (decide (b.tight<o.tight+1)) (k+(Rv.brkT (decide (a.tight<o.tight)) a.txt).length+3);refine⟨t1++[(3,k+(Rv.brkT (decide (a.tight<o.tight)) a.txt).length+1,[o.byte],0,())]++t2,?_,fun r hr=>?_⟩;·rw[U6,U6,h1,h3,UM];rfl
  ·have e:(Tr.bin o a b).txt++r=Rv.brkT (decide (a.tight<o.tight)) a.txt++(32::o.byte::32::(Rv.brkT (decide (b.tight<o.tight+1)) b.txt++r)):=by simp[Tr.txt]
   rw[e,h2 _ (.inr ⟨32,_,rfl,by decide⟩),rH,nQ o.byte (by cases o<;>simp[Opr.byte]),rH];rw[show k+((Rv.brkT (decide (a.tight<o.tight)) a.txt).length:Int)+1+1+1=k+(Rv.brkT (decide (a.tight<o.tight)) a.txt).length+3 by omega,h4 r hr,<- iD,<- iD];congr 2;simp[Tr.txt];omega
theorem jd(b:Bool)(s:Str):(brkT b s).length<=s.length+2:=by unfold brkT;split<;>simp
theorem gY:∀t:Tr,t.ok->t.plain->t.txt.length<=20*t.post.length
 | .num n,h,_=>by
  obtain⟨m,rfl⟩:∃m:Nat,n=m:=⟨n.toNat,by have:=h.1;omega⟩
  have hi:Lib.itoa (m:Int)=Lib.decDigits m:=by unfold Lib.itoa;rw[if_neg (by omega)];rfl
  have:=Gz 9 m (by have h2:=h.2;omega);show(Lib.itoa (m:Int)).length<=20*1;rw[hi];omega
 | .nam s,h,_=>by
  have h:ax s=true:=h;unfold ax at h;simp only[UB,UE] at h;have:=h.1.1.1.2;show s.length<=20*1;omega
 | .neg x,h,hp=>by
  have h1:=gY x h hp;have h2:=jd (decide (x.tight<2)) x.txt;simp[Tr.txt,Tr.post];omega
 | .br x,_,hp=>hp.elim
 | .bin o a b,h,hp=>by
  have h1:=gY a h.1 hp.1;have h2:=gY b h.2 hp.2;have h3:=jd (decide (a.tight<o.tight)) a.txt;have h4:=jd (decide (b.tight<o.tight+1)) b.txt;simp[Tr.txt,Tr.post];omega
end Rv
namespace Rv
open Go
abbrev dIt:Item:=((0:Int),((0:Int),(([]:Str),())))
theorem uV(s:Str)(hs:s.length<=1000000)(k lv:Nat):Zbb.g s (k:Int) (lv:Int)=some (brkT (decide (k<lv)) s,()):=by
 unfold Zbb.g Zbb.f brkT
 grind
theorem TA(n:Int)(h:0<=n/\n<=4294967295):Zds.g (IntKind.u64.wrap n) 10=some (Lib.itoa n,()):=by
 rw[yA (by omega)];unfold Zds.g Zds.f L.formatUintO
 grind
def parts(st:List Tr):List (Str×Int×Unit):=st.map fun t=>(t.txt,(t.tight:Int),())
theorem ic(st:List Tr):(parts st).length=st.length:=by simp[parts]
theorem fT(a b:List Tr):parts (a++b)=parts a++parts b:=by simp[parts]
theorem Dg{e:List Item}{i:Nat}{x:Item}{r:List Item}(h:e.drop i=x::r):i<e.length/\e.getD i dIt=x/\e.drop (i+1)=r:=by
 have hi:i<e.length:=by
  apply Classical.byContradiction
  grind [List.drop_eq_nil_of_le]
 have hd:e.drop i=e.getD i dIt::e.drop (i+1):=by
  simp_all
 grind
theorem yZ(n:Nat)(rl)(st on:List Tr)(e:List Item)(i:Nat)(he:e.length<=1000)(hi:i<e.length)(s:Str)(k:Int)(hst:st.length+on.length<=1000) :
  Zae.j23 n rl (parts (st++on)) (on.length:Int) e (e.length:Int) (i:Int) s k=rl (parts st++[(s,k,())]) e (e.length:Int) ((i+1:Nat):Int):=by
 unfold Zae.j23;have hl:(parts (st++on)).length=st.length+on.length:=by rw[ic];simp
 have hw:IntKind.i64.wrap (((parts (st++on)).length:Int)-(on.length:Int))=(st.length:Int):=by grind [w64]
 have ht:(parts (st++on)).take st.length=parts st:=by
  rw[fT];exact List.take_left' (ic st)
 rw[hw,hl,if_pos (by omega),UL,ht,if_pos (by grind),w64 (by omega)];rfl
theorem oV(e:List Item)(he:e.length<=1000)(n:Nat):∀t:Tr,t.ok->t.plain->∀(st:List Tr) (m i:Nat) (rest:List Item),st.length+t.post.length<=1000->e.drop i=t.post++rest ->
  Zae.l5 n (m+t.post.length) (parts st) e (e.length:Int) (i:Int)=Zae.l5 n m (parts (st++[t])) e (e.length:Int) ((i+t.post.length:Nat):Int)
 | .num v,ho,hp,st,m,i,rest,hst,hd=>by
  obtain⟨h1,h2,_⟩:=Dg (x:=(1,v,[],())) (r:=rest) hd;show Zae.l5 n (m+1) (parts st) e (e.length:Int) (i:Int)=_;rw[Zae.l5];simp only[dt,UL];rw[if_pos (by omega),if_pos (by omega),h2];dsimp only;rw[nX,Uv];have e0:(az (1,v,[],())).1=0:=rfl;dsimp only;rw[e0,if_pos (by grind [ic,w64]),if_pos rfl,TA v ho,Uv];have:=yZ n (Zae.l5 n m) st [] e i he h1 (Lib.itoa v) 2 (by grind);rw[UU] at this;rw[show((0:Int))=(([]:List Tr).length:Int) from rfl,this,fT];rfl
 | .nam s,ho,hp,st,m,i,rest,hst,hd=>by
  obtain⟨h1,h2,_⟩:=Dg (x:=(2,0,s,())) (r:=rest) hd;show Zae.l5 n (m+1) (parts st) e (e.length:Int) (i:Int)=_;rw[Zae.l5];simp only[dt,UL];rw[if_pos (by omega),if_pos (by omega),h2];dsimp only;rw[nX,Uv];have e0:(az (2,0,s,())).1=0:=rfl;dsimp only;rw[e0,if_pos (by grind [ic,w64]),if_neg (show ¬(2:Int)=1 by decide),if_pos rfl];have:=yZ n (Zae.l5 n m) st [] e i he h1 s 2 (by grind);rw[UU] at this;rw[show((0:Int))=(([]:List Tr).length:Int) from rfl,this,fT];rfl
 | .neg x,ho,hp,st,m,i,rest,hst,hd=>by
  have hP:(Tr.neg x).post=x.post++[(3,0,[],())]:=rfl;rw[hP,UM] at hd;rw[hP] at hst⊢;simp only[UD,UN,U2] at hst⊢;have hx:=oV e he n x ho hp st (m+1) i ((3,0,[],())::rest) (by omega) hd;rw[show m+(x.post.length+(0+1))=m+1+x.post.length by omega,hx];have hd2:e.drop (i+x.post.length)=(3,0,[],())::rest:=by
   rw[<- List.drop_drop,hd]
   grind
  obtain⟨h1,h2,_⟩:=Dg hd2;have hl:=gY x ho hp;rw[Zae.l5];simp only[dt,UL];rw[if_pos (by omega),if_pos (by omega),h2];dsimp only;rw[nX,Uv];have e0:(az (3,0,[],())).1=1:=rfl;have hpl:(parts (st++[x])).length=st.length+1:=by rw[ic];simp
  have hw:IntKind.i64.wrap (((parts (st++[x])).length:Int)-1)=(st.length:Int):=by grind [w64]
  have hon:((parts (st++[x])).take (parts (st++[x])).length).drop st.length=[(x.txt,(x.tight:Int),())]:=by
   rw[List.take_length,fT];exact List.drop_left' (ic st)
  dsimp only;rw[e0,hw,if_pos (by rw[hpl];omega),if_neg (show ¬(3:Int)=1 by decide),if_neg (show ¬(3:Int)=2 by decide),if_pos rfl];simp only[UL,hon];rw[if_pos (by simp),show([(x.txt,(x.tight:Int),())]:List (Str×Int×Unit)).getD (0:Int).toNat (([]:Str),((0:Int),()))=(x.txt,(x.tight:Int),()) from rfl];dsimp only;rw[show(2:Int)=((2:Nat):Int) from rfl,uV x.txt (by omega),Uv];dsimp only;have hb:=jd (decide (x.tight<2)) x.txt;rw[if_pos (by simp;omega)];have:=yZ n (Zae.l5 n m) st [x] e (i+x.post.length) he h1 ([45]++brkT (decide (x.tight<2)) x.txt) 2 (by simp;omega);rw[show(1:Int)=(([x]:List Tr).length:Int) from rfl,show((2:Nat):Int)=2 from rfl,this,fT];rfl
 | .br x,_,hp,_,_,_,_,_,_=>hp.elim
 | .bin o a b,ho,hp,st,m,i,rest,hst,hd=>by
  have hP:(Tr.bin o a b).post=a.post++b.post++[(o.kind,0,[],())]:=rfl;rw[hP,UM,UM] at hd;rw[hP] at hst⊢;simp only[UD,UN,U2] at hst⊢;have hxa:=oV e he n a ho.1 hp.1 st (m+1+b.post.length) i (b.post++((o.kind,0,[],())::rest)) (by omega) hd;have hd2:e.drop (i+a.post.length)=b.post++((o.kind,0,[],())::rest):=by
   rw[<- List.drop_drop,hd]
   grind
  have hxb:=oV e he n b ho.2 hp.2 (st++[a]) (m+1) (i+a.post.length) ((o.kind,0,[],())::rest) (by simp;omega) hd2;rw[show m+(a.post.length+b.post.length+(0+1))=m+1+b.post.length+a.post.length by omega,hxa,hxb];have hd3:e.drop (i+a.post.length+b.post.length)=(o.kind,0,[],())::rest:=by
   rw[<- List.drop_drop,hd2]
   grind
  obtain⟨h1,h2,_⟩:=Dg hd3;have hla:=gY a ho.1 hp.1;have hlb:=gY b ho.2 hp.2;rw[Zae.l5];simp only[dt,UL];rw[if_pos (by omega),if_pos (by omega),h2];dsimp only;rw[nX,Uv];have e0:(az (o.kind,0,[],())).1=2:=by cases o<;>rfl
  have hpl:(parts (st++[a]++[b])).length=st.length+2:=by rw[ic];simp
  have hw:IntKind.i64.wrap (((parts (st++[a]++[b])).length:Int)-2)=(st.length:Int):=by grind [w64]
  have hon:((parts (st++[a]++[b])).take (parts (st++[a]++[b])).length).drop st.length=[(a.txt,(a.tight:Int),()),(b.txt,(b.tight:Int),())]:=by
   rw[List.take_length,UM,fT];exact List.drop_left' (ic st)
  dsimp only;rw[e0,hw,if_pos (by rw[hpl];omega),if_neg (show ¬o.kind=1 by cases o<;>decide),if_neg (show ¬o.kind=2 by cases o<;>decide),if_neg (show ¬o.kind=3 by cases o<;>decide)];simp only[UL,hon];have g0:([(a.txt,(a.tight:Int),()),(b.txt,(b.tight:Int),())]:List (Str×Int×Unit)).getD (0:Int).toNat (([]:Str),((0:Int),()))=(a.txt,(a.tight:Int),()):=rfl;have g1:([(a.txt,(a.tight:Int),()),(b.txt,(b.tight:Int),())]:List (Str×Int×Unit)).getD (1:Int).toNat (([]:Str),((0:Int),()))=(b.txt,(b.tight:Int),()):=rfl;simp only[g0,g1];have hb0:=jd (decide (a.tight<0)) a.txt;have hb1:=jd (decide (a.tight<1)) a.txt;have hc1:=jd (decide (b.tight<1)) b.txt;have hc2:=jd (decide (b.tight<2)) b.txt;have t0:Zbb.g a.txt (a.tight:Int) (0:Int)=some (brkT (decide (a.tight<0)) a.txt,()):=uV a.txt (by omega) a.tight 0;have t1:Zbb.g a.txt (a.tight:Int) (1:Int)=some (brkT (decide (a.tight<1)) a.txt,()):=uV a.txt (by omega) a.tight 1;have u1:Zbb.g b.txt (b.tight:Int) (1:Int)=some (brkT (decide (b.tight<1)) b.txt,()):=uV b.txt (by omega) b.tight 1;have u2:Zbb.g b.txt (b.tight:Int) (2:Int)=some (brkT (decide (b.tight<2)) b.txt,()):=uV b.txt (by omega) b.tight 2;have fin:=fun s k=>yZ n (Zae.l5 n m) st [a,b] e (i+a.post.length+b.post.length) he h1 s k (by grind [Tr.post_pos])
  have hab:st++[a]++[b]=st++[a,b]:=by simp
  rw[hab];cases o with
  |add=>
   rw[if_pos (show Opr.add.kind=4 from rfl),if_pos (by simp),t0,Uv];dsimp only[Opr.tight];rw[if_pos (by grind [List.length_nil]),if_pos (by simp),u1,Uv];dsimp only;rw[if_pos (by grind [List.length_cons]),show(2:Int)=(([a,b]:List Tr).length:Int) from rfl,fin,fT,UM,show i+a.post.length+b.post.length+1=i+(a.post.length+b.post.length+(0+1)) by omega];rfl
  |sub=>
   rw[if_neg (show ¬Opr.sub.kind=4 by decide),if_pos (show Opr.sub.kind=5 from rfl),if_pos (by simp),t0,Uv];dsimp only[Opr.tight];rw[if_pos (by grind [List.length_nil]),if_pos (by simp),u1,Uv];dsimp only;rw[if_pos (by grind [List.length_cons]),show(2:Int)=(([a,b]:List Tr).length:Int) from rfl,fin,fT,UM,show i+a.post.length+b.post.length+1=i+(a.post.length+b.post.length+(0+1)) by omega];rfl
  |mul=>
   rw[if_neg (show ¬Opr.mul.kind=4 by decide),if_neg (show ¬Opr.mul.kind=5 by decide),if_pos (show Opr.mul.kind=6 from rfl),if_pos (by simp),t1,Uv];dsimp only[Opr.tight];rw[if_pos (by grind [List.length_nil]),if_pos (by simp),u2,Uv];dsimp only;rw[if_pos (by grind [List.length_cons]),show(2:Int)=(([a,b]:List Tr).length:Int) from rfl,fin,fT,UM,show i+a.post.length+b.post.length+1=i+(a.post.length+b.post.length+(0+1)) by omega];rfl
theorem KG{t:Tr}(ho:t.ok)(hp:t.plain)(hw:fZ t.post)(hl:t.post.length<=64):Zae.g t.post=some (t.txt,0,()):=by
 unfold Zae.g Zae.f;rw[Bf t.post (by omega),Bg hw hl,Uv];dsimp only;rw[if_neg (show ¬(!true)=true by decide)];obtain⟨N,hN⟩:∃N,1000+t.post.length=N+1+t.post.length:=⟨999,by omega⟩
 rw[hN];have:=oV t.post (by omega) (N+1+t.post.length) t ho hp [] (N+1) 0 [] (by simp;omega) (by simp);simp_all [parts,Zae.l5]
end Rv
namespace Rv
open Go
abbrev R:=ah
abbrev aR:aj:=((0:Int),((0:Int),(([]:Str),((0:Int),()))))
theorem nz(l:List aj)(p:Nat)(out:List Item)(hp:p<l.length):Zbe.g l p out 0=some ((l.getD p aR).1,(l.getD p aR).2.1,(l.getD p aR).2.2.1,(l.getD p aR).2.2.2.1,true,l,(p:Int),out,0,()):=by
 unfold Zbe.g Zbe.f;simp only[df,dt];rw[if_pos (by simp),if_pos (by omega),if_neg (by omega),if_pos (by omega),UL]
theorem xV(l:List aj)(p:Nat)(out:List Item)(hp:l.length<=p):Zbe.g l p out 0=some (0,0,[],0,false,l,(p:Int),out,0,()):=by
 unfold Zbe.g Zbe.f;simp only[df,dt];rw[if_pos (by simp),if_pos (by omega),if_pos (by omega)]
theorem Oj(l:List aj)(p:Int)(out:List Item)(e:Int)(he:e≠0):Zbe.g l p out e=some (0,0,[],0,false,l,p,out,e,()):=by
 unfold Zbe.g Zbe.f;simp only[df];rw[if_neg (by simpa using he)]
theorem kE(n:Nat)(all:List Str)(hall:all.length<=100)(ok:Bool)(l:List aj)(p:Int)(out:List Item)(e k a:Int)(tx:Str)(nn:Int):∀(m i:Nat),i<=all.length->all.length-i<m ->
  Zaf.l3 n m ok all (all.length:Int) (i:Int) l p out e k a tx nn=if ok=true/\k=3/\tx∈all.drop i then some (tx,true,l,IntKind.i64.wrap (p+1),out,e,()) else some ([],false,l,p,out,e,()):=by
 intro m
 induction m with
 |zero=>intro i _ h;omega
 |succ m ih=>
  intro i hi hm;rw[Zaf.l3];simp only[dt,Zaf.j8,UL];by_cases h:i<all.length
  ·have hd:all.drop i=all.getD i []::all.drop (i+1):=by
    rw[UX h,UH,UF h];rfl
   have hih:=ih (i+1) (by omega) (by omega);rw[if_pos (by omega),if_pos (by omega),w64 (x:=(i:Int)+1) (by omega),show(i:Int)+1=((i+1:Nat):Int) by omega,hih,hd];generalize all.getD i []=s;by_cases h1:ok=true
   ·rw[if_pos h1];by_cases h2:k=3
    ·rw[if_pos h2];by_cases h3:tx=s
     ·rw[if_pos h3,if_pos ⟨h1,h2,by simp[h3]⟩,h3]
     ·rw[if_neg h3];by_cases h4:tx∈all.drop (i+1)
      ·rw[if_pos ⟨h1,h2,h4⟩,if_pos ⟨h1,h2,by simp[h4]⟩]
      ·rw[if_neg (fun h=>h4 h.2.2),if_neg (fun h=>by simp[h3,h4] at h)]
    ·rw[if_neg h2,if_neg (fun h=>h2 h.2.1),if_neg (fun h=>h2 h.2.1)]
   ·rw[if_neg h1,if_neg (fun h=>h1 h.1),if_neg (fun h=>h1 h.1)]
  ·have:i=all.length:=by omega
   subst this;rw[if_neg (by omega),if_neg (fun h=>by simp at h)]
theorem sJ(all:List Str)(hall:all.length<=100)(l:List aj)(p:Int)(out:List Item)(e:Int)(he:e≠0):Zaf.g all l p out e=some ([],false,l,p,out,e,()):=by
 unfold Zaf.g Zaf.f;rw[Oj l p out e he,Uv];have:=kE (1000+all.length+l.length+p.toNat+out.length+e.toNat) all hall false l p out e 0 0 [] 0 (1000+all.length+l.length+p.toNat+out.length+e.toNat) 0 (by omega) (by omega);rw[if_neg (fun h=>by cases h.1)] at this;exact this
def At(l:List aj)(p:Nat)(k:List Bt):Prop:=(l.drop p).map bare=k
theorem At.cons{l:List aj}{p:Nat}{b:Bt}{k:List Bt}(h:At l p (b::k)):p<l.length/\bare (l.getD p aR)=b/\At l (p+1) k:=by
 unfold At at h;have hp:p<l.length:=by
  apply Classical.byContradiction;intro hn;rw[List.drop_eq_nil_of_le (by omega)] at h;cases h
 have hd:l.drop p=l.getD p aR::l.drop (p+1):=by
  rw[UX hp,UH,UF hp];rfl
 rw[hd,UO,List.cons.injEq] at h;exact⟨hp,h.1,h.2⟩
theorem At.app{l:List aj}{k':List Bt}:∀{k:List Bt}{p:Nat},At l p (k++k')->At l (p+k.length) k'/\p+k.length<=l.length\/k=[]
 |[],_,_=>.inr rfl
 |b::k,p,h=>by
  obtain⟨h1,_,h3⟩:=At.cons h;rcases At.app h3 with⟨h4,h5⟩|rfl;·left;rw[UN,show p+(k.length+1)=p+1+k.length by omega];exact⟨h4,h5⟩
  ·left;exact⟨h3,by simp;omega⟩
theorem At.app'{l:List aj}{k k':List Bt}{p:Nat}(h:At l p (k++k')):At l (p+k.length) k':=by
 rcases At.app h with⟨h,_⟩|rfl;·exact h
 ·exact h
theorem At.len{l:List aj}{k k':List Bt}{p:Nat}(h:At l p (k++k'))(hk:k≠[]):p+k.length<=l.length:=by
 rcases At.app h with⟨_,h⟩|rfl;·exact h
 ·exact absurd rfl hk
def noS(all:List Str)(k:List Bt):Prop:=∀b r,k=b::r->¬(b.1=3/\b.2.1∈all)
theorem om(all:List Str)(hall:all.length<=100){l:List aj}{p:Nat}{s:Str}{v:Int}{k:List Bt}(h:At l p ((3,s,v)::k))(hl:l.length<=1000000)(hs:s∈all)(out:List Item):Zaf.g all l p out 0=some (s,true,l,((p+1:Nat):Int),out,0,()):=by
 obtain⟨h1,h2,_⟩:=At.cons h;unfold Zaf.g Zaf.f;rw[nz l p out h1,Uv];simp only[bare,UC] at h2;have:=kE (1000+all.length+l.length+(p:Int).toNat+out.length+(0:Int).toNat) all hall true l p out 0 (l.getD p aR).1 (l.getD p aR).2.1 (l.getD p aR).2.2.1 (l.getD p aR).2.2.2.1 (1000+all.length+l.length+(p:Int).toNat+out.length+(0:Int).toNat) 0 (by omega) (by omega);rw[if_pos ⟨rfl,h2.1,by rw[h2.2.1];simpa using hs⟩,h2.2.1,w64 (by omega)] at this;dsimp only;rw[h2.2.1];exact this
theorem wG(all:List Str)(hall:all.length<=100){l:List aj}{p:Nat}{k:List Bt}(h:At l p k)(hs:noS all k)(out:List Item):Zaf.g all l p out 0=some ([],false,l,(p:Int),out,0,()):=by
 unfold Zaf.g Zaf.f;cases k with
 |nil=>
  have hp:l.length<=p:=by
   unfold At at h;have:=congrArg List.length h;simp at this;omega
  rw[xV l p out hp,Uv];have:=kE (1000+all.length+l.length+(p:Int).toNat+out.length+(0:Int).toNat) all hall false l p out 0 0 0 [] 0 (1000+all.length+l.length+(p:Int).toNat+out.length+(0:Int).toNat) 0 (by omega) (by omega);rw[if_neg (fun h=>by cases h.1)] at this;exact this
 |cons b r=>
  obtain⟨h1,h2,_⟩:=At.cons h;rw[nz l p out h1,Uv];have hb:=hs b r rfl;have:=kE (1000+all.length+l.length+(p:Int).toNat+out.length+(0:Int).toNat) all hall true l p out 0 (l.getD p aR).1 (l.getD p aR).2.1 (l.getD p aR).2.2.1 (l.getD p aR).2.2.2.1 (1000+all.length+l.length+(p:Int).toNat+out.length+(0:Int).toNat) 0 (by omega) (by omega);rw[if_neg (fun h=>hb (by rw[<- h2];exact⟨h.2.1,h.2.2⟩))] at this;exact this
theorem put_eq(a b:Int)(c:Str)(l:List aj)(p:Int)(out:List Item)(e:Int)(ho:out.length<=1000000):Zas.g a b c l p out e=some (l,p,out++[(a,b,c,())],e,()):=by
 unfold Zas.g Zas.f;rw[if_pos (by simp;omega)]
theorem qj(x:Int)(l:List aj)(p:Int)(out:List Item):Zaz.g x l p out 0=some (l,p,out,x,()):=by
 unfold Zaz.g Zaz.f;rw[if_pos (by decide)]
abbrev dM:List Str:=[[42]]
abbrev dR:List Str:=[[43],[45]]
def okF(t:Tr):Prop:=∀(l:List aj) (p:Nat) (out:List Item) (rest:List Bt) (d q:Nat),l.length<=1000000->out.length+t.post.length<=1000000->At l p (t.toksA 2++rest)->d<=9->6*(9-d)+1<=q ->
 (d+t.depA 2<=8->(R q).expr_parser_factor (d:Int) l p out 0=some (l,((p+(t.toksA 2).length:Nat):Int),out++t.post,0,())) /\
 (¬d+t.depA 2<=8->∃(p':Int) (out':List Item),(R q).expr_parser_factor (d:Int) l p out 0=some (l,p',out',24,())/\out'.length<=out.length+t.post.length)
def mc:Tr->Nat
 | .bin .mul a _=>mc a+1
 |_=>0
def okT(t:Tr):Prop:=∀(l:List aj) (p:Nat) (out:List Item) (rest:List Bt) (d q m n:Nat),l.length<=1000000->out.length+t.post.length<=1000000->At l p (t.toksA 1++rest)->d<=9->6*(9-d)+2<=q->mc t<m ->
 (d+t.depA 1<=8->((R q).expr_parser_sum_1_1 (d:Int) l p out 0).bind (fun y1=>expr_parser_row_c284.l1 n (R q) m dM y1.2.2.1 y1.2.2.2.1 y1.2.2.2.2.1 y1.2.2.2.2.2.1 y1.2.1)=expr_parser_row_c284.l1 n (R q) (m-mc t) dM l ((p+(t.toksA 1).length:Nat):Int) (out++t.post) 0 (d:Int)) /\
 (¬d+t.depA 1<=8->∃(p':Int) (out':List Item),((R q).expr_parser_sum_1_1 (d:Int) l p out 0).bind (fun y1=>expr_parser_row_c284.l1 n (R q) m dM y1.2.2.1 y1.2.2.2.1 y1.2.2.2.2.1 y1.2.2.2.2.2.1 y1.2.1)=some (l,p',out',24,(),(d:Int),())/\out'.length<=out.length+t.post.length)
def ac:Tr->Nat
 | .bin .add a _=>ac a+1
 | .bin .sub a _=>ac a+1
 |_=>0
def okS(t:Tr):Prop:=∀(l:List aj) (p:Nat) (out:List Item) (rest:List Bt) (d q m n:Nat),l.length<=1000000->out.length+t.post.length<=1000000->At l p (t.toks++rest)->noS dM rest->d<=9->6*(9-d)+4<=q->ac t<m ->
 (d+t.dep<=8->((R q).expr_parser_sum_1 (d:Int) l p out 0).bind (fun y1=>expr_parser_row_c283.l1 n (R q) m dR y1.2.2.1 y1.2.2.2.1 y1.2.2.2.2.1 y1.2.2.2.2.2.1 y1.2.1)=expr_parser_row_c283.l1 n (R q) (m-ac t) dR l ((p+t.toks.length:Nat):Int) (out++t.post) 0 (d:Int)) /\
 (¬d+t.dep<=8->∃(p':Int) (out':List Item),((R q).expr_parser_sum_1 (d:Int) l p out 0).bind (fun y1=>expr_parser_row_c283.l1 n (R q) m dR y1.2.2.1 y1.2.2.2.1 y1.2.2.2.2.1 y1.2.2.2.2.2.1 y1.2.1)=some (l,p',out',24,(),(d:Int),())/\out'.length<=out.length+t.post.length)
theorem PS:∀t:Tr,mc t<=t.post.length
 | .num _=>Nat.zero_le _
 | .nam _=>Nat.zero_le _
 | .neg _=>Nat.zero_le _
 | .bin .mul a b=>by have:=PS a;simp[mc,Tr.post];omega
 | .bin .add _ _=>Nat.zero_le _
 | .bin .sub _ _=>Nat.zero_le _
 | .br _=>Nat.zero_le _
end Rv
namespace Rv
open Go
theorem D5(x:Int)(l:List aj)(p:Int)(out:List Item)(e:Int)(he:e≠0):Zaz.g x l p out e=some (l,p,out,e,()):=by
 simp_all [Zaz.g,Zaz.f]
theorem wm(n:Nat)(r:ay)(m:Nat)(l:List aj)(p:Int)(out:List Item)(e d:Int)(he:e≠0):expr_parser_row_c284.l1 n r (m+1) dM l p out e d=some (l,p,out,e,(),d,()):=by
 simp_all [expr_parser_row_c284.l1,sJ]
theorem wh(n:Nat)(r:ay)(m:Nat)(l:List aj)(p:Int)(out:List Item)(e d:Int)(he:e≠0):expr_parser_row_c283.l1 n r (m+1) dR l p out e d=some (l,p,out,e,(),d,()):=by
 simp_all [expr_parser_row_c283.l1,sJ]
theorem NS(n:Nat)(r:ay)(m:Nat){l:List aj}{p:Nat}{k:List Bt}(h:At l p k)(hs:noS dM k)(out:List Item)(d:Int):expr_parser_row_c284.l1 n r (m+1) dM l p out 0 d=some (l,(p:Int),out,0,(),d,()):=by
 rw[expr_parser_row_c284.l1,wG dM (by simp) h hs out,Uv];rfl
theorem NR(n:Nat)(r:ay)(m:Nat){l:List aj}{p:Nat}{k:List Bt}(h:At l p k)(hs:noS dR k)(out:List Item)(d:Int):expr_parser_row_c283.l1 n r (m+1) dR l p out 0 d=some (l,(p:Int),out,0,(),d,()):=by
 rw[expr_parser_row_c283.l1,wG dR (by simp) h hs out,Uv];rfl
theorem J8(q:Nat)(l:List aj)(p:Int)(out:List Item):(R (q+1)).expr_parser_factor 9 l p out 0=some (l,p,out,24,()):=by
 show expr_parser_factor.h (R q) 9 l p out 0=_;simp_all [expr_parser_factor.h,expr_parser_factor.f,qj]
theorem pX{t:Tr} (H:∀(l:List aj) (p:Nat) (out:List Item) (rest:List Bt) (d q:Nat),l.length<=1000000->out.length+t.post.length<=1000000->At l p (t.toksA 2++rest)->d<=8->6*(9-d)<=q ->
  (d+t.depA 2<=8->expr_parser_factor.h (R q) (d:Int) l p out 0=some (l,((p+(t.toksA 2).length:Nat):Int),out++t.post,0,())) /\
  (¬d+t.depA 2<=8->∃(p':Int) (out':List Item),expr_parser_factor.h (R q) (d:Int) l p out 0=some (l,p',out',24,())/\out'.length<=out.length+t.post.length)):okF t:=by
 intro l p out rest d q hl ho hat hd hq;obtain⟨q,rfl⟩:∃q',q=q'+1:=⟨q-1,by omega⟩
 by_cases h9:d=9;·grind [J8]
 ·exact H l p out rest d q hl ho hat (by omega) (by omega)
theorem Ey{all:List Str}{b:Bt}{r:List Bt}(h:b.1≠3):noS all (b::r):=fun b' r' e h'=>by grind
theorem xY{all:List Str}{b:Bt}{r:List Bt}(h:b.2.1 ∉ all):noS all (b::r):=fun b' r' e h'=>by grind
theorem Tv(n:Int):okF (.num n):=pX fun l p out rest d q hl ho hat hd hq=>by
 have hat:At l p ((2,Lib.itoa n,n)::rest):=hat
 obtain⟨h1,h2,_⟩:=At.cons hat
 simp only[bare,UC] at h2;refine⟨fun _=>?_,fun h=>absurd (show d+(Tr.num n).depA 2<=8 from hd) h⟩;unfold expr_parser_factor.h expr_parser_factor.f;rw[if_neg (by decide),if_neg (by simp;omega),wG [[45],[40]] (by simp) hat (Ey (show(2:Int)≠3 by decide)) out,Uv];dsimp only;rw[if_neg (show ¬decide (([]:Str)=[45])=true by decide),if_neg (show ¬decide (([]:Str)=[40])=true by decide),nz l p out h1,Uv];dsimp only;rw[if_pos rfl,if_pos (by grind),h2.2.2,put_eq _ _ _ _ _ _ _ (by omega),Uv];unfold expr_parser_factor.j19;dsimp only;rw[w64 (by omega)];rfl
theorem Tt{s:Str}(hs:ax s=true):okF (.nam s):=pX fun l p out rest d q hl ho hat hd hq=>by
 have hat:At l p ((1,s,0)::rest):=hat
 obtain⟨h1,h2,_⟩:=At.cons hat
 simp only[bare,UC] at h2;refine⟨fun _=>?_,fun h=>absurd (show d+(Tr.nam s).depA 2<=8 from hd) h⟩;unfold expr_parser_factor.h expr_parser_factor.f;rw[if_neg (by decide),if_neg (by simp;omega),wG [[45],[40]] (by simp) hat (Ey (show(1:Int)≠3 by decide)) out,Uv];dsimp only;rw[if_neg (show ¬decide (([]:Str)=[45])=true by decide),if_neg (show ¬decide (([]:Str)=[40])=true by decide),nz l p out h1,Uv];dsimp only;rw[if_pos rfl,if_neg (by grind),if_pos rfl,if_pos (by grind),h2.2.1,nO,hs,Uv];dsimp only;rw[if_pos rfl,put_eq _ _ _ _ _ _ _ (by omega),Uv];unfold expr_parser_factor.j19;dsimp only;rw[w64 (by omega)];rfl
theorem Tu{x:Tr}(hx:okF x):okF (.neg x):=pX fun l p out rest d q hl ho hat hd hq=>by
 have hat:At l p (Ba::(x.toksA 2++rest)):=by
  have e:(Tr.neg x).toksA 2++rest=Ba::(x.toksA 2++rest):=rfl
  grind
 obtain⟨h1,_,hat2⟩:=At.cons hat
 have hpost:(Tr.neg x).post=x.post++[(3,0,[],())]:=rfl;have hdep:(Tr.neg x).depA 2=1+x.depA 2:=rfl;have htl:((Tr.neg x).toksA 2).length=1+(x.toksA 2).length:=by
  show(Ba::x.toksA 2).length=_
  grind
 rw[hpost] at ho;simp only[UD,UN,U2] at ho;obtain⟨g1,g2⟩:=hx l (p+1) out rest (d+1) q hl (by omega) hat2 (by omega) (by omega);rw[hdep,htl,hpost];unfold expr_parser_factor.h expr_parser_factor.f;rw[if_neg (by decide),if_neg (by simp;omega),om [[45],[40]] (by simp) hat hl (by simp) out,Uv];dsimp only;rw[if_pos (show decide (([45]:Str)=[45])=true by decide),w64 (by omega),show(d:Int)+1=((d+1:Nat):Int) by omega];constructor;·grind [put_eq]
 ·intro h;obtain⟨p',out',g3,g4⟩:=g2 (by omega);rw[g3,Uv];dsimp only;rw[put_eq _ _ _ _ _ _ _ (by omega),Uv]
  grind
theorem qd(b:Bool)(l:List Bt):l.length<=(brk b l).length:=by grind [brk]
theorem G5:∀t:Tr,mc t<=t.toks.length
 | .num _=>Nat.zero_le _
 | .nam _=>Nat.zero_le _
 | .neg _=>Nat.zero_le _
 | .bin .mul a b=>by
  have h1:=G5 a
  grind [qd,mc,Tr.toks]
 | .bin .add _ _=>Nat.zero_le _
 | .bin .sub _ _=>Nat.zero_le _
 | .br _=>Nat.zero_le _
theorem zW:∀t:Tr,ac t<=t.toks.length
 | .num _=>Nat.zero_le _
 | .nam _=>Nat.zero_le _
 | .neg _=>Nat.zero_le _
 | .bin .mul _ _=>Nat.zero_le _
 | .bin .add a b=>by
  have h1:=zW a
  grind [qd,ac,Tr.toks]
 | .bin .sub a b=>by
  have h1:=zW a
  grind [qd,ac,Tr.toks]
 | .br _=>Nat.zero_le _
theorem Bc(t:Tr):t.toks≠[]:=by cases t<;>simp[Tr.toks]
theorem Pv(lv:Nat)(t:Tr):t.toksA lv≠[]:=by
 intro h;have h1:=qd (decide (t.tight<lv)) t.toks
 grind [Bc,List.length_eq_zero_iff,Tr.toksA]
theorem Ka{t:Tr}(hT:okT t)(l:List aj)(p:Nat)(out:List Item)(rest:List Bt)(d q:Nat)(hl:l.length<=1000000)(ho:out.length+t.post.length<=1000000)(hat:At l p (t.toksA 1++rest))(hr:noS dM rest)(hd:d<=9)(hq:6*(9-d)+4<=q) :
  (d+t.depA 1<=8->(R q).expr_parser_sum_1 (d:Int) l p out 0=some ((),(d:Int),l,((p+(t.toksA 1).length:Nat):Int),out++t.post,0,())) /\
  (¬d+t.depA 1<=8->∃(p':Int) (out':List Item),(R q).expr_parser_sum_1 (d:Int) l p out 0=some ((),(d:Int),l,p',out',24,())/\out'.length<=out.length+t.post.length):=by
 obtain⟨q,rfl⟩:∃q',q=q'+2:=⟨q-2,by omega⟩
 have hmc:=PS t;show(_->expr_parser_sum_1.h (R (q+1)) d l p out 0=_)/\(_->∃p' out',expr_parser_sum_1.h (R (q+1)) d l p out 0=_/\_)
 unfold expr_parser_sum_1.h expr_parser_sum_1.f;have e:(R (q+1)).expr_parser_row_c284 dM l (p:Int) out 0 (d:Int)=expr_parser_row_c284.h (R q) dM l (p:Int) out 0 (d:Int):=rfl;rw[e];unfold expr_parser_row_c284.h expr_parser_row_c284.f;have hN:∃N,1000+dM.length+l.length+(p:Int).toNat+out.length+(0:Int).toNat+(d:Int).toNat=N:=⟨_,rfl⟩
 obtain⟨N,hN⟩:=hN;rw[hN];have hlen:=At.len hat (Pv 1 t)
 have h1:=G5 t;have h2:=qd (decide (t.tight<1)) t.toks;have hbig:mc t<N:=by grind [Tr.toksA]
 obtain⟨g1,g2⟩:=hT l p out rest d q N N hl ho hat hd (by omega) hbig;constructor
 ·intro h;rw[g1 h];obtain⟨m,hm⟩:∃m,N-mc t=m+1:=⟨N-mc t-1,by omega⟩
  rw[hm,NS N (R q) m (At.app' hat) hr,Uv]
 ·intro h;obtain⟨p',out',g3,g4⟩:=g2 h;simp_all
theorem Dy{t:Tr}(hF:okF t)(hA:t.toksA 1=t.toksA 2)(hD:t.depA 1=t.depA 2)(hm0:mc t=0):okT t:=by
 intro l p out rest d q m n hl ho hat hd hq hm;obtain⟨q,rfl⟩:∃q',q=q'+1:=⟨q-1,by omega⟩
 rw[hA] at hat
 obtain⟨g1,g2⟩:=hF l p out rest d q hl ho hat hd (by omega);have e:(R (q+1)).expr_parser_sum_1_1 (d:Int) l (p:Int) out 0=expr_parser_sum_1_1.h (R q) (d:Int) l (p:Int) out 0:=rfl;rw[e,hA,hD,hm0];unfold expr_parser_sum_1_1.h expr_parser_sum_1_1.f;constructor;·grind
 ·intro h;obtain⟨p',out',g3,g4⟩:=g2 h;rw[g3,Uv,Uv];obtain⟨m,rfl⟩:∃m',m=m'+1:=⟨m-1,by omega⟩
  simp_all [wm]
theorem mx2{d x y:Nat}(h:d+max x y<=8):d+y<=8:=by omega
theorem mx3{d x y:Nat}(h:¬d+max x y<=8)(h1:d+x<=8):¬d+y<=8:=by omega
theorem Tw{a b:Tr}(ha:okT a)(hb:okF b):okT (.bin .mul a b):=by
 intro l p out rest d q m n hl ho hat hd hq hm;have hA:(Tr.bin .mul a b).toksA 1=a.toksA 1++tOp .mul::b.toksA 2:=rfl;have hP:(Tr.bin .mul a b).post=a.post++b.post++[(6,0,[],())]:=rfl;have hD:(Tr.bin .mul a b).depA 1=max (a.depA 1) (b.depA 2):=rfl;have hM:mc (Tr.bin .mul a b)=mc a+1:=rfl;rw[hA,UM,List.cons_append] at hat
 rw[hM] at hm;rw[hP] at ho;simp only[UD,UN,U2] at ho;obtain⟨g1,g2⟩:=ha l p out (tOp .mul::(b.toksA 2++rest)) d q m n hl (by omega) hat hd hq (by omega);rw[hA,hP,hD,hM];clear hD;have hat1:=At.app' hat
 obtain⟨_,_,hat2⟩:=At.cons hat1;by_cases h1:d+a.depA 1<=8
 ·rw[g1 h1];obtain⟨m',hm'⟩:∃m',m-mc a=m'+1:=⟨m-mc a-1,by omega⟩
  rw[hm',expr_parser_row_c284.l1,om dM (by simp) hat1 hl (by simp[tOp,Opr.byte]) _,Uv];dsimp only;rw[if_neg (show ¬(!true)=true by decide)];obtain⟨q,rfl⟩:∃q',q=q'+1:=⟨q-1,by omega⟩
  obtain⟨k1,k2⟩:=hb l (p+(a.toksA 1).length+1) (out++a.post) rest d q hl (by simp;omega) hat2 hd (by omega);have e:(R (q+1)).expr_parser_sum_1_1 (d:Int) l ((p+(a.toksA 1).length+1:Nat):Int) (out++a.post) 0=expr_parser_sum_1_1.h (R q) (d:Int) l ((p+(a.toksA 1).length+1:Nat):Int) (out++a.post) 0:=rfl;rw[e];unfold expr_parser_sum_1_1.h expr_parser_sum_1_1.f;constructor
  ·intro h;rw[k1 (mx2 h),Uv,Uv];dsimp only;rw[put_eq _ _ _ _ _ _ _ (by simp;omega),Uv];dsimp only;have e1:m-(mc a+1)=m':=by grind
   have e2:p+(a.toksA 1).length+1+(b.toksA 2).length=p+(a.toksA 1++tOp Opr.mul::b.toksA 2).length:=by simp;omega
   rw[e1,e2,UM (out++a.post),UM out,<- UM a.post];rfl
  ·intro h;obtain⟨p',out',k3,k4⟩:=k2 (mx3 h h1);rw[k3,Uv,Uv];dsimp only;simp only[UD] at k4;rw[put_eq _ _ _ _ _ _ _ (by omega),Uv];dsimp only;obtain⟨m'',rfl⟩:∃k,m'=k+1:=⟨m'-1,by grind⟩
   exact⟨p',_,wm n (R (q+1)) m'' l p' _ 24 d (by decide),by grind⟩
 grind
theorem RQ{t:Tr}(hT:okT t)(hA:t.toks=t.toksA 1)(hD:t.dep=t.depA 1)(hm0:ac t=0):okS t:=by
 intro l p out rest d q m n hl ho hat hr hd hq hm;rw[hA] at hat
 obtain⟨g1,g2⟩:=Ka hT l p out rest d q hl ho hat hr hd hq;rw[hA,hD,hm0];constructor;·grind
 ·intro h;obtain⟨p',out',g3,g4⟩:=g2 h;rw[g3,Uv];obtain⟨m,rfl⟩:∃m',m=m'+1:=⟨m-1,by grind⟩
  simp_all [wh]
theorem PH{o:Opr}(ho':o=.add\/o=.sub){a b:Tr}(ha:okS a)(hb:okT b)(haA:a.toksA 0=a.toks):okS (.bin o a b):=by
 intro l p out rest d q m n hl ho hat hr hd hq hm;have hA:(Tr.bin o a b).toks=a.toks++tOp o::b.toksA 1:=by
  rcases ho' with rfl|rfl<;>(rw[<- haA];rfl)
 have hP:(Tr.bin o a b).post=a.post++b.post++[(o.kind,0,[],())]:=rfl;have hD:(Tr.bin o a b).dep=max a.dep (b.depA 1):=by
  rcases ho' with rfl|rfl;·show max (a.dep+if a.tight<0 then 1 else 0) (b.dep+if b.tight<0+1 then 1 else 0)=_;rw[if_neg (Nat.not_lt_zero _)];rfl
  ·show max (a.dep+if a.tight<0 then 1 else 0) (b.dep+if b.tight<0+1 then 1 else 0)=_;rw[if_neg (Nat.not_lt_zero _)];rfl
 have hM:ac (Tr.bin o a b)=ac a+1:=by rcases ho' with rfl|rfl<;>rfl
 have hin:[o.byte]∈dR:=by rcases ho' with rfl|rfl<;>decide
 have hno:noS dM (tOp o::(b.toksA 1++rest)):=xY (by rcases ho' with rfl|rfl<;>decide);have hk:(L.kinds [o.byte]).1=o.kind:=by rcases ho' with rfl|rfl<;>rfl
 rw[hA,UM,List.cons_append] at hat
 rw[hM] at hm;rw[hP] at ho;simp only[UD,UN,U2] at ho;obtain⟨g1,g2⟩:=ha l p out (tOp o::(b.toksA 1++rest)) d q m n hl (by omega) hat hno hd hq (by omega);rw[hA,hP,hD,hM];clear hD;have hat1:=At.app' hat
 obtain⟨_,_,hat2⟩:=At.cons hat1;by_cases h1:d+a.dep<=8
 ·rw[g1 h1];obtain⟨m',hm'⟩:∃m',m-ac a=m'+1:=⟨m-ac a-1,by grind⟩
  rw[hm',expr_parser_row_c283.l1,om dR (by simp) hat1 hl hin _,Uv];dsimp only;rw[if_neg (show ¬(!true)=true by decide),hk];obtain⟨k1,k2⟩:=Ka hb l (p+a.toks.length+1) (out++a.post) rest d q hl (by grind) hat2 hr hd hq;constructor;·grind [put_eq]
  ·intro h;obtain⟨p',out',k3,k4⟩:=k2 (mx3 h h1);rw[k3,Uv];dsimp only;simp only[UD] at k4;rw[put_eq _ _ _ _ _ _ _ (by grind),Uv];dsimp only;obtain⟨m'',rfl⟩:∃k,m'=k+1:=⟨m'-1,by grind⟩
   exact⟨p',_,wh n (R q) m'' l p' _ 24 d (by decide),by grind⟩
 grind
theorem Fw{t:Tr}(hS:okS t)(l:List aj)(p:Nat)(out:List Item)(rest:List Bt)(d q:Nat)(hl:l.length<=1000000)(ho:out.length+t.post.length<=1000000)(hat:At l p (t.toks++rest))(hr:noS dM rest)(hr2:noS dR rest)(hd:d<=9)(hq:6*(9-d)+6<=q) :
  (d+t.dep<=8->(R q).expr_parser_sum (d:Int) l p out 0=some (l,((p+t.toks.length:Nat):Int),out++t.post,0,())) /\
  (¬d+t.dep<=8->∃(p':Int) (out':List Item),(R q).expr_parser_sum (d:Int) l p out 0=some (l,p',out',24,())/\out'.length<=out.length+t.post.length):=by
 obtain⟨q,rfl⟩:∃q',q=q'+2:=⟨q-2,by omega⟩
 show(_->expr_parser_sum.h (R (q+1)) d l p out 0=_)/\(_->∃p' out',expr_parser_sum.h (R (q+1)) d l p out 0=_/\_)
 unfold expr_parser_sum.h expr_parser_sum.f;have e:(R (q+1)).expr_parser_row_c283 dR l (p:Int) out 0 (d:Int)=expr_parser_row_c283.h (R q) dR l (p:Int) out 0 (d:Int):=rfl;rw[e];unfold expr_parser_row_c283.h expr_parser_row_c283.f;obtain⟨N,hN⟩:∃N,1000+dR.length+l.length+(p:Int).toNat+out.length+(0:Int).toNat+(d:Int).toNat=N:=⟨_,rfl⟩
 rw[hN];have hlen:=At.len hat (Bc t)
 have h1:=zW t;have hbig:ac t<N:=by omega
 obtain⟨g1,g2⟩:=hS l p out rest d q N N hl ho hat hr hd (by omega) hbig;constructor
 ·intro h;rw[g1 h];obtain⟨m,hm⟩:∃m,N-ac t=m+1:=⟨N-ac t-1,by grind⟩
  rw[hm,NR N (R q) m (At.app' hat) hr2,Uv]
 ·intro h;obtain⟨p',out',g3,g4⟩:=g2 h;simp_all
theorem Gs{x:Tr}(hS:okS x)(l:List aj)(p:Nat)(out:List Item)(rest:List Bt)(d q:Nat)(hl:l.length<=1000000)(ho:out.length+x.post.length<=1000000)(hat:At l p (tLp::(x.toks++tRp::rest)))(hd:d<=8)(hq:6*(9-d)<=q) :
  (d+(x.dep+1)<=8->expr_parser_factor.h (R q) (d:Int) l p out 0=some (l,((p+(x.toks.length+2):Nat):Int),out++x.post,0,())) /\
  (¬d+(x.dep+1)<=8->∃(p':Int) (out':List Item),expr_parser_factor.h (R q) (d:Int) l p out 0=some (l,p',out',24,())/\out'.length<=out.length+x.post.length):=by
 obtain⟨_,_,hat2⟩:=At.cons hat
 have hn1:noS dM (tRp::rest):=xY (by decide);have hn2:noS dR (tRp::rest):=xY (by decide);obtain⟨g1,g2⟩:=Fw hS l (p+1) out (tRp::rest) (d+1) q hl ho hat2 hn1 hn2 (by omega) (by omega);unfold expr_parser_factor.h expr_parser_factor.f;rw[if_neg (by decide),if_neg (by simp;omega),om [[45],[40]] (by simp) hat hl (by simp) out,Uv];dsimp only;rw[if_neg (show ¬decide (([40]:Str)=[45])=true by decide),if_pos (show decide (([40]:Str)=[40])=true by decide),w64 (by omega),show(d:Int)+1=((d+1:Nat):Int) by omega];constructor
 ·intro h;rw[g1 (by grind),Uv];dsimp only;rw[om [[41]] (by simp) (At.app' hat2) hl (by simp) _,Uv]
  grind
 ·intro h;obtain⟨p',out',g3,g4⟩:=g2 (by grind);simp_all [sJ,D5]
theorem Iu{x:Tr}(hS:okS x)(ht:x.tight<2):okF x:=pX fun l p out rest d q hl ho hat hd hq=>by
 have hA:x.toksA 2=tLp::(x.toks++[tRp]):=by simp_all [Tr.toksA,brk]
 have hD:x.depA 2=x.dep+1:=by unfold Tr.depA;rw[if_pos ht]
 rw[hA] at hat⊢;rw[hD];have hat':At l p (tLp::(x.toks++tRp::rest)):=by
  grind
 grind [Gs]
theorem Ua{x:Tr}(hS:okS x):okF (.br x):=pX fun l p out rest d q hl ho hat hd hq=>by
 have hA:(Tr.br x).toksA 2=tLp::(x.toks++[tRp]):=rfl;have hD:(Tr.br x).depA 2=x.dep+1:=by show 1+x.dep+(if(2:Nat)<2 then 1 else 0)=_;grind
 have hP:(Tr.br x).post=x.post:=rfl;rw[hP] at ho⊢;rw[hA] at hat⊢;rw[hD];have hat':At l p (tLp::(x.toks++tRp::rest)):=by
  grind
 grind [Gs]
theorem vU{t:Tr}(hF:okF t)(ht:t.tight=2)(hm0:mc t=0):okT t:=
 Dy hF (by unfold Tr.toksA;rw[ht];rfl) (by grind [Tr.depA]) hm0
theorem p9{t:Tr}(hT:okT t)(ht:1<=t.tight)(ha0:ac t=0):okS t:=
 RQ hT (by unfold Tr.toksA brk;grind) (by unfold Tr.depA;grind) ha0
theorem iC:∀t:Tr,t.ok->okF t/\okT t/\okS t
 | .num n,_=>by
  have hF:=Tv n;have hT:=vU hF rfl rfl;exact⟨hF,hT,p9 hT (show 1<=2 by decide) rfl⟩
 | .nam s,h=>by
  have hF:=Tt h;have hT:=vU hF rfl rfl;exact⟨hF,hT,p9 hT (show 1<=2 by decide) rfl⟩
 | .neg x,h=>by
  have hF:=Tu (iC x h).1;have hT:=vU hF rfl rfl;exact⟨hF,hT,p9 hT (show 1<=2 by decide) rfl⟩
 | .br x,h=>by
  have hF:=Ua (iC x h).2.2;have hT:=vU hF rfl rfl;exact⟨hF,hT,p9 hT (show 1<=2 by decide) rfl⟩
 | .bin .mul a b,h=>by
  have hT:=Tw (iC a h.1).2.1 (iC b h.2).1;have hS:=p9 hT (show 1<=1 by decide) rfl;exact⟨Iu hS (show 1<2 by decide),hT,hS⟩
 | .bin .add a b,h=>by
  have hS:=PH (.inl rfl) (iC a h.1).2.2 (iC b h.2).2.1 (by unfold Tr.toksA brk;grind);have hF:=Iu hS (show 0<2 by decide);exact⟨hF,Dy hF rfl rfl rfl,hS⟩
 | .bin .sub a b,h=>by
  have hS:=PH (.inr rfl) (iC a h.1).2.2 (iC b h.2).2.1 (by unfold Tr.toksA brk;grind);have hF:=Iu hS (show 0<2 by decide);exact⟨hF,Dy hF rfl rfl rfl,hS⟩
theorem KF{t:Tr}(ht:t.ok)(l:List aj)(p:Nat)(rest:List Bt)(hl:l.length<=1000000)(hpost:t.post.length<=64)(hat:At l p (t.toks++rest))(hr:noS dM rest)(hr2:noS dR rest) :
  (t.dep<=8->Zau.g l p=some (t.post,((p+t.toks.length:Nat):Int),0,()))/\(¬t.dep<=8->Zau.g l p=some ([],0,24,())):=by
 unfold Zau.g Zau.f expr_parser_sum.g;obtain⟨g1,g2⟩:=Fw (iC t ht).2.2 l p [] rest 0 (1000+(0:Int).toNat+l.length+(p:Int).toNat+([]:List Item).length+(0:Int).toNat) hl (by simp;omega) hat hr hr2 (by omega) (by omega);constructor
 ·intro h;have:=g1 (by grind);rw[show((0:Nat):Int)=0 from rfl] at this;rw[this,Uv];dsimp only;rw[if_pos (show decide ((0:Int)=0)=true by decide),if_neg (by grind),UY];unfold Zau.j5
  grind
 ·intro h;obtain⟨p',out',g3,g4⟩:=g2 (by grind);rw[show((0:Nat):Int)=0 from rfl] at g3;rw[g3,Uv];dsimp only;rw[if_neg (show ¬decide ((24:Int)=0)=true by decide)];unfold Zau.j5
  grind
end Rv
namespace Rv
open Go
theorem JM{s:Str}{b:List Bt}(h:bK s b)(hs:s.length<=1000000):∃ts:List aj,ts.map bare=b/\Zah.g s=some (ts,0,()):=by
 obtain⟨ts,h1,h2⟩:=h 0;refine⟨ts,h1,?_⟩;have:=h2 [] (.inl rfl);rw[UU,mi] at this;rw[wo s hs,this];simp[kg,bi]
theorem At.whole{ts:List aj}{b:List Bt}(h:ts.map bare=b):At ts 0 (b++[]):=by
 unfold At;rw[U3,h,UU]
theorem G9(all:List Str):noS all []:=fun b r h=>by cases h
end Rv
namespace Rv
open Go
structure Sm where
 k:Int
 o:Int
 a:Int
 b:Int
 c:Int
 u:Bool
 e:List Item
 nm:Str
def iU(t:Tr):Prop:=t.ok/\t.plain/\fZ t.post/\t.post.length<=64
def postO:Option Tr->List Item
 |none=>[]
 |some t=>t.post
inductive GoodS:Sm->Option Tr->Prop
 |none:GoodS ⟨0,0,0,0,0,false,[],[]⟩ none
 |ins0 {k o a b c:Int} {u:Bool}:bB k o a b c u->(k=1\/k=3\/k=4\/k=6)->GoodS ⟨k,o,a,b,c,u,[],[]⟩ none
 |ins1 {k o a b c:Int} {u:Bool} {t:Tr}:bB k o a b c u->(k=2\/k=5\/k=7)->iU t->GoodS ⟨k,o,a,b,c,u,t.post,[]⟩ (some t)
 |load {a:Int} {t:Tr}:rg a->iU t->GoodS ⟨8,0,a,0,0,false,t.post,[]⟩ (some t)
 |word {t:Tr}:iU t->GoodS ⟨9,0,0,0,0,false,t.post,[]⟩ (some t)
 |exp {nm:Str}:bZ nm=true->GoodS ⟨10,0,0,0,0,false,[],nm⟩ none
def rn(a:Int):Str:=gB a.toNat
theorem Dm{a:Int}(h:rg a):Zay.g a=some (rn a,()):=by
 obtain⟨k,rfl⟩:∃k:Nat,a=(k:Int):=⟨a.toNat,by have:=h.1;omega⟩
 have:=(yo k (by have:=h.2;omega)).1
 grind [rn]
theorem TR(k:Nat):gB k≠[]:=by grind [gB]
theorem jP(k:Int):Zdg.g k=some (decide (k=2\/k=5\/k=7\/k=8\/k=9),()):=by
 unfold Zdg.g Zdg.f
 grind
abbrev Ew(s:Sm):Option (Bool×Unit):=Zak.g s.k s.o s.a s.b s.c s.u s.e s.nm
theorem Og{s:Sm}{t:Option Tr}(h:GoodS s t):Ew s=some (true,()):=by
 have hw:∀t:Tr,iU t->Zba.g t.post=some (true,()):=fun t h=>by
  rw[Bf t.post (by have:=h.2.2.2;omega),Bg h.2.2.1 h.2.2.2]
 have hp:∀t:Tr,decide ((0:Int)<(t.post.length:Int))=true:=fun t=>by have:=t.post_pos;simp;omega
 cases h with
 |none=>rfl
 |@ins0 k o a b c u h hk=>
  unfold Ew Zak.g;generalize 1000+_+_+_+_+_+_+_=n;unfold Zak.f;have hn:decide (k=2\/k=5\/k=7\/k=8\/k=9)=false:=by simp;omega
  have h10:decide (k=10)=false:=by simp;omega
  simp only[jP,hn,Uv];rw[if_pos (by simp),if_neg (by decide),h10,if_neg (by simp)];unfold Zak.j4 Zak.j12;simp only[dt];rw[Ei h,Uv,if_neg (by omega),if_neg (by omega),if_neg (by omega),if_neg (by omega)]
 |@ins1 k o a b c u t h hk ht=>
  unfold Ew Zak.g;generalize 1000+_+_+_+_+_+_+_=n;unfold Zak.f;have hn:decide (k=2\/k=5\/k=7\/k=8\/k=9)=true:=by simp;omega
  have h10:decide (k=10)=false:=by simp;omega
  simp only[jP,hn,Uv,hp,hw t ht];rw[if_pos (by simp),if_pos (by decide),if_pos (by decide),h10,if_neg (by simp)];unfold Zak.j4 Zak.j12;simp only[dt];rw[Ei h,Uv,if_neg (by omega),if_neg (by omega),if_neg (by omega),if_neg (by omega)]
 |@load a t ha ht=>
  unfold Ew Zak.g;simp_all [Zak.f,jP,Zak.j4,Dm,TR,rn]
 |@word t ht=>
  unfold Ew Zak.g;generalize 1000+_+_+_+_+_+_+_=n;unfold Zak.f;simp only[jP,Uv,hp,hw t ht];rw[if_pos (by simp),if_pos (by decide),if_pos (by decide),if_neg (by simp)];rfl
 |@exp nm hn=>
  have hne:nm≠[]:=by rintro rfl;exact absurd hn (by decide)
  simp_all [Zak.g,Zak.f,jP,Zak.j4,oN]
end Rv
namespace Rv
open Go
theorem ed(x:Int):rg (aC .and .i64 x 15):=by
 have h1:(BitVec.ofInt 64 x &&& BitVec.ofInt 64 15).toNat<=15:=by
  rw[BitVec.toNat_and];exact Nat.and_le_right
 show rg (IntKind.i64.wrap (((BitVec.ofInt 64 x &&& BitVec.ofInt 64 15).toNat:Nat):Int));rw[w64 (by omega)];exact⟨by omega,by omega⟩
theorem P5(x:Int):0<=aC .and .i64 x 3/\aC .and .i64 x 3<4:=by
 have h1:(BitVec.ofInt 64 x &&& BitVec.ofInt 64 3).toNat<=3:=by
  rw[BitVec.toNat_and];exact Nat.and_le_right
 show 0<=IntKind.i64.wrap (((BitVec.ofInt 64 x &&& BitVec.ofInt 64 3).toNat:Nat):Int)/\IntKind.i64.wrap (((BitVec.ofInt 64 x &&& BitVec.ofInt 64 3).toNat:Nat):Int)<4;rw[w64 (by omega)];omega
theorem Dq(x:Int){m:Int}(hm:0<m):-m<Int.tmod x m/\Int.tmod x m<m:=⟨Int.lt_tmod_of_pos x hm,Int.tmod_lt_of_pos x hm⟩
theorem KR{s:Sm}{t:Option Tr}(h:GoodS s t):s.e.length<=64/\s.e=postO t/\(∀x,t=some x->iU x):=by
 cases h with
 |none=>exact⟨by simp,rfl,fun x h=>by cases h⟩
 |ins0 _ _=>exact⟨by simp,rfl,fun x h=>by cases h⟩
 |ins1 _ _ ht=>exact⟨ht.2.2.2,rfl,fun x h=>by obtain rfl:=Ux h;exact ht⟩
 |load _ ht=>exact⟨ht.2.2.2,rfl,fun x h=>by obtain rfl:=Ux h;exact ht⟩
 |word ht=>exact⟨ht.2.2.2,rfl,fun x h=>by obtain rfl:=Ux h;exact ht⟩
 |exp _=>exact⟨by simp,rfl,fun x h=>by cases h⟩
end Rv
namespace Rv
open Go
end Rv
namespace Rv
open Go
end Rv
namespace Rv
open Go
def iI(l:List Ln):List Str:=(l.map (·.1)).filter fun s=>decide (s≠[])
theorem zh(a b:List Ln):iI (a++b)=iI a++iI b:=by unfold iI;rw[U6,List.filter_append]
theorem wV{x:Ln}(h:x.1=[]):iI [x]=[]:=by simp[iI,h]
theorem zi{x:Ln}(h:x.1≠[]):iI [x]=[x.1]:=by simp[iI,h]
end Rv
namespace Rv
open Go
def nJ:List Ln->Nat->List Int
 |[],_=>[]
 |x::l,c=>((4*c:Nat):Int)::nJ l (c+bM x)
def dz:List Ln->Nat->List Sym
 |[],_=>[]
 |x::l,c=>if x.1=[] then dz l (c+bM x) else(x.1,((4*c:Nat):Int),())::dz l (c+bM x)
theorem pR:∀(l:List Ln) (i:Nat) (t:List Int) (lb:List Sym) (c:Nat) {r},bF l i t lb c=.ok r->r=(t++nJ l c,lb++dz l c,c+(l.map bM).sum)
 |[],_,t,lb,c,r,h=>by
  rw[bF] at h;cases h;simp[nJ,dz]
 |x::l,i,t,lb,c,r,h=>by
  rw[bF] at h;split at h;·rename_i hx;rw[pR l _ _ _ _ h,nJ,dz,if_pos hx,UM,UO,List.sum_cons,Vk];rfl
  ·split at h
   ·cases h
   ·rename_i hx _;rw[pR l _ _ _ _ h,nJ,dz,if_neg hx,UM,UM,UO,List.sum_cons,Vk];rfl
theorem oM:∀(l:List Ln) (c:Nat),(dz l c).map (·.1)=iI l
 |[],_=>rfl
 |x::l,c=>by
  rw[dz,show x::l=[x]++l from rfl,zh];split;·rename_i h;rw[wV h,UY];exact oM l _
  ·rename_i h;rw[zi h,UO,oM l];rfl
theorem ny:∀(a b:List Ln) (c:Nat),dz (a++b) c=dz a c++dz b (c+(a.map bM).sum)
 |[],b,c=>by simp[dz]
 |x::a,b,c=>by
  rw[List.cons_append,dz,dz,UO,List.sum_cons,<- Vk];split;·exact ny a b _
  ·rw[ny a b,List.cons_append]
theorem BF{s:Str}:∀{l:List Sym},s ∉ l.map (·.1)->bC s l=none
 |[],_=>rfl
 |x::l,h=>by
  simp only[UO,UG,not_or] at h;rw[bC,if_neg (fun e=>h.1 e.symm)];exact BF h.2
theorem uX:∀(l:List Ln) (i:Nat) (t:List Int) (lb:List Sym) (c:Nat),(lb.map (·.1)++iI l).Nodup->∃r,bF l i t lb c=.ok r
 |[],_,t,lb,c,_=>⟨_,by rw[bF]⟩
 |x::l,i,t,lb,c,h=>by
  rw[show x::l=[x]++l from rfl,zh] at h;by_cases hx:x.1=[]
  ·rw[wV hx,UY] at h;rw[bF,if_pos hx];exact uX l _ _ _ _ h
  ·rw[zi hx] at h;have hn:x.1 ∉ lb.map (·.1):=fun hm=>(List.nodup_append.1 h).2.2 _ hm _ (by simp) rfl
   rw[bF,if_neg hx,BF hn,if_neg (by simp)];refine uX l _ _ _ _ ?_;rw[U6,UM];exact h
theorem Gg(l:List Ln)(h:(iI l).Nodup){pool:List Val}(hp:dB (dz l 0) l 0 []=.ok pool)(hs:(l.map bM).sum+pool.length<=1024) :
  dY l=(nJ l 0,dz l 0,pool,((4*(l.map bM).sum:Nat):Int),(((l.map bM).sum+pool.length:Nat):Int),0,0,()):=by
 obtain⟨r,hr⟩:=uX l 0 [] [] 0 (by simpa using h);have:=pR l 0 [] [] 0 hr;rw[UY,UY,Nat.zero_add] at this;unfold dY Dk;rw[hr,this];dsimp only;rw[hp];unfold zu;dsimp only;rw[if_neg (by omega)]
end Rv
namespace Rv
open Go
def nS(lb:List Sym)(q:List Val)(fr wd:Int)(t:List Int):List Ln->Nat->WrT->Except (Nat×Int) WrT
 |[],_,r=>.ok r
 |x::l,i,r=>match gF lb q fr wd x.2.1 (t.getD i 0) r with
  | .error e=>.error (i+1,e)
  | .ok r'=>nS lb q fr wd t l (i+1) r'
def wC:List Val->WrT->WrT
 |[],r=>r
 |v::l,r=>wC l (kR r v.1 (decide (v.2.1=1)))
abbrev Dw:=List Int×List Int×List Sym×Int×Int×Unit
def wu(i:Int)(e:Int):Dw:=([],[],[],i,e,())
def Af(r:WrT):Dw:=if 64<r.2.2.length then wu 0 2 else(r.1,r.2.1,r.2.2,0,0,())
def Oy(p:yD)(l:List Ln):Dw:=
 if p.2.2.2.2.2.2.1≠0 then wu p.2.2.2.2.2.1 p.2.2.2.2.2.2.1
 else match nS p.2.1 p.2.2.1 p.2.2.2.1 p.2.2.2.2.1 p.1 l 0 ([],[],[]) with
  | .error x=>wu (x.1:Int) x.2
  | .ok r=>Af (wC p.2.2.1 r)
def DI(l:List Ln):Dw:=Oy (dY l) l
theorem Nz{k o a b c:Int}{v:Int×Int×Unit}{u:Bool}{x:Int}(h:kJ k o a b c v u=.error x):x≠0:=by
 unfold kJ at h;split at h;·rename_i h1;cases h;exact h1
 ·exact GD _ _ _ _ _ _ _ h
theorem PG{lb:List Sym}{q:List Val}{fr wd:Int}{s:Snt}{pl x:Int}(h:jV lb q fr wd s pl=.error x):x≠0:=by
 unfold jV at h
 repeat' split at h
 all_goals first
  |exact Nz h
  |exact GD _ _ _ _ _ _ _ h
  |(cases h;assumption)
  |cases h
structure WOk (r:WrT) (i:Nat):Prop where
 w:r.1.length<=i
 s:r.2.1.length<=i
 y:r.2.2.length<=i
 o:fA r.2.2
theorem HY{r:WrT}{i:Nat}(h:WOk r i)(v:Int)(b:Bool):WOk (kR r v b) (i+1):=by
 refine⟨by have:=h.w;simp[kR];omega,?_,by have:=h.y;show r.2.2.length<=_;omega,h.o⟩;have:=h.s;unfold kR;dsimp only;split;·simp;omega
 ·omega
theorem KI{lb:List Sym}{nm:Str}{y y':List Sym}(h:lh lb nm y=.ok y'):bZ nm=true/\(bC nm lb).isSome=true/\nM y nm=false/\y'=pI y (nm,(bC nm lb).getD 0,()):=by
 unfold lh at h;split at h;·cases h
 ·split at h
  ·cases h
  ·split at h
   ·cases h
   ·rename_i h1 h2 h3;cases h;exact⟨by simpa using h1,(Bool.not_eq_false _).mp h2,by simpa using h3,rfl⟩
theorem QU{lb:List Sym}{q:List Val}{fr wd:Int}{s:Snt}{pl:Int}{r r':WrT}{i:Nat}(hr:WOk r i)(h:gF lb q fr wd s pl r=.ok r'):WOk r' (i+1):=by
 unfold gF at h;split at h;·cases h;exact⟨by have:=hr.w;omega,by have:=hr.s;omega,by have:=hr.y;omega,hr.o⟩
 ·split at h
  ·split at h
   ·cases h
   ·rename_i y hy;cases h;obtain⟨_,_,h3,rfl⟩:=KI hy;exact⟨by have:=hr.w;show r.1.length<=_;omega,by have:=hr.s;show r.2.1.length<=_;omega,by have:=hr.y;show(pI _ _).length<=_;rw[QG];omega,I8 hr.o h3⟩
  ·split at h
   ·cases h
   ·cases h;exact HY hr _ _
theorem N7{lb:List Sym}{q:List Val}{fr wd:Int}{s:Snt}{pl x:Int}{r:WrT}(h:gF lb q fr wd s pl r=.error x):x≠0:=by
 unfold gF at h;split at h;·cases h
 ·split at h
  ·split at h
   ·rename_i e he;cases h;unfold lh at he;split at he
    ·cases he;decide
    ·split at he
     ·cases he;decide
     ·split at he
      ·cases he;decide
      ·cases he
   ·cases h
  ·split at h
   ·rename_i e he;cases h;exact PG he
   ·cases h
section
variable(t:List Int)(lb:List Sym)(q:List Val)(fr wd:Int)
abbrev zV:Val:=((0:Int),((0:Int),()))
theorem R6{q:List Val}{i:Nat}(h:i<q.length):q.drop i=q.getD i zV::q.drop (i+1):=by
 rw[UX h,UH,UF h];rfl
theorem Ue(hq:q.length<=1000000)(n:Nat)(d e:List Int)(y:List Sym):∀(m i j:Nat) (r:WrT),i<=q.length->q.length-i<m->WOk r j->j+q.length<=1000000+i ->
  Zbl.l14 n m q (q.length:Int) (i:Int) d e y t lb q fr wd r.1 r.2.1 r.2.2=some (Af (wC (q.drop i) r)):=by
 intro m
 induction m with
 |zero=>intro i _ _ _ h;omega
 |succ m ih=>
  intro i j r hi hm hr hj;rw[Zbl.l14];simp only[dt,UL];by_cases h:i<q.length;·have h1:=hr.w;have h2:=hr.s;rw[if_pos (by omega),if_pos (by omega),R6 h,wC,xw t lb q fr wd r (by omega) (by omega),Uv];dsimp only;rw[w64 (by omega),show(i:Int)+1=((i+1:Nat):Int) by omega];exact ih (i+1) (j+1) _ (by omega) (by omega) (HY hr _ _) (by omega)
  ·obtain rfl:i=q.length:=by omega
   rw[if_neg (by omega),Vf,wC];unfold Af wu;by_cases h6:64<r.2.2.length;·rw[if_pos (by omega),if_pos h6]
   ·rw[if_neg (by omega),if_neg h6]
theorem al7(l:List Ln)(hl:l.length<=1000)(he:∀x∈l,(eL x).length<=4611686018427387904)(ht:t.length=l.length)(hlb:lb.length<=1000000)(hq:q.length<=1000)(n:Nat)(hn2:q.length<n)(d e:List Int)(y:List Sym) :
  ∀(m i:Nat) (r:WrT),i<=l.length->l.length-i<m->WOk r i ->
  Zbl.l7 n m l (l.length:Int) (i:Int) d e y t lb q fr wd t lb q fr wd r.1 r.2.1 r.2.2=some (match nS lb q fr wd t (l.drop i) i r with | .error x=>wu (x.1:Int) x.2 | .ok r=>Af (wC q r)):=by
 intro m
 induction m with
 |zero=>intro i _ _ h;omega
 |succ m ih=>
  intro i r hi hm hr;rw[Zbl.l7];simp only[dt,UL];by_cases h:i<l.length
  ·have h1:=hr.w;have h2:=hr.s;have h3:=hr.y;rw[if_pos (by omega),if_pos (by omega),if_pos (by omega),Ae h,nS];have hx:=he _ (GK h);generalize l.getD i zL=x at hx⊢;rw[MW t lb q fr wd r (by omega) (by omega) hr.o (by omega) hlb (by omega) x.2.1 hx,Uv];cases hA:gF lb q fr wd x.2.1 (t.getD i 0) r with
   |error e=>
    refine(if_pos (show(yc t lb q fr wd r (Except.error e)).1≠0 from N7 hA)).trans ?_;rw[w64 (by omega),show(i:Int)+1=((i+1:Nat):Int) by omega];rfl
   |ok r'=>
    refine(if_neg (show ¬((yc t lb q fr wd r (Except.ok r')).1≠0) from fun h=>h rfl)).trans ?_;rw[w64 (by omega),show(i:Int)+1=((i+1:Nat):Int) by omega];exact ih (i+1) r' (by omega) (by omega) (QU hr hA)
  ·obtain rfl:i=l.length:=by omega
   rw[if_neg (by omega),Vf,nS];have:=Ue t lb q fr wd (by omega) n d e y n 0 l.length r (by omega) (by omega) hr (by omega);rw[U3] at this;exact this
end
theorem Gh(l:List Ln)(h:(dY l).2.2.2.2.2.2.1=0):(dY l).1.length=l.length/\(dY l).2.1.length<=l.length/\(dY l).2.2.1.length<=l.length /\
  ∃r p,bF l 0 [] [] 0=.ok r/\dB r.2.1 l 0 []=.ok p/\r.2.2+p.length<=1024/\dY l=(r.1,r.2.1,p,((4*r.2.2:Nat):Int),((r.2.2+p.length:Nat):Int),0,0,()):=by
 rcases Jw l with⟨x,hx,h0,_⟩|⟨r,p,h1,h2,h3⟩;·rw[hx] at h;exact absurd h h0
 ·have a:=mV l 0 [] [] 0 h1;have b:=oO r.2.1 l 0 [] h2;unfold zu at h3;dsimp only at h3;by_cases hc:1024<r.2.2+p.length
  ·rw[if_pos hc] at h3;rw[h3] at h;exact absurd h (by decide)
  ·rw[if_neg hc] at h3;rw[h3];simp only[U2,Nat.zero_add] at a b;exact⟨a.1,a.2.1,b,r,p,h1,h2,by omega,rfl⟩
theorem R3(l:List Ln)(hl:l.length<=1000)(he:∀x∈l,(eL x).length<=4611686018427387904):Zbl.g l=some (DI l):=by
 unfold Zbl.g;generalize hn:1000+l.length=n;unfold Zbl.f DI Oy;rw[Rm l (by omega) he,Uv];simp only[dt];by_cases h:(dY l).2.2.2.2.2.2.1=0;·obtain⟨h1,h2,h3,_⟩:=Gh l h;rw[if_neg (by simpa using h),if_neg (by simpa using h)];have:=al7 (dY l).1 (dY l).2.1 (dY l).2.2.1 (dY l).2.2.2.1 (dY l).2.2.2.2.1 l hl he h1 (by omega) (by omega) n (by omega) [] [] [] n 0 ([],[],[]) (by omega) (by omega) ⟨Uz _,Uz _,Uz _,List.Pairwise.nil⟩;rw[U3] at this;exact this
 ·rw[if_pos (by simpa using h),if_pos (by simpa using h)];rfl
end Rv
namespace Rv
open Go
theorem Ki{t:List Int}{x:Ln}{l:List Ln}{i c:Nat}(h:t.drop i=nJ (x::l) c):t.getD i 0=((4*c:Nat):Int)/\t.drop (i+1)=nJ l (c+bM x):=by
 rw[nJ] at h;have hlt:i<t.length:=by
  rcases Nat.lt_or_ge i t.length with g|g;·exact g
  ·rw[List.drop_eq_nil_of_le g] at h;cases h
 rw[UX hlt] at h;injection h with h1 h2
 refine⟨?_,h2⟩;rw[UH,UF hlt];exact h1
section
variable(lb:List Sym)(q:List Val)(fr wd:Int)(t:List Int)
end
theorem xG:∀{y:List Sym}{s:Str}{v:Int},fA y->(s,v,())∈y->bC s y=some v
 |[],_,_,_,h=>by cases h
 |x::r,s,v,hy,h=>by
  rw[bC];rcases UG.1 h with rfl|g;·rw[if_pos rfl]
  ·have:=(List.pairwise_cons.1 hy).1 _ g;rw[if_neg (fun e=>by rw[e] at this;rw[lX] at this;cases this)];exact xG (List.pairwise_cons.1 hy).2 g
end Rv
namespace Rv
open Go
section
variable(lb:List Sym)(q:List Val)(fr wd:Int)(t:List Int)
end
end Rv
namespace Rv
open Go
theorem Aj:∀{lb:List Sym}{s:Str}{v:Int},(lb.map (·.1)).Nodup->(s,v,())∈lb->bC s lb=some v
 |[],_,_,_,h=>by cases h
 |x::r,s,v,hn,h=>by
  rw[UO,List.nodup_cons] at hn;rw[bC];rcases UG.1 h with rfl|g;·rw[if_pos rfl]
  ·rw[if_neg (fun e=>hn.1 (by grind))];exact Aj hn.2 g
section
variable(lb:List Sym)(q:List Val)(fr wd:Int)
def eP:List Ln->WrT->Except Int WrT
 |[],r=>.ok r
 |x::l,r=>match gF lb q fr wd x.2.1 ((4*r.1.length:Nat):Int) r with
  | .error e=>.error e
  | .ok r'=>eP l r'
theorem mP:∀(a b:List Ln) (r:WrT),eP lb q fr wd (a++b) r=match eP lb q fr wd a r with | .error e=>.error e | .ok r'=>eP lb q fr wd b r'
 |[],b,r=>rfl
 |x::a,b,r=>by
  rw[List.cons_append,eP,eP];cases gF lb q fr wd x.2.1 ((4*r.1.length:Nat):Int) r with
  |error e=>rfl
  |ok r'=>exact mP a b r'
theorem La{x:Ln}{pl:Int}{r r':WrT}(h:gF lb q fr wd x.2.1 pl r=.ok r'):r'.1.length=r.1.length+bM x:=by
 unfold gF at h;unfold bM;by_cases k0:x.2.1.1=0;·grind
 rw[if_neg k0] at h;by_cases k10:x.2.1.1=10;·grind
 rw[if_neg k10] at h;split at h;·cases h
 ·cases h;simp_all [kR]
theorem Et(t:List Int):∀(l:List Ln) (i:Nat) (r r':WrT),t.drop i=nJ l r.1.length->eP lb q fr wd l r=.ok r'->nS lb q fr wd t l i r=.ok r'
 |[],_,_,_,_,h=>by cases h;rfl
 |x::l,i,r,r',ht,h=>by
  obtain⟨ht1,ht2⟩:=Ki ht;rw[eP] at h;rw[nS,ht1];cases hA:gF lb q fr wd x.2.1 ((4*r.1.length:Nat):Int) r with
  |error e=>grind
  |ok r1=>
   rw[hA] at h;exact Et t l (i+1) r1 r' (by grind [La]) h
end
structure Iw (ws ss:List Int) (ys lb:List Sym):Prop where
 pl:∀x∈plR ws ss,bC (nmR x) lb=some x
 nm:∀z∈ys,bC z.1 lb=some z.2.1
theorem zJ{lb:List Sym}{e:List Item}{v:Val}(hw:fZ e)(hl:e.length<=64)(hr:jK lb [] e=.ok [v]):vOf lb e=(v.1,v.2.1,0,()):=by
 unfold vOf ofR;rw[if_pos (Bg hw hl),hr];rfl
theorem AB:((List.range 1025).all fun k=>ax (nmR (4*(k:Int)))&&decide ((nmR (4*(k:Int))).length=5)&&decide ((nmR (4*(k:Int))).getD 0 0=95) &&
  decide (((nmR (4*(k:Int))).drop 1).foldl (fun(a:Nat) (b:UInt8)=>a*16+(if b.toNat<=57 then b.toNat-48 else b.toNat-55)) 0=4*k))=true:=by decide +kernel
theorem rU{k:Nat}(h:k<=1024):ax (nmR (4*(k:Int)))=true/\(nmR (4*(k:Int))).length=5/\(nmR (4*(k:Int))).getD 0 0=95:=by
 have:=UT.1 AB k (by simp;omega)
 grind
theorem SC{k j:Nat}(h:k<=1024)(hj:j<=1024)(e:nmR (4*(k:Int))=nmR (4*(j:Int))):k=j:=by
 have h1:=UT.1 AB k (by simp;omega);have h2:=UT.1 AB j (by simp;omega)
 grind
theorem zb{s:Str}(h:ax s=true):az ((2:Int),0,s,())=(0,true):=by
 simp_all [az]
theorem MI{lb:List Sym}{k:Nat}(hk:k<=1024)(hf:bC (nmR (4*(k:Int))) lb=some (4*(k:Int))):vOf lb (nmE (4*(k:Int)))=(4*(k:Int),1,0,()):=by
 have h1:=zb (rU hk).1;refine zJ (v:=(4*(k:Int),1,())) ?_ (by simp[nmE]) ?_;·grind [fZ,nmE,enough]
 ·show(match jF lb [] ((2:Int),0,nmR (4*(k:Int)),()) with | .ok st=>jK lb st [] | .error e=>.error e)=_;unfold jF;rw[if_pos rfl];dsimp only;rw[hf];dsimp only;rw[show IntKind.u32.wrap (4*(k:Int))=4*(k:Int) by rw[IntKind.wrap_u32];omega];rfl
theorem Be{lb:List Sym}{v:Int}(h:-4294967295<=v/\v<=4294967295):vOf lb (eU v)=(IntKind.u32.wrap v,0,0,()):=by
 unfold eU;split
 ·refine zJ (v:=(IntKind.u32.wrap v,0,())) ?_ (by simp) ?_
  ·rfl
  ·show Except.ok [(IntKind.u32.wrap (0-IntKind.u32.wrap (-v)),IntKind.i64.wrap (0-0),())]=_;have e:IntKind.u32.wrap (0-IntKind.u32.wrap (-v))=IntKind.u32.wrap v:=by
    grind [IntKind.wrap_u32]
   rw[e];rfl
 ·exact zJ (v:=(IntKind.u32.wrap v,0,())) rfl (by simp) rfl
theorem RJ{lb:List Sym}{v:Int}(h:0<=v/\v<=4294967295)(hf:bC (nmR 0) lb=some 0):vOf lb (nmE 0++eU v++[((4:Int),0,[],())])=(v,1,0,()):=by
 have h1:=zb (rU (k:=0) (by decide)).1;rw[Ac h];refine zJ (v:=(v,1,())) ?_ (by simp[nmE]) ?_
 ·show enough 0 [((2:Int),0,nmR 0,()),((1:Int),v,[],()),((4:Int),0,[],())]=some 1
  grind [az,enough]
 ·have hs:jF lb [] ((2:Int),0,nmR 0,())=.ok [(0,1,())]:=by
   unfold jF;rw[if_pos rfl];dsimp only;rw[hf];rfl
  show(match jF lb [] ((2:Int),0,nmR 0,()) with | .ok st=>jK lb st [((1:Int),v,[],()),((4:Int),0,[],())] | .error e=>.error e)=_;rw[hs];show Except.ok [(IntKind.u32.wrap (0+v),IntKind.i64.wrap (1+0),())]=_;have e:IntKind.u32.wrap (0+v)=v:=by rw[IntKind.wrap_u32];omega
  rw[e];rfl
theorem KC{k o a b c i:Int}{u:Bool}(h:bB k o a b c u)(hi:gG k o i u):uq k o a b c i u=.ok (((aQ k o a b c i u).toNat:Int),false):=by
 have e:pu k o a b c i u=(((aQ k o a b c i u).toNat:Int),0,()):=by
  unfold pu;rw[if_pos ((rC k o a b c i u).1 ⟨h,hi⟩)]
 grind [uq]
section
variable{ws ss:List Int}{ys lb:List Sym}(O:OkO ws ss ys)(B:Iw ws ss ys lb)
include O B
theorem MP{i:Nat}(hi:i<ws.length)(q:List Val)(fr:Int):jV lb q fr (ws.length:Int) (jJ ws ss i) ((4*i:Nat):Int)=.ok (ws.getD i 0,decide ((i:Int)∈ss)):=by
 have hlw:=O.lw;have hat:=O.ok.at hi;have z:∀(k:Int) (e:List Item),jV lb q fr (ws.length:Int) (stN k e) ((4*i:Nat):Int)=jV lb q fr (ws.length:Int) (k,0,0,0,0,false,e,[],()) ((4*i:Nat):Int):=fun _ _=>rfl
 have word:∀(e:List Item) (ad:Int),(ad=0\/ad=1/\ws.getD i 0<=4*(ws.length:Int))->vOf lb e=(ws.getD i 0,ad,0,())->jV lb q fr (ws.length:Int) (stN 9 e) ((4*i:Nat):Int)=.ok (ws.getD i 0,decide (ad=1)):=fun e ad ha hv=>by
  have hadr:tY (ws.getD i 0) ad (ws.length:Int)=0:=by
   unfold tY;rw[if_neg (by omega),w64 (by omega),w64 (by omega)]
   grind
  grind [jV]
 have num:jV lb q fr (ws.length:Int) (stN 9 (eU (ws.getD i 0))) ((4*i:Nat):Int)=.ok (ws.getD i 0,false):=by
  have:=word (eU (ws.getD i 0)) 0 (.inl rfl) (by grind [Be,IntKind.wrap_u32]);exact this
 unfold jJ;rw[if_neg (by omega)];by_cases hm:(i:Int)∈ss
 ·rw[if_pos hm,decide_eq_true hm];obtain⟨_,h2,h3⟩:=O.site hm;rw[UL] at h2 h3;have hp:sK ws (i:Int)∈plR ws ss:=(AJ ws ss).2 (.inl ⟨_,hm,rfl⟩);have hf:=B.pl _ hp;unfold sK at hf;rw[UL] at hf;by_cases h4:ws.getD i 0 % 4=0
  ·rw[if_pos h4] at hf⊢;have hk:ws.getD i 0=4*(((ws.getD i 0) / 4).toNat:Int):=by omega
   refine word _ 1 (.inr ⟨rfl,h3⟩) ?_;rw[hk] at hf⊢
   grind [MI]
  ·rw[if_neg h4] at hf⊢;exact word _ 1 (.inr ⟨rfl,h3⟩) (RJ hat hf)
 ·rw[if_neg hm,decide_eq_false hm];rcases(kw hat).2 with e|⟨k,o,a,b,c,m,u,e,g1,g2,g3⟩
  ·grind
  ·have hj:eF ws ss i=if k=7/\0<=(i:Int)+1+m/\(i:Int)+1+m<=ws.length then(4*((i:Int)+1+m),true,()) else(0,false,()):=by
    unfold eF
    grind
   have hjp:(eF ws ss i).2.1=true->bC (nmR (eF ws ss i).1) lb=some (eF ws ss i).1:=fun h=>B.pl _ ((AJ ws ss).2 (.inr ⟨i,hi,h,rfl⟩))
   have hk:=jf g1;have henc:=KC g1 g2;rw[<- g3] at henc;rw[e];dsimp only;rw[if_neg (by decide)];by_cases k7:k=7
   ·rw[if_pos k7];rw[hj] at hjp⊢;by_cases hc:k=7/\0<=(i:Int)+1+m/\(i:Int)+1+m<=ws.length
    ·rw[if_pos hc] at hjp⊢;have hf:=hjp rfl;dsimp only at hf⊢;rw[if_pos rfl];subst k7;obtain⟨t,ht⟩:∃t:Nat,(i:Int)+1+m=(t:Int):=⟨((i:Int)+1+m).toNat,by omega⟩
     rw[ht] at hf⊢;have hv:=MI (by omega) hf;have hi7:-8388608<=m/\m<=8388607:=by grind
     have hd:xD (4*(t:Int)) ((4*i:Nat):Int)=4*m:=by
      grind [xD,IntKind.wrap_u32,IntKind.wrap_i32,w64]
     have hfv:D6 (4*(t:Int)) 1 ((4*i:Nat):Int)=(m,0,()):=by
      unfold D6;rw[hd,if_neg (by decide),Int.mul_tmod_right];have ht:Int.tdiv (4*m) 4=m:=Int.mul_tdiv_cancel_left _ (by decide);rw[ht,w64 (by omega),if_neg (by omega)]
     unfold jV;simp_all [kJ]
    grind
   ·rw[if_neg k7];unfold jV;dsimp only;by_cases k2:k=2
    ·rw[if_pos k2,if_pos (.inl k2)];have hi2:-65536<=m/\m<=65535/\(o=0->u=true->0<=m):=by
      rcases g2 with⟨_,h1,h2,h3⟩|h|h|h;·grind
      all_goals omega
     have hn:∀low,(low=-65536\/low=0/\0<=m)->uP lb (eU m) low 65535=(m,0,()):=fun low hlow=>by
      unfold uP;rw[Be (by omega)];dsimp only;rw[if_neg (by decide),if_neg (by decide)];unfold xZ;have e1:IntKind.i64.wrap (IntKind.i32.wrap (IntKind.u32.wrap m))=m:=by
       grind [IntKind.wrap_u32,IntKind.wrap_i32,w64]
      grind
     rw[hn _ (by grind)];simp_all [kJ]
    ·rw[if_neg k2];by_cases k5:k=5
     ·rw[if_pos k5,if_pos (.inr k5)];have hi5:-524288<=m/\m<=524287:=by grind [gG]
      have hn:uP lb (eU m) (-524288) 524287=(m,0,()):=by
       unfold uP;rw[Be (by omega)];dsimp only;rw[if_neg (by decide),if_neg (by decide)];unfold xZ;have e1:IntKind.i64.wrap (IntKind.i32.wrap (IntKind.u32.wrap m))=m:=by
        grind [IntKind.wrap_u32,IntKind.wrap_i32,w64]
       grind
      simp_all [kJ]
     ·have hm0:m=0:=by grind [gG]
      grind
end
end Rv
namespace Rv
open Go
section
variable(ws ss:List Int)(ys:List Sym)
def sH(i:Nat):List Ln:=L.linS (4*(i:Int)) ys++(if 4*(i:Int)∈plR ws ss then[(nmR (4*(i:Int)),L.st0 0 [],())] else[])++(if i<ws.length then[([],jJ ws ss i,())] else[])
def iE:Nat->Nat->List Ln
 |0,_=>[]
 |k+1,i=>sH ws ss ys i++iE k (i+1)
def dH:List Ln:=iE ws ss ys (ws.length+1) 0++L.linX ys
def sQ(i:Nat):List Sym:=ys.filter (fun z=>decide (z.2.1=4*(i:Int)))++(if 4*(i:Int)∈plR ws ss then[(nmR (4*(i:Int)),4*(i:Int),())] else[])
def o6:Nat->Nat->List Sym
 |0,_=>[]
 |k+1,i=>sQ ws ss ys i++o6 k (i+1)
end
theorem mh(x:Int):∀(ys:List Sym),∀y∈L.linS x ys,y.2.1.1=0/\∃z∈ys,z.2.1=x/\y=(z.1,L.st0 0 [],())
 |[],y,h=>by cases h
 |s::r,y,h=>by
  rw[L.linS] at h;split at h
  ·rename_i hs;rcases UG.1 h with rfl|h
   ·exact⟨rfl,s,by simp,hs,rfl⟩
   ·obtain⟨h1,z,hz,h2⟩:=mh x r y h
    grind
  ·obtain⟨h1,z,hz,h2⟩:=mh x r y h
   grind
theorem xR:∀(ys:List Sym),∀y∈L.linX ys,y.1=[]/\∃z∈ys,y=([],L.st0 10 z.1,())
 |[],y,h=>by cases h
 |s::r,y,h=>by
  rcases UG.1 h with rfl|h;·grind
  ·obtain⟨h1,z,hz,h2⟩:=xR r y h
   grind
theorem El(c:Nat):∀(ys:List Sym),(∀z∈ys,z.1≠[])->dz (L.linS (4*(c:Int)) ys) c=ys.filter fun z=>decide (z.2.1=4*(c:Int))
 |[],_=>rfl
 |s::r,h=>by
  have ih:=El c r fun z hz=>h z (by simp[hz])
  rw[L.linS];by_cases hs:s.2.1=4*(c:Int)
  ·rw[if_pos hs,dz,if_neg (h s (by simp)),List.filter_cons_of_pos (by simpa using hs)];have e0:bM (s.1,L.st0 0 [],())=0:=rfl
   grind
  grind
theorem Em(c:Nat):∀(ys:List Sym),dz (L.linX ys) c=[]
 |[]=>rfl
 |s::r=>by
  rw[L.linX,dz,if_pos rfl];exact Em _ r
theorem xB(ws ss:List Int){i:Nat}(O:zU ws ss)(hi:i<ws.length):1<=(jJ ws ss i).1/\(jJ ws ss i).1<=9/\(jJ ws ss i).1≠8:=by
 have n9:∀e,1<=(stN 9 e).1/\(stN 9 e).1<=9/\(stN 9 e).1≠8:=fun e=>by show(1:Int)<=9/\(9:Int)<=9/\(9:Int)≠8;decide
 unfold jJ;rw[if_neg (by omega)];split;·exact n9 _
 ·rcases(kw (O.at hi)).2 with e|⟨k,o,a,b,c,m,u,e,g1,_,_⟩
  ·grind
  ·have hk:=jf g1
   grind
theorem CL{l:List Ln}(h:∀y∈l,y.2.1.1=0):(l.map bM).sum=0:=by
 induction l with
 |nil=>rfl
 |cons x l ih=>
  simp_all [bM]
theorem Tq(lb:List Sym)(q:List Val)(fr wd:Int){l:List Ln}(h:∀y∈l,y.2.1.1=0)(r:WrT):eP lb q fr wd l r=.ok r:=by
 induction l with
 |nil=>rfl
 |cons x l ih=>
  simp_all [eP,gF]
section
variable{ws ss:List Int}{ys:List Sym}(O:OkO ws ss ys)
include O
theorem TZ:∀z∈ys,z.1≠[]:=fun z hz e=>by
 have:=O.nm z hz;rw[e] at this;exact absurd this (by decide)
theorem uC(i:Nat):∀y∈L.linS (4*(i:Int)) ys++(if 4*(i:Int)∈plR ws ss then[(nmR (4*(i:Int)),L.st0 0 [],())] else[]),y.2.1.1=0:=fun y hy=>by
 rcases UK.1 hy with hy|hy;·grind [mh]
 ·split at hy
  ·rw[UV.1 hy];rfl
  ·cases hy
theorem Fa{i:Nat}:((sH ws ss ys i).map bM).sum=if i<ws.length then 1 else 0:=by
 unfold sH;rw[U6,List.sum_append,CL (uC O i),Nat.zero_add];split
 ·rename_i hi;have:=xB ws ss O.ok hi;show bM _+0=1;unfold bM
  grind
 ·rfl
theorem QR{i:Nat}(hi:i<=ws.length):dz (sH ws ss ys i) i=sQ ws ss ys i:=by
 have hlw:=O.lw;unfold sH sQ;have h1:dz (if i<ws.length then[([],jJ ws ss i,())] else[]) (i+((L.linS (4*(i:Int)) ys++(if 4*(i:Int)∈plR ws ss then[(nmR (4*(i:Int)),L.st0 0 [],())] else[])).map bM).sum)=[]:=by
  split;·rw[dz,if_pos rfl];rfl
  ·rfl
 rw[ny,h1,UU,ny,El i ys (TZ O),CL (l:=L.linS (4*(i:Int)) ys) (fun y hy=>(mh _ ys y hy).1),Nat.add_zero];congr 1;split
 ·have hne:nmR (4*(i:Int))≠[]:=fun e=>by grind [rU]
  simp_all [dz]
 ·rfl
theorem Eo:∀(k i:Nat),i+k<=ws.length+1->dz (iE ws ss ys k i) i=o6 ws ss ys k i
 |0,_,_=>rfl
 |k+1,i,h=>by
  rw[iE,o6,ny,QR O (by omega),Fa O];congr 1;by_cases hi:i<ws.length;·rw[if_pos hi];exact Eo k (i+1) (by omega)
  ·obtain rfl:k=0:=by omega
   rfl
theorem xO:dz (dH ws ss ys) 0=o6 ws ss ys (ws.length+1) 0:=by
 grind [dH,ny,Em,Eo]
theorem Cr:∀(k i:Nat),i+k=ws.length+1->((iE ws ss ys k i).map bM).sum=ws.length-i
 |0,i,h=>by show 0=_;omega
 |k+1,i,h=>by
  rw[iE,U6,List.sum_append,Fa O,Cr k (i+1) (by omega)];split<;>omega
theorem BR:∀(y:List Sym),((L.linX y).map bM).sum=0
 |[]=>rfl
 |s::r=>by
  rw[L.linX,UO,List.sum_cons,BR r];rfl
theorem K7:((dH ws ss ys).map bM).sum=ws.length:=by
 grind [dH,Cr,BR]
theorem oq{i:Nat}{a:Sym}:a∈sQ ws ss ys i↔(a∈ys/\a.2.1=4*(i:Int))\/(4*(i:Int)∈plR ws ss/\a=(nmR (4*(i:Int)),4*(i:Int),())):=by
 simp_all [sQ]
theorem o7{a:Sym}:∀{k i:Nat},a∈o6 ws ss ys k i↔∃j,i<=j/\j<i+k/\a∈sQ ws ss ys j
 |0,i=>⟨fun h=>(by cases h),fun⟨j,h1,h2,_⟩=>by omega⟩
 |k+1,i=>by
  rw[o6,UK,o7 (k:=k)]
  grind
theorem Li{a b:Sym}(ha:a∈ys)(hb:b∈ys)(e:a.1=b.1):a=b:=by
 have h1:=xG O.srt (s:=a.1) (v:=a.2.1) (by exact ha);have h2:=xG O.srt (s:=b.1) (v:=b.2.1) (by exact hb)
 grind
theorem AA{a:Sym}(ha:a∈ys){k:Nat}(hk:k<=1024):a.1≠nmR (4*(k:Int)):=fun e=>by
 have h1:=O.nm a ha;have h2:=(rU hk).2.2;unfold bZ at h1;simp only[UB] at h1;have h3:=h1.1.1.2;rw[e,h2] at h3;exact absurd h3 (by decide)
theorem Mw{i j:Nat}(hij:i≠j)(hi:i<=ws.length)(hj:j<=ws.length){a b:Sym}(ha:a∈sQ ws ss ys i)(hb:b∈sQ ws ss ys j):a.1≠b.1:=by
 have hlw:=O.lw;rcases(oq O).1 ha with⟨h1,h2⟩|⟨_,rfl⟩
 ·rcases(oq O).1 hb with⟨h3,h4⟩|⟨_,rfl⟩
  ·grind [Li]
  grind [AA]
 ·rcases(oq O).1 hb with⟨h3,h4⟩|⟨_,rfl⟩
  ·grind [AA]
  ·exact fun e=>hij (SC (by omega) (by omega) e)
theorem Fz:∀(k i:Nat),i+k<=ws.length+1->(o6 ws ss ys k i).Pairwise fun a b=>a.1≠b.1
 |0,_,_=>List.Pairwise.nil
 |k+1,i,h=>by
  have hlw:=O.lw;rw[o6,List.pairwise_append];refine⟨?_,Fz k (i+1) (by omega),fun a ha b hb=>?_⟩
  ·unfold sQ;rw[List.pairwise_append];refine⟨?_,?_,fun a ha b hb=>?_⟩
   ·refine List.Pairwise.sublist List.filter_sublist ?_;exact O.srt.imp fun {a b} hab e=>by grind [lX]
   ·split
    ·grind
    simp_all
   grind [AA]
  ·obtain⟨j,h1,h2,h3⟩:=(o7 O).1 hb;exact Mw O (by omega) (by omega) (by omega) ha h3
theorem zf:(iI (dH ws ss ys)).Nodup:=by
 grind [oM,xO,Fz]
theorem TH:Iw ws ss ys (dz (dH ws ss ys) 0):=by
 have hn:((dz (dH ws ss ys) 0).map (·.1)).Nodup:=by rw[oM];exact zf O
 refine⟨fun x hx=>?_,fun z hz=>?_⟩;·refine Aj hn ?_;obtain⟨k,rfl,hk⟩:=LB O hx;rw[xO O];exact(o7 O).2 ⟨k,Nat.zero_le _,by omega,(oq O).2 (.inr ⟨hx,rfl⟩)⟩
 ·refine Aj hn ?_;obtain⟨h1,h2,h3⟩:=O.sat_ z hz;rw[xO O];exact(o7 O).2 ⟨(z.2.1 / 4).toNat,Nat.zero_le _,by omega,(oq O).2 (.inl ⟨hz,by grind⟩)⟩
theorem Te:ss.Pairwise (· < ·):=by
 rw[List.pairwise_iff_getElem];intro i j hi hj hij;have:=O.lt i j hij hj
 grind
omit O in
theorem BA(i:Int):∀{l:List Int},l.Pairwise (· < ·)->l.filter (fun s=>decide (s<i+1))=l.filter (fun s=>decide (s<i))++(if i∈l then[i] else[])
 |[],_=>by simp
 |s::r,h=>by
  have h':=List.pairwise_cons.1 h;have ih:=BA i h'.2;by_cases h1:s<i;·grind
  ·have hr:∀t∈r,¬t<i+1:=fun t ht=>by grind
   have e1:r.filter (fun s=>decide (s<i+1))=[]:=List.filter_eq_nil_iff.2 fun t ht=>by grind
   grind
def atW(ws ss:List Int)(i:Nat):WrT:=(ws.take i,ss.filter (fun s=>decide (s<(i:Int))),[])
theorem TT{lb:List Sym}(B:Iw ws ss ys lb)(q:List Val)(fr:Int){i:Nat}(hi:i<=ws.length):eP lb q fr (ws.length:Int) (sH ws ss ys i) (atW ws ss i)=.ok (atW ws ss (i+1)):=by
 unfold sH;rw[mP,Tq lb q fr _ (uC O i)];dsimp only;have hf:=BA (i:Int) (Te O);by_cases h:i<ws.length
 ·have hk:=xB ws ss O.ok h;rw[if_pos h,eP];unfold gF;dsimp only;have hl:(atW ws ss i).1.length=i:=by grind [atW]
  rw[if_neg (by omega),if_neg (by omega),hl,MP O B h q fr];show Except.ok (kR (atW ws ss i) (ws.getD i 0) (decide ((i:Int)∈ss)))=_;have e1:ws.take i++[ws.getD i 0]=ws.take (i+1):=by
   simp_all
  unfold kR;rw[hl];unfold atW
  grind
 ·obtain rfl:i=ws.length:=by omega
  have hm:((ws.length:Nat):Int) ∉ ss:=fun h=>by have:=(O.site h).1;omega
  rw[if_neg h];show Except.ok (atW ws ss ws.length)=_;simp_all [atW,List.take_of_length_le]
theorem Mi{lb:List Sym}(B:Iw ws ss ys lb)(q:List Val)(fr:Int):∀(k i:Nat),i+k=ws.length+1->eP lb q fr (ws.length:Int) (iE ws ss ys k i) (atW ws ss i)=.ok (atW ws ss (ws.length+1))
 |0,i,h=>by
  obtain rfl:i=ws.length+1:=by omega
  rfl
 |k+1,i,h=>by
  rw[iE,mP,TT O B q fr (by omega)];exact Mi B q fr k (i+1) (by omega)
theorem P7:atW ws ss (ws.length+1)=(ws,ss,[]):=by
 unfold atW;rw[List.take_of_length_le (by omega),List.filter_eq_self.2];intro s hs;have:=(O.site hs).1;simp;omega
theorem K9{lb:List Sym}(q:List Val)(fr wd:Int):∀(y2 y1:List Sym),fA (y1++y2)->(∀z∈y2,bZ z.1=true/\bC z.1 lb=some z.2.1)->eP lb q fr wd (L.linX y2) (ws,ss,y1)=.ok (ws,ss,y1++y2)
 |[],y1,_,_=>by rw[UU];rfl
 |s::r,y1,hs,hf=>by
  obtain⟨h1,h2⟩:=hf s (by simp);have hk:kS y1 s.1=y1.length:=Jd (fun t ht=>by
   have hp:=(List.pairwise_append.1 hs).2.2 (y1.getD t zSy) (Jo ht) s (by simp);exact hp) (Uz _) fun h=>absurd h (by omega)
  have h3:nM y1 s.1=false:=by
   grind [nM]
  have h4:pI y1 (s.1,s.2.1,())=y1++[s]:=by
   grind [pI]
  rw[L.linX,eP];unfold gF;have e10:(([],L.st0 10 s.1,()):Ln).2.1.1=10:=rfl;have en:(([],L.st0 10 s.1,()):Ln).2.1.2.2.2.2.2.2.2.1=s.1:=rfl;rw[if_neg (by grind),if_pos e10,en];unfold lh;dsimp only;rw[h1,h2,h3,if_neg (by decide),if_neg (by simp),if_neg (by decide)];dsimp only;have h5:(some s.2.1:Option Int).getD 0=s.2.1:=rfl;rw[h5,h4];have:=K9 q fr wd r (y1++[s]) (by grind) fun z hz=>hf z (by simp[hz])
  grind
theorem M3:DI (dH ws ss ys)=(ws,ss,ys,0,0,()):=by
 have hlw:=O.lw;have hly:=O.ly;have B:=TH O;have hsz:=K7 O;have h8:∀x∈dH ws ss ys,x.2.1.1≠8:=by
  have hsec:∀(k i:Nat),i+k<=ws.length+1->∀x∈iE ws ss ys k i,x.2.1.1≠8:=by
   intro k
   induction k with
   |zero=>intro i _ x hx;cases hx
   |succ k ih=>
    intro i h x hx;rcases UK.1 hx with hx|hx
    ·rcases UK.1 hx with hx|hx
     ·grind [uC]
     ·split at hx
      ·rename_i hi;rw[UV.1 hx];exact(xB ws ss O.ok hi).2.2
      ·cases hx
    grind
  intro x hx;rcases UK.1 hx with hx|hx;·grind
  ·obtain⟨_,z,_,rfl⟩:=xR ys x hx;show(10:Int)≠8;decide
 have hload:dB (dz (dH ws ss ys) 0) (dH ws ss ys) 0 []=.ok []:=zk _ _ 0 [] h8;have hp:=Gg (dH ws ss ys) (zf O) hload (by grind);rw[hsz] at hp;have e0:((ws.length+([]:List Val).length:Nat):Int)=(ws.length:Int):=rfl;rw[e0] at hp;have hC:eP (dz (dH ws ss ys) 0) [] ((4*ws.length:Nat):Int) (ws.length:Int) (dH ws ss ys) ([],[],[])=.ok (ws,ss,ys):=by
  have h0:atW ws ss 0=([],[],[]):=by
   unfold atW;rw[Vp,List.filter_eq_nil_iff.2];intro s hs;have:=(O.site hs).1;simp;omega
  unfold dH at B⊢;rw[mP,<- h0,Mi O B _ _ _ 0 (by omega),P7 O];exact K9 O _ _ _ ys [] O.srt fun z hz=>⟨O.nm z hz,B.nm z hz⟩
 unfold DI Oy;rw[hp];dsimp only;rw[if_neg (by decide),Et _ _ _ _ (nJ (dH ws ss ys) 0) _ 0 ([],[],[]) _ (by grind) hC];show Af (ws,ss,ys)=_;simp_all [Af,if_neg]
end
end Rv
