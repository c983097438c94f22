/- Texts put together. -/
import Derived.Test.YtfphlcngbllgoaaGreatDoorSS3
import Derived.Test.YtfphlcngbllgoaaGreatDoorSS2
import Derived.Test.YtfphlcngbllgoaaGreatDoorSS1
import Derived.Test.YtfphlcngbllgoaaGreatDoorS1
set_option linter.all false
namespace Rv
open Go
inductive Od
 |A|B|C|E|Q|N
def Od.rd:Od->Fn
 | .A=>K.rdA | .B=>K.rdB | .C=>K.rdC | .E=>K.rdE | .Q=>K.rdQ | .N=>K.rdN
def Od.wr:Od->Fn
 | .A=>K.wrA | .B=>K.wrB | .C=>K.wrC | .E=>K.wrE | .Q=>K.wrQ | .N=>K.wrN
def odL(k o:Int):List Od:=
 if k=1 then(if o=0 then[.A,.C] else[.A,.B,.C]) else
 if k=2 then(if o=0 then[.A,.E] else[.A,.B,.E]) else
 if k=3\/k=4 then[.A] else
 if k=5 then[.A,.B,.E] else
 if k=6 then[.C] else
 if k=7\/k=9 then[.E] else
 if k=8 then[.A,.Q] else
 if k=10 then[.N] else[]
abbrev odF(d:Od):Fn×Fn×Unit:=(d.rd,d.wr,())
theorem wz(k o:Int):L.opsR k o=(odL k o).map odF:=by
 unfold L.opsR odL;split;·split<;>rfl
 ·split
  ·split<;>rfl
  ·repeat' split
   all_goals rfl
theorem wy(k o:Int):(odL k o).length<=3:=by
 grind [odL]
theorem fw{o:Int}(h:0<o):odL 1 o=[.A,.B,.C]:=by unfold odL;grind
theorem ww{o:Int}(h:0<o):odL 2 o=[.A,.B,.E]:=by unfold odL;grind
theorem zH(n:Nat):∀(m:Nat) (s:Str),s.length<m->s.length<=1000000->Zch.l1 n m s 32=some (s.dropWhile (· == 32),())
 |0,_,h,_=>by omega
 |m+1,[],_,_=>by rw[Zch.l1];rfl
 |m+1,b::s,h,hs=>by
  rw[Zch.l1];simp only[dt];have hb:bt (b::s) 0=(b.toNat:Int):=rfl;have h32:((b.toNat:Int)=32)=(b=32):=kV b 32 (by omega);rw[if_pos (by simp),if_pos (by simp),hb,List.dropWhile_cons];by_cases e:b=32
  ·rw[if_pos (h32.mpr e),if_pos (by simp;omega),if_pos (by simp[e])];have:((b::s).take ((((b::s).length:Nat):Int)).toNat).drop ((1:Int)).toNat=s:=by
    simp_all
   rw[this];exact zH n m s (by grind) (by grind)
  grind
theorem FH(s:Str)(hs:s.length<=1000000):Zcx.g s [32]=some (s.dropWhile (· == 32),()):=by
 unfold Zcx.g Zcx.f;simp only[dt,df];by_cases h:s=[]
 ·subst h;rfl
 ·rw[if_pos h,if_neg (by decide),if_pos (by decide),if_pos (by decide),if_pos (by decide),if_pos (by decide)];have hb:bt [32] 0=32:=rfl
  grind [Zch.g,Zch.f,zH]
theorem KX(n:Int)(h:0<=n):∃c r,Lib.itoa n=c::r/\c≠32:=by
 obtain⟨m,rfl⟩:∃m:Nat,n=m:=⟨n.toNat,by omega⟩
 have hi:Lib.itoa (m:Int)=Lib.decDigits m:=by simp_all [Lib.itoa]
 obtain⟨h1,h2⟩:=vX m;rw[hi];cases hd:Lib.decDigits m with
 |nil=>grind
 |cons c r=>
  refine⟨c,r,rfl,?_⟩;rintro rfl
  grind [isD]
theorem Km(b:Bool){s:Str}(h:∃c r,s=c::r/\c≠32):∃c r,brkT b s=c::r/\c≠32:=by
 unfold brkT
 grind
theorem FJ:∀t:Tr,t.ok->∃c r,t.txt=c::r/\c≠32
 | .num n,h=>KX n h.1
 | .nam s,h=>by
  have h:ax s=true:=h;cases s with
  |nil=>exact absurd h (by decide)
  |cons c r=>
   refine⟨c,r,rfl,?_⟩;rintro rfl;unfold ax at h;simp only[UB,Vi] at h;exact absurd h.1.2.1 (by decide)
 | .neg x,_=>⟨_,_,rfl,by decide⟩
 | .br x,_=>⟨_,_,rfl,by decide⟩
 | .bin o a b,h=>by
  obtain⟨c,r,h1,h2⟩:=Km (decide (a.tight<o.tight)) (FJ a h.1);exact⟨c,_,by show brkT _ _++_=_;rw[h1];rfl,h2⟩
def et:Option Tr->Str
 |none=>[]
 |some t=>t.txt
def wtx(s:Sm)(t:Option Tr):Od->Str
 | .A=>rn s.a | .B=>rn s.b | .C=>rn s.c | .E=>et t | .Q=>61::32::et t | .N=>s.nm
def pQ(s:Sm)(t:Option Tr):Od->Prop
 | .A=>rg s.a | .B=>rg s.b | .C=>rg s.c | .E=>∃x,t=some x/\iU x/\s.e=x.post | .Q=>∃x,t=some x/\iU x/\s.e=x.post | .N=>bZ s.nm=true
theorem nk{s:Sm}{t:Option Tr}(h:GoodS s t):∀d∈odL s.k s.o,pQ s t d:=by
 cases h with
 |none=>grind [odL]
 |ins0 h hk=>
  cases h with
  |reg h1 h2 ha hb hc hu=>
   intro d hd;dsimp only at hd;rw[fw h1] at hd;simp only[UG,Vj,or_false] at hd;rcases hd with rfl|rfl|rfl;·exact ha
   ·exact hb
   ·exact hc
  |mov ha hc=>
   intro d hd;simp only[odL,if_true,UG,Vj,or_false] at hd;rcases hd with rfl|rfl;·exact ha
   ·exact hc
  |hi ha=>intro d hd;simp[odL] at hd;subst hd;exact ha
  |fl ha=>intro d hd;simp[odL] at hd;subst hd;exact ha
  |br ho hc=>intro d hd;simp[odL] at hd;subst hd;exact hc
  |imm=>simp at hk
  |movi=>simp at hk
  |mem=>simp at hk
  |jmp=>simp at hk
 |ins1 h hk ht=>
  cases h with
  |imm h1 h2 ha hb hu=>
   intro d hd;dsimp only at hd;rw[ww h1] at hd;simp only[UG,Vj,or_false] at hd;rcases hd with rfl|rfl|rfl;·exact ha
   ·exact hb
   ·exact⟨_,rfl,ht,rfl⟩
  |movi ha=>
   intro d hd;simp[odL] at hd;rcases hd with rfl|rfl;·exact ha
   ·exact⟨_,rfl,ht,rfl⟩
  |mem h1 h2 ha hb=>
   intro d hd;simp[odL] at hd;rcases hd with rfl|rfl|rfl;·exact ha
   ·exact hb
   ·exact⟨_,rfl,ht,rfl⟩
  |jmp ho=>intro d hd;simp[odL] at hd;subst hd;exact⟨_,rfl,ht,rfl⟩
  |reg=>simp at hk
  |mov=>simp at hk
  |hi=>simp at hk
  |fl=>simp at hk
  |br=>simp at hk
 |load ha ht=>
  intro d hd;simp[odL] at hd;rcases hd with rfl|rfl;·exact ha
  ·exact⟨_,rfl,ht,rfl⟩
 |word ht=>intro d hd;simp[odL] at hd;subst hd;exact⟨_,rfl,ht,rfl⟩
 |exp hn=>intro d hd;simp[odL] at hd;subst hd;exact hn
theorem ym(k:Nat):(gB k).length<=3:=by grind [gB]
theorem Ip{s:Sm}{t:Option Tr}{d:Od}(h:pQ s t d):(wtx s t d).length<=1300:=by
 have r:∀a:Int,(rn a).length<=1300:=fun a=>UW (ym _) (by decide)
 have e:(∃x,t=some x/\iU x/\s.e=x.post)->(et t).length<=1280:=by
  rintro⟨x,rfl,hx,_⟩;have:=gY x hx.1 hx.2.1;have:=hx.2.2.2;show x.txt.length<=1280;omega
 cases d with
 |A=>exact r _
 |B=>exact r _
 |C=>exact r _
 |E=>exact UW (e h) (by decide)
 |Q=>have:=e h;show(61::32::et t).length<=1300;simp;omega
 |N=>
  have h:bZ s.nm=true:=h;unfold bZ at h;simp only[UB,UE] at h;show s.nm.length<=1300
  grind
theorem Hd{s:Sm}{t:Option Tr}(h:∃x,t=some x/\iU x/\s.e=x.post)(q:Str)(hq:q=[]\/q=[61]) :
  Zdk.g s.k s.o s.a s.b s.c s.u s.e s.nm q=some (if q=[] then et t else 61::32::et t,()):=by
 obtain⟨x,rfl,hx,he⟩:=h;have hl:=gY x hx.1 hx.2.1;have hl2:=hx.2.2.2;unfold Zdk.g Zdk.f;rw[he,KG hx.1 hx.2.1 hx.2.2.1 hx.2.2.2,Uv];dsimp only;obtain⟨c,r,h1,h2⟩:=FJ x hx.1;rcases hq with rfl|rfl;·rw[if_pos (by decide),if_pos (by simp;omega),FH _ (by simp;omega),Uv,if_pos rfl];show some ((([]++[32])++x.txt).dropWhile (· == 32),())=some (x.txt,());simp_all
 ·rw[if_pos (by decide),if_pos (by simp;omega),FH _ (by simp;omega),Uv,if_neg (by decide)];rfl
theorem J7(s:Sm)(t:Option Tr)(out:List Str)(mn:Str)(n:Nat)(ods:List Od)(ho:∀d∈ods,pQ s t d)(hl:ods.length<=3):∀(m i:Nat) (l:List Str),i<=ods.length->ods.length-i<m->l.length=i ->
  Zad.l12 n m out mn l (ods.map odF) (ods.length:Int) (i:Int) s.k s.o s.a s.b s.c s.u s.e s.nm=Zad.l12 n 1 out mn (l++(ods.drop i).map (wtx s t)) (ods.map odF) (ods.length:Int) (ods.length:Int) s.k s.o s.a s.b s.c s.u s.e s.nm:=by
 intro m
 induction m with
 |zero=>grind
 |succ m ih=>
  intro i l hi hm hli;by_cases h:i<ods.length
  ·have hd:ods.drop i=ods[i]::ods.drop (i+1):=UX h;have hg:(ods.map odF).getD ((i:Int)).toNat (((0,[]):Fn),(((0,[]):Fn),()))=odF ods[i]:=by
    grind
   have hok:=ho ods[i] (Vg h);have next:=fun x:Str=>ih (i+1) (l++[x]) (by omega) (by omega) (by simp[hli])
   rw[Zad.l12,if_pos (by simp;omega),if_pos (by simp;omega),hg,hd,UO];have W1:IntKind.i64.wrap ((i:Int)+1)=((i+1:Nat):Int):=by grind [w64]
   have fin:∀x:Str,(if(l.length+([x]:List Str).length)*16<=140737488355328/\0<16/\0<1 then(Zad.j15 n (Zad.l12 n m) out mn (l++([x]:List Str)) (ods.map odF) (ods.length:Int) (i:Int) s.k s.o s.a s.b s.c s.u s.e s.nm) else none) =
     Zad.l12 n 1 out mn (l++x::(ods.drop (i+1)).map (wtx s t)) (ods.map odF) (ods.length:Int) (ods.length:Int) s.k s.o s.a s.b s.c s.u s.e s.nm:=fun x=>by
    rw[if_pos (by simp;omega)]
    grind [Zad.j15]
   generalize hx:ods[i]=d at hok⊢;cases d with
   |A=>
    show(if K.wrA=K.wrA then _ else _)=_;rw[if_pos rfl];unfold Zbx.g Zbx.f Zdh.g Zdh.f;rw[if_pos rfl,Uv];dsimp only;rw[Dm hok,Uv,Uv];exact fin _
   |B=>
    show(if K.wrB=K.wrA then _ else if K.wrB=K.wrB then _ else _)=_;rw[if_neg (by decide),if_pos rfl];unfold Zbx.g Zbx.f Zdi.g Zdi.f;rw[if_neg (by decide),if_pos rfl,Uv];dsimp only;rw[Dm hok,Uv,Uv];exact fin _
   |C=>
    show(if K.wrC=K.wrA then _ else if K.wrC=K.wrB then _ else if K.wrC=K.wrC then _ else _)=_;rw[if_neg (by decide),if_neg (by decide),if_pos rfl];unfold Zbx.g Zbx.f Zdj.g Zdj.f;rw[if_neg (by decide),if_neg (by decide),if_pos rfl,Uv];dsimp only;rw[Dm hok,Uv,Uv];exact fin _
   |E=>
    show(if K.wrE=K.wrA then _ else if K.wrE=K.wrB then _ else if K.wrE=K.wrC then _ else if K.wrE=K.wrE then _ else _)=_;rw[if_neg (by decide),if_neg (by decide),if_neg (by decide),if_pos rfl,Hd hok [] (.inl rfl),Uv];exact fin _
   |Q=>
    show(if K.wrQ=K.wrA then _ else if K.wrQ=K.wrB then _ else if K.wrQ=K.wrC then _ else if K.wrQ=K.wrE then _ else if K.wrQ=K.wrQ then _ else _)=_;rw[if_neg (by decide),if_neg (by decide),if_neg (by decide),if_neg (by decide),if_pos rfl,Hd hok [61] (.inr rfl),Uv];exact fin _
   |N=>
    show(if K.wrN=K.wrA then _ else if K.wrN=K.wrB then _ else if K.wrN=K.wrC then _ else if K.wrN=K.wrE then _ else if K.wrN=K.wrQ then _ else if K.wrN=K.wrN then _ else _)=_;rw[if_neg (by decide),if_neg (by decide),if_neg (by decide),if_neg (by decide),if_neg (by decide),if_pos rfl];unfold Zeo.g Zeo.f;rw[Uv];exact fin _
  ·have hi':i=ods.length:=by omega
   simp_all [Zad.l12]
def hk(k:Int):Int:=if k=2 then 1 else if k=6 then 7 else k
def mtx(s:Sm):Str:=(if s.k=9\/s.k=10 then[46] else[])++L.mnemR (hk s.k) s.o s.u
def stx(s:Sm)(t:Option Tr):Str:=if s.k=0 then[] else mtx s++32::L.sjoinR [44,32] ((odL s.k s.o).map (wtx s t))
def ltx(lb:Str)(s:Sm)(t:Option Tr):Str:=if lb=[] then stx s t else lb++58::(if s.k=0 then[] else 32::stx s t)
theorem SE:∀e∈L.nameTbl,e.2.2.length<=6:=by decide +kernel
theorem nU(k o:Int)(u:Bool):(L.mnemR k o u).length<=6:=by
 by_cases h:L.mnemR k o u=[]
 ·rw[h];simp
 ·obtain⟨e,he,_,h2⟩:=xU h
  grind [SE]
theorem D9(sep:Str)(b:Nat):∀(l:List Str),(∀x∈l,x.length<=b)->((l.map (sep++·)).flatten).length<=(b+sep.length)*l.length
 |[],_=>by simp
 |y::r,h=>by
  have h1:=h y (by simp);have h2:=D9 sep b r fun z hz=>h z (by simp[hz])
  rw[UO,List.flatten_cons,UD,UD,UN,Nat.mul_add,Nat.mul_one];omega
theorem vG(sep:Str)(b:Nat)(l:List Str)(h:∀x∈l,x.length<=b):(L.sjoinR sep l).length<=(b+sep.length)*l.length:=by
 cases l with
 |nil=>simp[L.sjoinR]
 |cons x r=>
  have h1:=h x (by simp);have h2:=D9 sep b r fun z hz=>h z (by simp[hz])
  rw[show L.sjoinR sep (x::r)=x++(r.map (sep++·)).flatten from rfl,UD,UN,Nat.mul_add,Nat.mul_one];omega
theorem NI{k:Int}(h:0<=k)(h2:k<=10):-9223372036854775808<=hk k/\hk k<=9223372036854775807:=by grind [hk]
theorem NH(k:Int):Zdy.g k=some (hk k,()):=by
 unfold Zdy.g Zdy.f hk
 grind
theorem Bu(k:Int):Zcw.g k=some (decide (k=9\/k=10),()):=by
 unfold Zcw.g Zcw.f
 grind
abbrev LD(lb:Str)(s:Sm):Option (Str×Int×Unit):=Zad.g lb s.k s.o s.a s.b s.c s.u s.e s.nm
theorem GL{s:Sm}{t:Option Tr}(h:GoodS s t):0<=s.k/\s.k<=10/\0<=s.o/\s.o<=15:=by
 cases h with
 |none=>decide
 |ins0 h hk=>obtain⟨h1,h2,h3,h4⟩:=jf h;grind
 |ins1 h hk ht=>obtain⟨h1,h2,h3,h4⟩:=jf h;grind
 |load ha ht=>grind
 |word ht=>grind
 |exp hn=>grind
theorem Jz{s:Sm}{t:Option Tr}(h:GoodS s t){lb:Str}(hlb:lb=[]\/ax lb=true):LD lb s=some (ltx lb s t,0,()):=by
 have hod:=nk h;have hkr:=GL h;have hl3:=wy s.k s.o;have hll:lb.length<=12:=by
  rcases hlb with rfl|hlb;·simp
  simp_all [ax]
 have hbody:(L.sjoinR [44,32] ((odL s.k s.o).map (wtx s t))).length<=4000:=by
  have:=vG [44,32] 1300 ((odL s.k s.o).map (wtx s t)) (fun x hx=>by
   obtain⟨d,hd,rfl⟩:=UR.1 hx;exact Ip (hod d hd))
  grind
 have hmt:(mtx s).length<=7:=by
  grind [mtx,nU]
 have hm:L.mnemO (hk s.k) s.o s.u=some (L.mnemR (hk s.k) s.o s.u,()):=Oi s.u (NI hkr.1 hkr.2.1) (by omega);have J17:∀(n:Nat) (out:List Str),(L.sjoinR [32] out).length<=10000->out.length<=10->Zad.j17 n out=some (L.sjoinR [32] out,0,()):=fun n out h1 h2=>by
  unfold Zad.j17 L.sjoinO
  grind
 have J10:∀(n:Nat) (out:List Str),10<=n->out.length<=1->(∀x∈out,x.length<=13)->Zad.j10 n out (mtx s) s.k s.o s.a s.b s.c s.u s.e s.nm=some (L.sjoinR [32] (out++[mtx s,L.sjoinR [44,32] ((odL s.k s.o).map (wtx s t))]),0,()):=fun n out hn ho hx=>by
  unfold Zad.j10;have hlen:((L.opsR s.k s.o).length:Int)=((odL s.k s.o).length:Int):=by rw[wz,Vb]
  rw[hlen,wz];have:=J7 s t out (mtx s) n (odL s.k s.o) hod hl3 n 0 [] (by omega) (by omega) rfl;rw[show((0:Nat):Int)=0 from rfl] at this;rw[this,U3,UY,Zad.l12];simp only[dt];rw[if_neg (by omega)];unfold L.sjoinO;rw[if_pos ⟨by omega,by grind⟩,Uv];dsimp only;rw[if_pos (by simp;omega)];refine J17 n _ ?_ (by simp;omega);generalize L.sjoinR [44,32] ((odL s.k s.o).map (wtx s t))=B at hbody;generalize mtx s=M at hmt
  match out,ho with
  |[],_=>simp[L.sjoinR];omega
  |[x],_=>grind [L.sjoinR]
 have J6:∀(n:Nat) (out:List Str),10<=n->out.length<=1->(∀x∈out,x.length<=13)->Zad.j6 n out s.k s.o s.a s.b s.c s.u s.e s.nm=some (L.sjoinR [32] (out++(if s.k=0 then[] else[mtx s,L.sjoinR [44,32] ((odL s.k s.o).map (wtx s t))])),0,()):=fun n out hn ho hx=>by
  unfold Zad.j6;simp only[dt,NH,Uv,hm,Bu];by_cases h0:s.k=0
  ·rw[if_neg (by simp[h0]),if_pos h0,UU];refine J17 n out ?_ (by omega)
   match out,ho with
   |[],_=>simp[L.sjoinR]
   |[x],_=>grind [L.sjoinR]
  ·rw[if_pos h0,if_neg h0,<- J10 n out hn ho hx];unfold mtx;by_cases hd:s.k=9\/s.k=10
   ·rw[if_pos hd,if_pos (by grind [nU]),if_pos hd]
   grind
 have J3:∀n,10<=n->Zad.j3 n lb s.k s.o s.a s.b s.c s.u s.e s.nm=some (ltx lb s t,0,()):=fun n hn=>by
  unfold Zad.j3 ltx stx;by_cases hl:lb=[]
  ·subst hl;rw[if_neg (by decide),J6 n [] hn (by simp) (by simp),if_pos rfl];by_cases h0:s.k=0
   ·rw[if_pos h0,if_pos h0];rfl
   simp_all [L.sjoinR]
  ·rw[if_pos (by simp[hl]),if_pos (by simp;omega),if_pos (by simp),J6 n _ hn (by simp) (by simp;omega),if_neg hl];by_cases h0:s.k=0
   ·simp_all [L.sjoinR]
   simp_all [L.sjoinR]
 unfold LD Zad.g;have hN:10<=1000+lb.length+s.k.toNat+s.o.toNat+s.a.toNat+s.b.toNat+s.c.toNat+s.e.length+s.nm.length:=by omega
 generalize 1000+lb.length+s.k.toNat+s.o.toNat+s.a.toNat+s.b.toNat+s.c.toNat+s.e.length+s.nm.length=n at hN;unfold Zad.f;have hmay:Zak.g s.k s.o s.a s.b s.c s.u s.e s.nm=some (true,()):=Og h;rw[hmay,J3 n hN,nO]
 grind
end Rv
namespace Rv
open Go
theorem Lc(c:UInt8)(hc:c∈([40,41,42,43,45,44,58,61]:Str))(k:Int)(r:Str):aI k (c::r)=kg [(3,k,[c],0,())] (aI (k+1) r):=by
 have step:isL c=false/\isD c=false/\c≠46/\isS c=true/\c≠59/\c≠32/\c≠9:=by
  simp only[UG,Vj,or_false] at hc;rcases hc with rfl|rfl|rfl|rfl|rfl|rfl|rfl|rfl<;>decide
 obtain⟨h1,h2,h3,h4,h5,h6,h7⟩:=step;rw[eT,if_neg h5,if_neg (fun h=>h.elim h6 h7)];unfold jb;rw[if_neg (by simp[h1]),if_neg (by simp[h2]),if_neg (fun h=>h3 h.1),if_pos h4];dsimp only;rw[show k+((0:Nat):Int)+(([c]:Str).length:Int)=k+1 by simp,show 0+([c]:Str).length-1=0 from rfl,U3];cases aI (k+1) r<;>rfl
def bR(s:Str)(b:List Bt):Prop:=∀k:Int,∃ts:List aj,ts.map bare=b/\∀r,aI k (s++r)=kg ts (aI (k+s.length) r)
theorem bR.scans{s:Str}{b:List Bt}(h:bR s b):bK s b:=fun k=>by
 obtain⟨ts,h1,h2⟩:=h k
 grind
theorem bR.sig(c:UInt8)(hc:c∈([40,41,42,43,45,44,58,61]:Str)):bR [c] [(3,[c],0)]:=fun k=>⟨[(3,k,[c],0,())],rfl,fun r=>Lc c hc k r⟩
theorem bR.blank:bR [32] []:=fun k=>⟨[],rfl,fun r=>by
 show aI k (32::r)=_;rw[rH];show _=kg [] (aI (k+1) r);cases aI (k+1) r<;>rfl⟩
theorem vE:bK [] []:=fun k=>⟨[],rfl,fun r _=>by
 show aI k r=kg [] (aI (k+((0:Nat):Int)) r);rw[show k+((0:Nat):Int)=k by omega];cases aI k r<;>rfl⟩
theorem bR.app{s s':Str}{b b':List Bt}(h:bR s b)(h':bK s' b'):bK (s++s') (b++b'):=fun k=>by
 obtain⟨ts,h1,h2⟩:=h k;obtain⟨ts',h3,h4⟩:=h' (k+s.length);refine⟨ts++ts',by grind,fun r hr=>?_⟩
 grind [iD]
theorem bR.appA{s s':Str}{b b':List Bt}(h:bR s b)(h':bR s' b'):bR (s++s') (b++b'):=fun k=>by
 obtain⟨ts,h1,h2⟩:=h k;obtain⟨ts',h3,h4⟩:=h' (k+s.length);refine⟨ts++ts',by grind,fun r=>?_⟩
 grind [iD]
theorem bK.app{s s':Str}{b b':List Bt}(h:bK s b)(h':bK s' b')(hs:s'=[]\/∃c y,s'=c::y/\isW c=false):bK (s++s') (b++b'):=fun k=>by
 obtain⟨ts,h1,h2⟩:=h k;obtain⟨ts',h3,h4⟩:=h' (k+s.length);refine⟨ts++ts',by grind,fun r hr=>?_⟩;have hok:okR (s'++r):=by
  rcases hs with rfl|⟨c,y,rfl,hc⟩;·exact hr
  ·exact .inr ⟨c,y++r,rfl,hc⟩
 grind [iD]
theorem bK.appA{s s':Str}{b b':List Bt}(h:bK s b)(h':bR s' b')(hs:∃c y,s'=c::y/\isW c=false):bR (s++s') (b++b'):=fun k=>by
 obtain⟨ts,h1,h2⟩:=h k;obtain⟨ts',h3,h4⟩:=h' (k+s.length);refine⟨ts++ts',by grind,fun r=>?_⟩;have hok:okR (s'++r):=by
  obtain⟨c,y,rfl,hc⟩:=hs;exact .inr ⟨c,y++r,rfl,hc⟩
 grind [iD]
def l9(s:Str):Bool:=s.all isW&&(match s with|c::_=>isL c|[]=>false)
theorem mX{s:Str}(h:l9 s=true):bK s [(1,s,0)]:=fun k=>by
 cases s with
 |nil=>exact absurd h (by decide)
 |cons c t=>
  unfold l9 at h;simp only[UB] at h;refine⟨[(1,k,c::t,0,())],rfl,fun r hr=>uK rfl h.1 (fun r hr=>?_) k hr⟩;have hword:bf (c::(t++r))=c::t:=by
   grind [sS]
  simp_all [jb]
theorem Mf{s:Str}(h:l9 s=true):bK (46::s) [(4,s,0)]:=fun k=>by
 cases s with
 |nil=>exact absurd h (by decide)
 |cons c t=>
  unfold l9 at h;simp only[UB] at h;refine⟨[(4,k,c::t,0,())],rfl,fun r hr=>?_⟩;have hword:bf (c::t++r)=c::t:=sS h.1 hr;rw[List.cons_append,eT,if_neg (by decide),if_neg (by decide)];unfold jb;rw[if_neg (by decide),if_neg (by decide),if_pos ⟨rfl,c,rfl,h.2⟩,hword];dsimp only;rw[show(c::t++r).drop (1+(c::t).length-1)=r by grind,show k+((1:Nat):Int)+((c::t).length:Int)=k+((46::c::t).length:Int) by simp;omega];cases aI (k+((46::c::t).length:Int)) r<;>rfl
theorem xg{s:Str}(h:ax s=true):bK s [(1,s,0)]:=fun k=>⟨_,rfl,fun r hr=>zg h k hr⟩
theorem kM{s:Str}(h:bZ s=true):ax s=true:=by
 unfold bZ at h;simp only[UB,UE,Bool.not_eq_true'] at h;unfold ax;simp only[UB,UE,Bool.not_eq_true']
 grind [isA,isD]
theorem lJ{a:Int}(h:rg a):l9 (rn a)=true:=by
 have:∀k:Nat,k<16->l9 (gB k)=true:=by decide +kernel
 exact this a.toNat (by have:=h.1;have:=h.2;omega)
theorem Q7:∀e∈L.nameTbl,l9 e.2.2=true:=by decide +kernel
theorem BZ{k o:Int}{u:Bool}(h:L.mnemR k o u≠[]):l9 (L.mnemR k o u)=true:=by
 obtain⟨e,he,_,h2⟩:=xU h
 grind [Q7]
def i0B(k o:Nat)(u:Bool):Bool:=((k == 1||k == 2)&&decide (o<12)&&(!u||(o == 0&&k == 2)||(decide (8<=o)&&decide (o<=10))))||((k == 3||k == 4)&&o == 0&&!u)||(k == 5&&decide (o<4)&&!u)||k == 6||k == 7
theorem Sa:∀k:Nat,k<8->∀o:Nat,o<16->∀u:Bool,i0B k o u=true->L.mnemR (hk (k:Int)) (o:Int) u≠[]:=by decide +kernel
theorem GQ{k o a b c:Int}{u:Bool}(h:bB k o a b c u):L.mnemR (hk k) o u≠[]:=by
 obtain⟨h1,h2,h3,h4⟩:=jf h;obtain⟨k',rfl⟩:∃k':Nat,k=(k':Int):=⟨k.toNat,by omega⟩
 obtain⟨o',rfl⟩:∃o':Nat,o=(o':Int):=⟨o.toNat,by omega⟩
 refine Sa k' (by omega) o' (by omega) u ?_;generalize hk':(k':Int)=K at h;generalize ho':(o':Int)=O at h;have kk:∀n:Nat,K=(n:Int)->k'=n:=fun n e=>by omega
 have oo:∀n:Nat,O=(n:Int)->o'=n:=fun n e=>by omega
 unfold i0B;cases h with
 |reg q1 q2 _ _ _ q3=>
  grind
 |mov _ _=>grind
 |imm q1 q2 _ _ q3=>
  grind
 |movi _=>grind
 |hi _=>grind
 |fl _=>grind
 |mem q1 q2 _ _=>
  grind
 |br _ _=>grind
 |jmp _=>grind
theorem uB{s:Sm}{t:Option Tr}(h:GoodS s t)(h0:s.k≠0):L.mnemR (hk s.k) s.o s.u≠[]:=by
 cases h with
 |none=>grind
 |ins0 h _=>exact GQ h
 |ins1 h _ _=>exact GQ h
 |load _ _=>exact(by decide +kernel:L.mnemR (hk 8) 0 false≠[])
 |word _=>exact(by decide +kernel:L.mnemR (hk 9) 0 false≠[])
 |exp _=>exact(by decide +kernel:L.mnemR (hk 10) 0 false≠[])
def Dh:List (List Bt)->List Bt
 |[]=>[]
 |x::r=>x++(r.map ((3,[44],0)::·)).flatten
def mtk(s:Sm):Bt:=(if s.k=9\/s.k=10 then 4 else 1,L.mnemR (hk s.k) s.o s.u,0)
def ek:Option Tr->List Bt
 |none=>[]
 |some t=>t.toks
def wtk(s:Sm)(t:Option Tr):Od->List Bt
 | .A=>[(1,rn s.a,0)] | .B=>[(1,rn s.b,0)] | .C=>[(1,rn s.c,0)] | .E=>ek t | .Q=>(3,[61],0)::ek t | .N=>[(1,s.nm,0)]
def stk(s:Sm)(t:Option Tr):List Bt:=if s.k=0 then[] else mtk s::Dh ((odL s.k s.o).map (wtk s t))
def ltk(lb:Str)(s:Sm)(t:Option Tr):List Bt:=if lb=[] then stk s t else(1,lb,0)::(3,[58],0)::stk s t
theorem E9{s:Sm}{t:Option Tr}{d:Od}(h:pQ s t d):bK (wtx s t d) (wtk s t d):=by
 cases d with
 |A=>exact mX (lJ h)
 |B=>exact mX (lJ h)
 |C=>exact mX (lJ h)
 |E=>obtain⟨x,rfl,hx,_⟩:=h;exact jE x hx.1
 |Q=>
  obtain⟨x,rfl,hx,_⟩:=h;exact((bR.sig 61 (by decide)).appA bR.blank).app (jE x hx.1)
 |N=>exact xg (kM h)
theorem JL{s:Sm}{t:Option Tr}:∀(l:List Od),(∀d∈l,pQ s t d)->bK (L.sjoinR [44,32] (l.map (wtx s t))) (Dh (l.map (wtk s t)))
 |[],_=>vE
 |d::l,h=>by
  have tail:∀l:List Od,(∀d∈l,pQ s t d)->bK (((l.map (wtx s t)).map (([44,32]:Str)++·)).flatten) (((l.map (wtk s t)).map ((3,[44],0)::·)).flatten)/\((((l.map (wtx s t)).map (([44,32]:Str)++·)).flatten)=[]\/∃c y,(((l.map (wtx s t)).map (([44,32]:Str)++·)).flatten)=c::y/\isW c=false):=by
   intro l
   induction l with
   |nil=>simp_all [vE]
   |cons e l ih=>
    intro h;obtain⟨h1,h2⟩:=ih fun d hd=>h d (UA _ hd)
    have h3:=E9 (h e (U4 ..));refine⟨?_,.inr ⟨44,_,rfl,by decide⟩⟩;have:=(((bR.sig 44 (by decide)).appA bR.blank).app h3).app h1 h2
    grind
  obtain⟨h1,h2⟩:=tail l fun d hd=>h d (UA _ hd)
  exact(E9 (h d (U4 ..))).app h1 h2
theorem Cq{s:Sm}{t:Option Tr}(h:GoodS s t):bK (stx s t) (stk s t):=by
 unfold stx stk;by_cases h0:s.k=0;·simp_all [vE]
 ·rw[if_neg h0,if_neg h0];have hw:=BZ (uB h h0);have hm:bK (mtx s) [mtk s]:=by
   unfold mtx mtk;by_cases hd:s.k=9\/s.k=10;·simp_all [Mf]
   simp_all [mX]
  exact hm.app (bR.blank.app (JL _ (nk h))) (.inr ⟨32,_,rfl,by decide⟩)
theorem Mg{s:Sm}{t:Option Tr}(h:GoodS s t){lb:Str}(hlb:lb=[]\/ax lb=true):bK (ltx lb s t) (ltk lb s t):=by
 unfold ltx ltk;by_cases hl:lb=[]
 ·simp_all [Cq]
 ·rw[if_neg hl,if_neg hl];have h1:=xg (hlb.resolve_left hl);have h2:bK (58::(if s.k=0 then[] else 32::stx s t)) ((3,[58],0)::stk s t):=by
   by_cases h0:s.k=0;·rw[if_pos h0,show stk s t=[] by unfold stk;rw[if_pos h0]];exact(bR.sig 58 (by decide)).scans
   ·rw[if_neg h0];exact(bR.sig 58 (by decide)).app (bR.blank.app (Cq h))
  exact h1.app h2 (.inr ⟨58,_,rfl,by decide⟩)
theorem RF{s:Sm}{t:Option Tr}(h:GoodS s t):(stx s t).length<=4100:=by
 unfold stx;split;·simp
 ·have:=vG [44,32] 1300 ((odL s.k s.o).map (wtx s t)) (fun x hx=>by
   obtain⟨d,hd,rfl⟩:=UR.1 hx;exact Ip (nk h d hd))
  rw[Vb] at this;have h2:(1300+([44,32]:Str).length)*(odL s.k s.o).length<=1302*3:=Nat.mul_le_mul (by decide) (wy _ _)
  grind [mtx,nU]
theorem Ay{s:Sm}{t:Option Tr}(h:GoodS s t){lb:Str}(hlb:lb=[]\/ax lb=true):(ltx lb s t).length<=5000:=by
 have h1:=RF h;have hll:lb.length<=12:=by
  rcases hlb with rfl|hlb;·simp
  simp_all [ax]
 grind [ltx]
end Rv
namespace Rv
open Go
def iA(l:List aj)(p:Nat)(c:UInt8):Bool:=decide (p<l.length)&&decide ((l.getD p aR).1=3)&&decide ((l.getD p aR).2.2.1=[c])
abbrev XR:=Except Int (List Item×Nat)
def xF(l:List aj)(S F:Nat->XR)(p:Nat):XR:=
 if iA l p 45=true then(match F (p+1) with | .error e=>.error e | .ok r=>.ok (r.1++[(3,0,[],())],r.2))
 else if iA l p 40=true then(match S (p+1) with | .error e=>.error e | .ok r=>if iA l r.2 41=true then .ok (r.1,r.2+1) else .error 23)
 else if p<l.length/\(l.getD p aR).1=2 then .ok ([(1,(l.getD p aR).2.2.2.1,[],())],p+1)
 else if p<l.length/\(l.getD p aR).1=1/\ax (l.getD p aR).2.2.1=true then .ok ([(2,0,(l.getD p aR).2.2.1,())],p+1)
 else .error 23
def lT(l:List aj)(F:Nat->XR):Nat->List Item->Nat->XR
 |0,it,p=>.ok (it,p)
 |m+1,it,p=>if iA l p 42=true then(match F (p+1) with | .error e=>.error e | .ok r=>lT l F m (it++r.1++[(6,0,[],())]) r.2) else .ok (it,p)
def xT(l:List aj)(F:Nat->XR)(p:Nat):XR:=match F p with | .error e=>.error e | .ok r=>lT l F (l.length+1) r.1 r.2
def lS(l:List aj)(T:Nat->XR):Nat->List Item->Nat->XR
 |0,it,p=>.ok (it,p)
 |m+1,it,p=>if iA l p 43=true then(match T (p+1) with | .error e=>.error e | .ok r=>lS l T m (it++r.1++[(4,0,[],())]) r.2)
  else if iA l p 45=true then(match T (p+1) with | .error e=>.error e | .ok r=>lS l T m (it++r.1++[(5,0,[],())]) r.2) else .ok (it,p)
def xS(l:List aj)(F:Nat->XR)(p:Nat):XR:=match xT l F p with | .error e=>.error e | .ok r=>lS l (xT l F) (l.length+1) r.1 r.2
def pF(l:List aj):Nat->Nat->XR
 |0,_=>.error 24
 |q+1,p=>xF l (xS l (pF l q)) (pF l q) p
def fF(l:List aj)(p:Nat):List Item×Int×Int×Unit:=
 match xS l (pF l 9) p with
 | .error e=>([],0,e,())
 | .ok r=>if 64<r.1.length then([],0,24,()) else(r.1,(r.2:Int),0,())
structure OkX (l:List aj) (p:Nat) (it:List Item) (p':Nat):Prop where
 lt:p<p'
 le:p'<=l.length
 len:it.length<=p'-p
 well:fZ it
 good:(∀t∈l,0<=t.2.2.2.1/\t.2.2.2.1<=4294967295)->∀x∈it,xH x
def jo(l:List aj)(p:Nat):XR->Prop
 | .error e=>e=23\/e=24
 | .ok r=>OkX l p r.1 r.2
theorem QI{l:List aj}{p:Nat}{c:UInt8}(h:iA l p c=true):p<l.length:=by
 simp_all [iA]
theorem KN{l:List aj}{p:Nat}(h:p<l.length):l.getD p aR∈l:=by
 grind
theorem QD{l:List aj}{S F:Nat->XR}(hS:∀p,jo l p (S p))(hF:∀p,jo l p (F p))(p:Nat):jo l p (xF l S F p):=by
 unfold xF;split
 ·rename_i h;have:=hF (p+1);cases hr:F (p+1) with
  |error e=>rw[hr] at this;exact this
  |ok r=>
   rw[hr] at this;have h1:=this.lt;have h2:=this.len;have h3:=this.le;refine⟨by grind,h3,by simp;omega,Pz this.well _ rfl,fun ht x hx=>?_⟩;simp only[UK,UV] at hx;rcases hx with hx|rfl;·exact this.good ht x hx
   ·exact⟨by decide,by decide,rfl⟩
 ·split
  ·have:=hS (p+1);cases hr:S (p+1) with
   |error e=>rw[hr] at this;exact this
   |ok r=>
    rw[hr] at this;dsimp only;split;·rename_i h;have h0:=QI h;have h1:=this.lt;have h2:=this.len;have h3:=this.le;exact⟨by grind,by grind,by grind,this.well,this.good⟩
    ·exact .inl rfl
  ·split
   ·rename_i h;refine⟨by grind,by grind,by simp,rfl,fun ht x hx=>?_⟩;simp only[UV] at hx;subst hx;have:=ht _ (KN h.1);exact⟨this.1,this.2,rfl⟩
   ·split
    ·rename_i h;have hn:az (2,0,(l.getD p aR).2.2.1,())=(0,true):=by
      generalize (l.getD p aR).2.2.1=tx at h
      grind [az]
     refine⟨by grind,by grind,by simp,?_,fun ht x hx=>?_⟩;·show enough 0 [((2,0,(l.getD p aR).2.2.1,()):Item)]=some 1;simp_all [enough]
     ·simp only[UV] at hx;subst hx;exact⟨by grind,by grind,by rw[hn]⟩
    ·exact .inl rfl
theorem uA{l:List aj}{a b c:Nat}{A B:List Item}(ha:OkX l a A b)(hb:OkX l (b+1) B c)(x:Item)(hx:az x=(2,true))(h0:x.2.1=0):OkX l a (A++B++[x]) c:=by
 have h1:=ha.lt;have h2:=ha.len;have h3:=hb.lt;have h4:=hb.len;refine⟨by omega,hb.le,by simp;omega,PD ha.well hb.well x hx,fun ht y hy=>?_⟩;simp only[UK,UV] at hy;rcases hy with(hy|hy)|rfl;·exact ha.good ht y hy
 ·exact hb.good ht y hy
 ·exact⟨by rw[h0];decide,by rw[h0];decide,by rw[hx]⟩
theorem Ee{l:List aj}{F:Nat->XR}(hF:∀p,jo l p (F p))(a:Nat):∀(m:Nat) (it:List Item) (p:Nat),OkX l a it p->jo l a (lT l F m it p)
 |0,it,p,h=>h
 |m+1,it,p,h=>by
  rw[lT];split
  ·have:=hF (p+1);cases hr:F (p+1) with
   |error e=>rw[hr] at this;exact this
   |ok r=>
    rw[hr] at this;exact Ee hF a m _ _ (uA h this _ rfl rfl)
  ·exact h
theorem vY{l:List aj}{F:Nat->XR}(hF:∀p,jo l p (F p))(p:Nat):jo l p (xT l F p):=by
 unfold xT;have:=hF p;cases hr:F p with
 |error e=>grind
 |ok r=>rw[hr] at this;exact Ee hF p _ _ _ this
theorem xI{l:List aj}{F:Nat->XR}(hF:∀p,jo l p (F p))(a:Nat):∀(m:Nat) (it:List Item) (p:Nat),OkX l a it p->jo l a (lS l F m it p)
 |0,it,p,h=>h
 |m+1,it,p,h=>by
  rw[lS];split
  ·have:=hF (p+1);cases hr:F (p+1) with
   |error e=>rw[hr] at this;exact this
   |ok r=>
    rw[hr] at this;exact xI hF a m _ _ (uA h this _ rfl rfl)
  ·split
   ·have:=hF (p+1);cases hr:F (p+1) with
    |error e=>rw[hr] at this;exact this
    |ok r=>
     rw[hr] at this;exact xI hF a m _ _ (uA h this _ rfl rfl)
   ·exact h
theorem ni{l:List aj}{F:Nat->XR}(hF:∀p,jo l p (F p))(p:Nat):jo l p (xS l F p):=by
 unfold xS;have:=vY hF p;cases hr:xT l F p with
 |error e=>grind
 |ok r=>rw[hr] at this;exact xI (vY hF) p _ _ _ this
theorem eD(l:List aj):∀(q p:Nat),jo l p (pF l q p)
 |0,_=>.inr rfl
 |q+1,p=>QD (ni (eD l q)) (eD l q) p
theorem sI(all:List Str)(hall:all.length<=100)(l:List aj)(p:Nat)(hl:l.length<=1000000)(out:List Item):Zaf.g all l p out 0 =
  if p<l.length/\(l.getD p aR).1=3/\(l.getD p aR).2.2.1∈all then some ((l.getD p aR).2.2.1,true,l,((p+1:Nat):Int),out,0,()) else some ([],false,l,(p:Int),out,0,()):=by
 unfold Zaf.g Zaf.f;by_cases hp:p<l.length
 ·rw[nz l p out hp,Uv];dsimp only;have:=kE (1000+all.length+l.length+(p:Int).toNat+out.length+(0:Int).toNat) all hall true l p out 0 (l.getD p aR).1 (l.getD p aR).2.1 (l.getD p aR).2.2.1 (l.getD p aR).2.2.2.1 (1000+all.length+l.length+(p:Int).toNat+out.length+(0:Int).toNat) 0 (by omega) (by omega);rw[show((0:Nat):Int)=0 from rfl] at this;rw[this,w64 (by omega),U3]
  grind
 ·rw[xV l p out (by omega),Uv];dsimp only;have:=kE (1000+all.length+l.length+(p:Int).toNat+out.length+(0:Int).toNat) all hall false l p out 0 0 0 [] 0 (1000+all.length+l.length+(p:Int).toNat+out.length+(0:Int).toNat) 0 (by omega) (by omega)
  grind
theorem bS{l:List aj}{p:Nat}{c:UInt8}:iA l p c=true↔p<l.length/\(l.getD p aR).1=3/\(l.getD p aR).2.2.1=[c]:=by
 unfold iA
 grind
theorem ky(a b:Int)(c:Str)(l:List aj)(p:Int)(out:List Item)(e:Int)(ho:out.length<=3000000):Zas.g a b c l p out e=some (l,p,out++[(a,b,c,())],e,()):=by
 unfold Zas.g Zas.f
 grind
def Iy(l:List aj)(out:List Item)(B:Nat)(r:Option (List aj×Int×List Item×Int×Unit)):XR->Prop
 | .ok x=>r=some (l,(x.2:Int),out++x.1,0,())
 | .error e=>∃p' out',r=some (l,p',out',e,())/\out'.length<=B
def MU(l:List aj)(out:List Item)(d:Int)(B:Nat)(r:Option (List aj×Int×List Item×Int×Unit×Int×Unit)):XR->Prop
 | .ok x=>r=some (l,(x.2:Int),out++x.1,0,(),d,())
 | .error e=>∃p' out',r=some (l,p',out',e,(),d,())/\out'.length<=B
def EE(l:List aj)(q:Nat):Prop:=∀(p:Nat) (out:List Item) (Q:Nat),out.length+(l.length-p)<=1000000->6*q+1<=Q->Iy l out (2000000+3*q) ((R Q).expr_parser_factor ((9-q:Nat):Int) l p out 0) (pF l q p)
def OB(l:List aj)(q:Nat):Prop:=∀(p:Nat) (out:List Item) (Q:Nat),out.length+(l.length-p)<=1000000->6*q+4<=Q->∃r,(R Q).expr_parser_sum_1 ((9-q:Nat):Int) l p out 0=r.map (fun y=>((),((9-q:Nat):Int),y))/\Iy l out (2000000+3*q+1) r (xT l (pF l q) p)
def SG(l:List aj)(q:Nat):Prop:=∀(p:Nat) (out:List Item) (Q:Nat),out.length+(l.length-p)<=1000000->6*q+6<=Q->Iy l out (2000000+3*q+2) ((R Q).expr_parser_sum ((9-q:Nat):Int) l p out 0) (xS l (pF l q) p)
theorem qi{l:List aj}{p:Nat}{x:XR}{e:Int}(h:jo l p x)(hx:x=.error e):e≠0:=by
 subst hx;rcases h with rfl|rfl<;>decide
theorem RU{l:List aj}(hl:l.length<=1000000){q:Nat}(hq9:q<=9)(hF:EE l q)(n:Nat)(Q:Nat)(hQ:6*q+2<=Q)(out:List Item):∀(m M:Nat) (it:List Item) (p:Nat),l.length-p<m->l.length-p<M->(out++it).length+(l.length-p)<=1000000 ->
  MU l out ((9-q:Nat):Int) (2000000+3*q+1) (expr_parser_row_c284.l1 n (R Q) M dM l p (out++it) 0 ((9-q:Nat):Int)) (lT l (pF l q) m it p):=by
 intro m
 induction m with
 |zero=>grind
 |succ m ih=>
  intro M it p hm hM ho;obtain⟨M,rfl⟩:∃M',M=M'+1:=⟨M-1,by omega⟩
  rw[expr_parser_row_c284.l1,sI dM (by simp) l p hl,lT];by_cases hs:iA l p 42=true
  ·have hs':=bS.1 hs;rw[if_pos ⟨hs'.1,hs'.2.1,by grind⟩,if_pos hs,Uv,hs'.2.2];dsimp only;rw[if_neg (by decide)];obtain⟨Q,rfl⟩:∃Q',Q=Q'+1:=⟨Q-1,by omega⟩
   have e:(R (Q+1)).expr_parser_sum_1_1 ((9-q:Nat):Int) l ((p+1:Nat):Int) (out++it) 0=expr_parser_sum_1_1.h (R Q) ((9-q:Nat):Int) l ((p+1:Nat):Int) (out++it) 0:=rfl;rw[e];unfold expr_parser_sum_1_1.h expr_parser_sum_1_1.f;have hg:=eD l q (p+1);have hr:=hF (p+1) (out++it) Q (by omega) (by omega);cases hx:pF l q (p+1) with
   |error e=>
    rw[hx] at hr;obtain⟨p',out',h1,h2⟩:=hr;have hne:=qi hg hx;have hlt:=hs'.1;rw[h1,Uv,Uv];dsimp only;rw[ky _ _ _ _ _ _ _ (by omega),Uv];dsimp only;obtain⟨M,rfl⟩:∃M',M=M'+1:=⟨M-1,by omega⟩
    rw[wm n _ M l p' _ e _ hne];exact⟨p',_,rfl,by simp;omega⟩
   |ok r=>
    rw[hx] at hr hg;have hr:(R Q).expr_parser_factor ((9-q:Nat):Int) l ((p+1:Nat):Int) (out++it) 0=some (l,(r.2:Int),(out++it)++r.1,0,()):=hr;have g1:=hg.lt;have g2:=hg.len;have g3:=hg.le
    grind [ky,L.kinds]
  ·rw[if_neg (fun h=>hs (bS.2 ⟨h.1,h.2.1,by grind⟩)),if_neg hs,Uv];rfl
theorem RV{l:List aj}(hl:l.length<=1000000){q:Nat}(hq9:q<=9)(hF:EE l q):OB l q:=by
 intro p out Q ho hQ;obtain⟨Q,rfl⟩:∃Q',Q=Q'+2:=⟨Q-2,by omega⟩
 have e:(R (Q+2)).expr_parser_sum_1 ((9-q:Nat):Int) l (p:Int) out 0=expr_parser_sum_1.h (R (Q+1)) ((9-q:Nat):Int) l (p:Int) out 0:=rfl;rw[e];unfold expr_parser_sum_1.h expr_parser_sum_1.f;have e2:(R (Q+1)).expr_parser_row_c284 dM l (p:Int) out 0 ((9-q:Nat):Int)=expr_parser_row_c284.h (R Q) dM l (p:Int) out 0 ((9-q:Nat):Int):=rfl;rw[e2];unfold expr_parser_row_c284.h expr_parser_row_c284.f;obtain⟨N,hN⟩:∃N,1000+dM.length+l.length+(p:Int).toNat+out.length+(0:Int).toNat+(((9-q:Nat):Int)).toNat=N:=⟨_,rfl⟩
 rw[hN];obtain⟨Q,rfl⟩:∃Q',Q=Q'+1:=⟨Q-1,by omega⟩
 have e3:(R (Q+1)).expr_parser_sum_1_1 ((9-q:Nat):Int) l (p:Int) out 0=expr_parser_sum_1_1.h (R Q) ((9-q:Nat):Int) l (p:Int) out 0:=rfl;rw[e3];unfold expr_parser_sum_1_1.h expr_parser_sum_1_1.f;have hg:=eD l q p;have hr:=hF p out Q (by omega) (by omega);unfold xT;cases hx:pF l q p with
 |error e=>
  rw[hx] at hr;obtain⟨p',out',h1,h2⟩:=hr;have hne:=qi hg hx;rw[h1,Uv,Uv];dsimp only;obtain⟨M,rfl⟩:∃M',N=M'+1:=⟨N-1,by omega⟩
  rw[wm _ _ M l p' _ e _ hne,Uv];exact⟨some (l,p',out',e,()),rfl,p',out',rfl,by omega⟩
 |ok r=>
  rw[hx] at hr hg;have hr:(R Q).expr_parser_factor ((9-q:Nat):Int) l (p:Int) out 0=some (l,(r.2:Int),out++r.1,0,()):=hr;have g1:=hg.lt;have g2:=hg.len;have g3:=hg.le;rw[hr,Uv,Uv];dsimp only;have:=RU hl hq9 hF N (Q+1) (by omega) out (l.length+1) N r.1 r.2 (by omega) (by omega) (by simp;omega);generalize expr_parser_row_c284.l1 N (R (Q+1)) N dM l (r.2:Int) (out++r.1) 0 ((9-q:Nat):Int)=X at this;cases hy:lT l (pF l q) (l.length+1) r.1 r.2 with
  |error e=>
   rw[hy] at this;obtain⟨p',out',h1,h2⟩:=this;rw[h1,Uv];exact⟨some (l,p',out',e,()),rfl,p',out',rfl,h2⟩
  |ok x=>
   rw[hy] at this;have this:X=some (l,(x.2:Int),out++x.1,0,(),((9-q:Nat):Int),()):=this;rw[this,Uv];exact⟨some (l,(x.2:Int),out++x.1,0,()),rfl,rfl⟩
theorem RO{l:List aj}(hl:l.length<=1000000){q:Nat}(hq9:q<=9)(hT:OB l q)(n:Nat)(Q:Nat)(hQ:6*q+4<=Q)(out:List Item):∀(m M:Nat) (it:List Item) (p:Nat),l.length-p<m->l.length-p<M->(out++it).length+(l.length-p)<=1000000 ->
  MU l out ((9-q:Nat):Int) (2000000+3*q+2) (expr_parser_row_c283.l1 n (R Q) M dR l p (out++it) 0 ((9-q:Nat):Int)) (lS l (xT l (pF l q)) m it p):=by
 intro m
 induction m with
 |zero=>grind
 |succ m ih=>
  intro M it p hm hM ho;obtain⟨M,rfl⟩:∃M',M=M'+1:=⟨M-1,by omega⟩
  rw[expr_parser_row_c283.l1,sI dR (by simp) l p hl,lS];have step:∀(c:UInt8) (K:Int),(L.kinds [c]).1=K->iA l p c=true ->
    MU l out ((9-q:Nat):Int) (2000000+3*q+2) (((R Q).expr_parser_sum_1 ((9-q:Nat):Int) l ((p+1:Nat):Int) (out++it) 0).bind fun y2=>(Zas.g ((L.kinds [c]).1) 0 ([]:Str) y2.2.2.1 y2.2.2.2.1 y2.2.2.2.2.1 y2.2.2.2.2.2.1).bind fun y3=>(expr_parser_row_c283.l1 n (R Q) M) dR y3.1 y3.2.1 y3.2.2.1 y3.2.2.2.1 y2.2.1)
     (match xT l (pF l q) (p+1) with | .error e=>.error e | .ok r=>lS l (xT l (pF l q)) m (it++r.1++[(K,0,[],())]) r.2):=by
   intro c K hK hs;have hs':=bS.1 hs;have hlt:=hs'.1;have hg:=vY (eD l q) (p+1);obtain⟨rr,h0,hr⟩:=hT (p+1) (out++it) Q (by omega) hQ;rw[h0];cases hx:xT l (pF l q) (p+1) with
   |error e=>
    rw[hx] at hr;obtain⟨p',out',h1,h2⟩:=hr;have hne:=qi hg hx;rw[h1,Vh,Uv];dsimp only;rw[ky _ _ _ _ _ _ _ (by omega),Uv];dsimp only;obtain⟨M,rfl⟩:∃M',M=M'+1:=⟨M-1,by omega⟩
    rw[wh n _ M l p' _ e _ hne];exact⟨p',_,rfl,by simp;omega⟩
   |ok r=>
    rw[hx] at hr hg;have hr:rr=some (l,(r.2:Int),(out++it)++r.1,0,()):=hr;have g1:=hg.lt;have g2:=hg.len;have g3:=hg.le
    grind [ky]
  by_cases hs:iA l p 43=true;·have hs':=bS.1 hs;rw[if_pos ⟨hs'.1,hs'.2.1,by grind⟩,if_pos hs,Uv,hs'.2.2];dsimp only;rw[if_neg (by decide)];exact step 43 4 rfl hs
  ·by_cases hs2:iA l p 45=true
   ·have hs':=bS.1 hs2;rw[if_pos ⟨hs'.1,hs'.2.1,by grind⟩,if_neg hs,if_pos hs2,Uv,hs'.2.2];dsimp only;rw[if_neg (by decide)];exact step 45 5 rfl hs2
   ·rw[if_neg (fun h=>by
     have h3:=h.2.2;simp only[UG,Vj,or_false] at h3
     grind [bS]),if_neg hs,if_neg hs2,Uv]
    rfl
theorem RP{l:List aj}(hl:l.length<=1000000){q:Nat}(hq9:q<=9)(hT:OB l q):SG l q:=by
 intro p out Q ho hQ;obtain⟨Q,rfl⟩:∃Q',Q=Q'+2:=⟨Q-2,by omega⟩
 have e:(R (Q+2)).expr_parser_sum ((9-q:Nat):Int) l (p:Int) out 0=expr_parser_sum.h (R (Q+1)) ((9-q:Nat):Int) l (p:Int) out 0:=rfl;rw[e];unfold expr_parser_sum.h expr_parser_sum.f;have e2:(R (Q+1)).expr_parser_row_c283 dR l (p:Int) out 0 ((9-q:Nat):Int)=expr_parser_row_c283.h (R Q) dR l (p:Int) out 0 ((9-q:Nat):Int):=rfl;rw[e2];unfold expr_parser_row_c283.h expr_parser_row_c283.f;obtain⟨N,hN⟩:∃N,1000+dR.length+l.length+(p:Int).toNat+out.length+(0:Int).toNat+(((9-q:Nat):Int)).toNat=N:=⟨_,rfl⟩
 rw[hN];have hg:=vY (eD l q) p;obtain⟨rr,h0,hr⟩:=hT p out Q (by omega) (by omega);rw[h0];unfold xS;cases hx:xT l (pF l q) p with
 |error e=>
  rw[hx] at hr;obtain⟨p',out',h1,h2⟩:=hr;have hne:=qi hg hx;rw[h1,Vh,Uv];dsimp only;obtain⟨M,rfl⟩:∃M',N=M'+1:=⟨N-1,by omega⟩
  rw[wh _ _ M l p' _ e _ hne,Uv];exact⟨p',out',rfl,by omega⟩
 |ok r=>
  rw[hx] at hr hg;have hr:rr=some (l,(r.2:Int),out++r.1,0,()):=hr;have g1:=hg.lt;have g2:=hg.len;have g3:=hg.le;rw[hr,Vh,Uv];dsimp only;have:=RO hl hq9 hT N Q (by omega) out (l.length+1) N r.1 r.2 (by omega) (by omega) (by simp;omega);generalize expr_parser_row_c283.l1 N (R Q) N dR l (r.2:Int) (out++r.1) 0 ((9-q:Nat):Int)=X at this;cases hy:lS l (xT l (pF l q)) (l.length+1) r.1 r.2 with
  |error e=>
   rw[hy] at this;obtain⟨p',out',h1,h2⟩:=this;rw[h1,Uv];exact⟨p',out',rfl,h2⟩
  |ok x=>
   rw[hy] at this;have this:X=some (l,(x.2:Int),out++x.1,0,(),((9-q:Nat):Int),()):=this;rw[this,Uv];rfl
theorem Ub{l:List aj}(hl:l.length<=1000000){q:Nat}(hq9:q+1<=9)(hF:EE l q)(hS:SG l q):EE l (q+1):=by
 intro p out Q ho hQ;obtain⟨Q,rfl⟩:∃Q',Q=Q'+1:=⟨Q-1,by omega⟩
 have e:(R (Q+1)).expr_parser_factor ((9-(q+1):Nat):Int) l (p:Int) out 0=expr_parser_factor.h (R Q) ((9-(q+1):Nat):Int) l (p:Int) out 0:=rfl;rw[e];unfold expr_parser_factor.h expr_parser_factor.f;have hd:IntKind.i64.wrap (((9-(q+1):Nat):Int)+1)=((9-q:Nat):Int):=by grind [w64]
 rw[if_neg (by decide),if_neg (by simp;omega),sI [[45],[40]] (by simp) l p hl,hd];show Iy l out _ _ (xF l (xS l (pF l q)) (pF l q) p);unfold xF;by_cases h1:iA l p 45=true
 ·have hs':=bS.1 h1;rw[if_pos ⟨hs'.1,hs'.2.1,by grind⟩,if_pos h1,Uv,hs'.2.2];dsimp only;rw[if_pos (by decide)];have hlt:=hs'.1;have hg:=eD l q (p+1);have hr:=hF (p+1) out Q (by omega) (by omega);cases hx:pF l q (p+1) with
  |error e=>
   rw[hx] at hr;obtain⟨p',out',h3,h2⟩:=hr;rw[h3,Uv];dsimp only;rw[ky _ _ _ _ _ _ _ (by omega),Uv];exact⟨p',_,rfl,by simp;omega⟩
  |ok r=>
   rw[hx] at hr hg;have hr:(R Q).expr_parser_factor ((9-q:Nat):Int) l ((p+1:Nat):Int) out 0=some (l,(r.2:Int),out++r.1,0,()):=hr;have g1:=hg.lt;have g2:=hg.len;have g3:=hg.le;rw[hr,Uv];dsimp only;rw[ky _ _ _ _ _ _ _ (by simp;omega),Uv];show some (l,(r.2:Int),out++r.1++[(3,0,[],())],0,())=some (l,(r.2:Int),out++(r.1++[(3,0,[],())]),0,())
   grind
 ·by_cases h2:iA l p 40=true
  ·have hs':=bS.1 h2;rw[if_pos ⟨hs'.1,hs'.2.1,by grind⟩,if_neg h1,if_pos h2,Uv,hs'.2.2];dsimp only;rw[if_neg (by decide),if_pos (by decide)];have hlt:=hs'.1;have hg:=ni (eD l q) (p+1);have hr:=hS (p+1) out Q (by omega) (by omega);cases hx:xS l (pF l q) (p+1) with
   |error e=>
    rw[hx] at hr;obtain⟨p',out',h3,h4⟩:=hr;have hne:=qi hg hx;rw[h3,Uv];dsimp only;rw[sJ _ (by simp) l p' out' e hne,Uv];dsimp only;rw[if_pos (show(!false)=true from rfl),D5 23 l p' out' e hne,Uv];exact⟨p',out',rfl,by omega⟩
   |ok r=>
    rw[hx] at hr hg;have hr:(R Q).expr_parser_sum ((9-q:Nat):Int) l ((p+1:Nat):Int) out 0=some (l,(r.2:Int),out++r.1,0,()):=hr;have g1:=hg.lt;have g2:=hg.len;have g3:=hg.le;rw[hr,Uv];dsimp only;rw[sI [[41]] (by simp) l r.2 hl];by_cases h3:iA l r.2 41=true;·have hs2:=bS.1 h3;rw[if_pos ⟨hs2.1,hs2.2.1,by grind⟩,if_pos h3,Uv];dsimp only;rw[if_neg (by decide)];rfl
    ·rw[if_neg (fun h=>h3 (bS.2 ⟨h.1,h.2.1,by grind⟩)),if_neg h3,Uv];dsimp only;rw[if_pos (show(!false)=true from rfl),qj,Uv];exact⟨_,_,rfl,by simp;omega⟩
  ·rw[if_neg (fun h=>by
     have h3:=h.2.2;simp only[UG,Vj,or_false] at h3
     grind [bS]),if_neg h1,if_neg h2,Uv]
   dsimp only;rw[if_neg (show ¬decide (([]:Str)=[45])=true by decide),if_neg (show ¬decide (([]:Str)=[40])=true by decide)];by_cases hp:p<l.length
   ·rw[nz l p out hp,Uv];dsimp only;generalize ht:l.getD p aR=t;by_cases k2:t.1=2
    ·rw[if_pos (show true=true from rfl),if_pos (show decide (t.1=2)=true by simp[k2]),if_pos (show p<l.length/\t.1=2 from⟨hp,k2⟩),ky _ _ _ _ _ _ _ (by omega),Uv];unfold expr_parser_factor.j19;dsimp only;rw[w64 (by omega)];rfl
    ·rw[if_pos (show true=true from rfl),if_neg (show ¬decide (t.1=2)=true by simp[k2]),if_pos (show true=true from rfl),if_neg (show ¬(p<l.length/\t.1=2) from fun h=>k2 h.2)];by_cases k1:t.1=1
     ·rw[if_pos (show decide (t.1=1)=true by simp[k1]),nO,Uv];dsimp only;by_cases hL:ax t.2.2.1=true
      ·rw[if_pos hL,if_pos (show p<l.length/\t.1=1/\ax t.2.2.1=true from⟨hp,k1,hL⟩),ky _ _ _ _ _ _ _ (by omega),Uv];unfold expr_parser_factor.j19;dsimp only;rw[w64 (by omega)];rfl
      ·rw[if_neg hL,if_neg (show ¬(p<l.length/\t.1=1/\ax t.2.2.1=true) from fun h=>hL h.2.2),qj,Uv];exact⟨_,_,rfl,by grind⟩
     ·rw[if_neg (show ¬decide (t.1=1)=true by simp[k1]),if_neg (show ¬(p<l.length/\t.1=1/\ax t.2.2.1=true) from fun h=>k1 h.2.1),qj,Uv];exact⟨_,_,rfl,by grind⟩
   ·rw[xV l p out (by omega),Uv];dsimp only;rw[if_neg (show ¬false=true by decide),if_neg (show ¬false=true by decide),if_neg (show ¬(p<l.length/\(l.getD p aR).1=2) from fun h=>hp h.1),if_neg (show ¬(p<l.length/\(l.getD p aR).1=1/\ax (l.getD p aR).2.2.1=true) from fun h=>hp h.1),qj,Uv];exact⟨_,_,rfl,by grind⟩
theorem Iq{l:List aj}(hl:l.length<=1000000):∀q,q<=9->EE l q
 |0,_=>fun p out Q ho hQ=>by
  obtain⟨Q,rfl⟩:∃Q',Q=Q'+1:=⟨Q-1,by omega⟩
  exact⟨_,_,J8 Q l p out,by omega⟩
 |q+1,h=>Ub hl h (Iq hl q (by omega)) (RP hl (by omega) (RV hl (by omega) (Iq hl q (by omega))))
theorem Ch(l:List aj)(hl:l.length<=1000000)(p:Nat):Zau.g l p=some (fF l p):=by
 unfold Zau.g Zau.f expr_parser_sum.g;have hr:=RP hl (by decide) (RV hl (by decide) (Iq hl 9 (by decide))) p [] (1000+(0:Int).toNat+l.length+(p:Int).toNat+([]:List Item).length+(0:Int).toNat) (by simp;omega) (by omega);have hg:=ni (eD l 9) p;unfold fF;cases hx:xS l (pF l 9) p with
 |error e=>
  rw[hx] at hr;obtain⟨p',out',h3,_⟩:=hr;have hne:=qi hg hx;simp_all [Zau.j5]
 |ok r=>
  rw[hx] at hr;have hr:(R (1000+(0:Int).toNat+l.length+(p:Int).toNat+([]:List Item).length+(0:Int).toNat)).expr_parser_sum ((9-9:Nat):Int) l (p:Int) [] 0=some (l,(r.2:Int),[]++r.1,0,()):=hr;rw[show((9-9:Nat):Int)=0 from rfl] at hr;rw[hr,Uv];dsimp only;rw[if_pos (show decide ((0:Int)=0)=true from rfl),UY];by_cases h64:64<r.1.length;·rw[if_pos (by simp;omega),if_pos h64];simp_all [Zau.j5]
  ·rw[if_neg (by simp;omega),if_neg h64];simp_all [Zau.j5]
end Rv
namespace Rv
open Go
def pk(kd:Int)(l:List aj)(p:Nat)(e:Int):Str:=if e=0/\p<l.length/\(l.getD p aR).1=kd then(l.getD p aR).2.2.1 else[]
def chk(ok:Bool)(e:Int):Int:=if ok=false/\e=0 then 22 else e
theorem Hr(kd:Int)(l:List aj)(p:Nat)(e:Int):Zcy.g kd l p e=some (pk kd l p e,l,(p:Int),e,()):=by
 unfold Zcy.g Zcy.f pk
 grind
theorem wI(kd:Int)(l:List aj)(p:Nat)(e:Int)(hp:p<=9000000):Zbr.g kd l p e=some (pk kd l p e,l,((p+1:Nat):Int),e,()):=by
 grind [Zbr.g,Zbr.f,Hr,w64]
theorem gm(ok:Bool)(l:List aj)(p:Int)(e:Int):Zaw.g ok l p e=some (l,p,chk ok e,()):=by
 unfold Zaw.g Zaw.f chk
 grind
theorem LA{l:List aj}(hl:∀t∈l,t.2.2.1.length<=1000000)(kd:Int)(p:Nat)(e:Int):(pk kd l p e).length<=1000000:=by
 grind [pk]
def chK(l:List aj)(p:Nat)(e:Int)(s:Sm):Int:=
 if s.k=1/\((bW (pk 1 l p e)).2=false\/(s.u=true/\s.o=0)) then 2 else if s.k=7/\(bW (pk 1 l p e)).2=true then 6 else s.k
abbrev smR(l:List aj)(p:Nat)(e:Int)(s:Sm):List aj×Int×Int×Int×Int×Int×Int×Int×Bool×List Item×Str×Unit:=(l,(p:Int),e,s.k,s.o,s.a,s.b,s.c,s.u,s.e,s.nm,())
theorem Kr{l:List aj}(hl:∀t∈l,t.2.2.1.length<=1000000)(p:Nat)(e:Int)(s:Sm):Zdz.g l p e s.k s.o s.a s.b s.c s.u s.e s.nm=some (smR l p e { s with k:=chK l p e s }):=by
 unfold Zdz.g Zdz.f chK;rw[Hr,Uv];dsimp only;rw[L6 _ (LA hl 1 p e),Uv]
 grind
def rdE(l:List aj)(p:Nat)(e:Int)(s:Sm):Nat×Int×Sm:=if e=0 then((fF l p).2.1.toNat,(fF l p).2.2.1,{ s with e:=(fF l p).1 }) else(p,e,s)
def rd(l:List aj)(p:Nat)(e:Int)(s:Sm):Od->Nat×Int×Sm
 | .A=>(p+1,chk (bW (pk 1 l p e)).2 e,{ s with a:=(bW (pk 1 l p e)).1 })
 | .B=>(p+1,chk (bW (pk 1 l p e)).2 e,{ s with b:=(bW (pk 1 l p e)).1 })
 | .C=>(p+1,chk (bW (pk 1 l p e)).2 e,{ s with c:=(bW (pk 1 l p e)).1 })
 | .E=>rdE l p e s
 | .Q=>rdE l (p+1) (chk (decide (pk 3 l p e=[61])) e) s
 | .N=>(p+1,chk (bZ (pk 1 l p e)) e,{ s with nm:=pk 1 l p e })
abbrev smO(l:List aj)(r:Nat×Int×Sm):=smR l r.1 r.2.1 r.2.2
theorem Lx(l:List aj)(p:Nat):(fF l p).2.1=((fF l p).2.1.toNat:Int)/\(fF l p).2.1.toNat<=l.length:=by
 unfold fF;have hg:=ni (eD l 9) p;cases hx:xS l (pF l 9) p with
 |error e=>grind
 |ok r=>
  rw[hx] at hg;have:=hg.le
  grind
section
variable{l:List aj}(hl0:l.length<=1000000)(hl:∀t∈l,t.2.2.1.length<=1000000)
include hl0 in
theorem PM(n p:Nat)(e:Int)(s:Sm):Zbk.j2 n l p e s.k s.o s.a s.b s.c s.u s.e s.nm=some (smO l (rdE l p e s)):=by
 unfold Zbk.j2 rdE;simp only[dt];by_cases h:e=0
 ·rw[if_pos h,if_pos h,Ch l hl0 p,Uv]
  grind [fF]
 grind
include hl in
theorem AQ(p:Nat)(hp:p<=9000000)(e:Int)(s:Sm)(d:Od)(f:Fn)(hd:(d=.A/\f=K.atA)\/(d=.B/\f=K.atB)\/(d=.C/\f=K.atC)):Zcz.g f l p e s.k s.o s.a s.b s.c s.u s.e s.nm=some (smO l (rd l p e s d)):=by
 unfold Zcz.g Zcz.f;rw[wI 1 l p e hp,Uv];dsimp only;rw[L6 _ (LA hl 1 p e),Uv];dsimp only;rw[gm,Uv];dsimp only;rcases hd with⟨rfl,rfl⟩|⟨rfl,rfl⟩|⟨rfl,rfl⟩;·rw[if_pos rfl];rfl
 ·rw[if_neg (by decide),if_pos rfl];rfl
 ·rw[if_neg (by decide),if_neg (by decide),if_pos rfl];rfl
include hl0 in
theorem Ha(p:Nat)(hp:p<=9000000)(e:Int)(s:Sm):Zbk.g [] l p e s.k s.o s.a s.b s.c s.u s.e s.nm=some (smO l (rd l p e s .E))/\Zbk.g [61] l p e s.k s.o s.a s.b s.c s.u s.e s.nm=some (smO l (rd l p e s .Q)):=by
 constructor;·unfold Zbk.g Zbk.f;rw[if_neg (by decide)];exact PM hl0 _ p e s
 ·unfold Zbk.g Zbk.f;rw[if_pos (by decide),wI 3 l p e hp,Uv];dsimp only;rw[gm,Uv];exact PM hl0 _ (p+1) _ s
theorem Q0(p:Nat)(hp:p<=9000000)(e:Int)(s:Sm):Zea.g l p e s.k s.o s.a s.b s.c s.u s.e s.nm=some (smO l (rd l p e s .N)):=by
 unfold Zea.g Zea.f;rw[wI 1 l p e hp,Uv];dsimp only;rw[oN,Uv];dsimp only;rw[gm,Uv];rfl
def aJ(l:List aj)(op:Int)(many i p:Nat)(e:Int)(s:Sm):Nat×Int×Sm:=
 let p1:=if 0<i then p+1 else p
 let e1:=if 0<i then chk (decide (pk 3 l p e=[44])) e else e
 let s1:=if i+1=many then { s with k:=chK l p1 e1 s } else s
 match (odL s1.k op)[i]? with
 |some d=>rd l p1 e1 s1 d
 |none=>(p1,e1,s1)
def aO(l:List aj)(op:Int)(many:Nat):Nat->Nat->Nat×Int×Sm->Nat×Int×Sm
 |0,_,r=>r
 |m+1,i,r=>aO l op many m (i+1) (aJ l op many i r.1 r.2.1 r.2.2)
abbrev PR:=Str×Int×Int×Int×Int×Int×Bool×List Item×Str×Int×Unit
def uT(lb:Str)(e:Int)(s:Sm):PR:=if e≠0 then([],0,0,0,0,0,false,[],[],e,()) else(lb,s.k,s.o,s.a,s.b,s.c,s.u,s.e,s.nm,0,())
def mG(l:List aj)(lb:Str)(r:Nat×Int×Sm):PR:=uT lb (chk (decide (l.length<=r.1)) r.2.1) r.2.2
theorem vW(p:Nat)(e:Int)(s:Sm)(op:Int):(odL (chK l p e s) op).length=(odL s.k op).length:=by
 unfold chK;split;·grind [odL]
 ·split
  ·rename_i h;rw[h.1];rfl
  ·rfl
theorem Us(p:Nat)(e:Int)(s:Sm)(d:Od):(rd l p e s d).2.2.k=s.k:=by
 have h:∀p e,(rdE l p e s).2.2.k=s.k:=fun p e=>by grind [rdE]
 cases d<;>first|rfl|exact h _ _
theorem Ut(p:Nat)(e:Int)(s:Sm)(d:Od):(rd l p e s d).1<=max (p+1) l.length:=by
 have h:∀p e,(rdE l p e s).1<=max p l.length:=fun p e=>by
  grind [rdE,Lx]
 cases d with
 |A=>show p+1<=_;omega
 |B=>show p+1<=_;omega
 |C=>show p+1<=_;omega
 |N=>show p+1<=_;omega
 |E=>have:=h p e;show(rdE l p e s).1<=_;omega
 |Q=>exact h (p+1) _
theorem Tf(op:Int)(many i p:Nat)(e:Int)(s:Sm):(odL (aJ l op many i p e s).2.2.k op).length=(odL s.k op).length:=by
 grind [aJ,Us,vW]
theorem Tg(op:Int)(many i p:Nat)(e:Int)(s:Sm):(aJ l op many i p e s).1<=max (p+2) l.length:=by
 grind [aJ,Ut]
include hl0 hl in
theorem Sd(n:Nat)(rl)(lb:Str)(op:Int)(many i:Nat)(p:Nat)(hp:p<=9000000)(e:Int)(s:Sm)(d:Od)(hd:(odL s.k op)[i]?=some d) :
  Zab.j19 n rl l lb op (many:Int) (i:Int) (many:Int) (i:Int) s.k s.o s.a s.b s.c s.u s.e s.nm l p e =
   Zab.j20 n rl l lb op (many:Int) (many:Int) (i:Int) (rd l p e s d).2.2.k (rd l p e s d).2.2.o (rd l p e s d).2.2.a (rd l p e s d).2.2.b (rd l p e s d).2.2.c (rd l p e s d).2.2.u (rd l p e s d).2.2.e (rd l p e s d).2.2.nm l (rd l p e s d).1 (rd l p e s d).2.1:=by
 unfold Zab.j19;have hi:i<(odL s.k op).length:=by
  grind
 have hg:((odL s.k op).map odF).getD ((i:Int)).toNat (((0,[]):Fn),(((0,[]):Fn),()))=odF d:=by
  grind
 rw[wz,hg,if_pos (by grind)];cases d with
 |A=>
  show(if K.rdA=K.rdA then _ else _)=_;rw[if_pos rfl,AQ hl p hp e s .A _ (.inl ⟨rfl,rfl⟩),Uv]
 |B=>
  show(if K.rdB=K.rdA then _ else if K.rdB=K.rdB then _ else _)=_;rw[if_neg (by decide),if_pos rfl,AQ hl p hp e s .B _ (.inr (.inl ⟨rfl,rfl⟩)),Uv]
 |C=>
  show(if K.rdC=K.rdA then _ else if K.rdC=K.rdB then _ else if K.rdC=K.rdC then _ else _)=_;rw[if_neg (by decide),if_neg (by decide),if_pos rfl,AQ hl p hp e s .C _ (.inr (.inr ⟨rfl,rfl⟩)),Uv]
 |E=>
  show(if K.rdE=K.rdA then _ else if K.rdE=K.rdB then _ else if K.rdE=K.rdC then _ else if K.rdE=K.rdE then _ else _)=_;rw[if_neg (by decide),if_neg (by decide),if_neg (by decide),if_pos rfl,(Ha hl0 p hp e s).1,Uv]
 |Q=>
  show(if K.rdQ=K.rdA then _ else if K.rdQ=K.rdB then _ else if K.rdQ=K.rdC then _ else if K.rdQ=K.rdE then _ else if K.rdQ=K.rdQ then _ else _)=_;rw[if_neg (by decide),if_neg (by decide),if_neg (by decide),if_neg (by decide),if_pos rfl,(Ha hl0 p hp e s).2,Uv]
 |N=>
  show(if K.rdN=K.rdA then _ else if K.rdN=K.rdB then _ else if K.rdN=K.rdC then _ else if K.rdN=K.rdE then _ else if K.rdN=K.rdQ then _ else if K.rdN=K.rdN then _ else _)=_;rw[if_neg (by decide),if_neg (by decide),if_neg (by decide),if_neg (by decide),if_neg (by decide),if_pos rfl,Q0 p hp e s,Uv]
include hl0 hl in
theorem Jv(n:Nat)(lb:Str)(op:Int)(many:Nat)(h3:many<=3):∀(M m i:Nat) (p:Nat) (e:Int) (s:Sm),i+m=many->m<M->p<=8000000+10*i->(odL s.k op).length=many ->
  Zab.l13 n M l lb op (many:Int) (many:Int) (i:Int) s.k s.o s.a s.b s.c s.u s.e s.nm l p e=some (mG l lb (aO l op many m i (p,e,s))):=by
 intro M
 induction M with
 |zero=>grind
 |succ M ih=>
  intro m i p e s him hm hp hk;rw[Zab.l13];simp only[dt];cases m with
  |zero=>
   rw[if_neg (by omega),gm,Uv];dsimp only[aO];unfold Zab.j22 mG uT;simp only[dt];have:decide ((l.length:Int)<=(p:Int))=decide (l.length<=p):=by
    grind
   grind
  |succ m=>
   rw[if_pos (by omega)];dsimp only[aO];have hsk:=Tf (l:=l) op many i p e s;have hsp:=Tg (l:=l) op many i p e s;have nxt:=fun h=>ih m (i+1) (aJ l op many i p e s).1 (aJ l op many i p e s).2.1 (aJ l op many i p e s).2.2 (by omega) (by omega) (by omega) h
   rw[hsk] at nxt;have nxt:=nxt hk;have J:∀(p1:Nat) (e1:Int),p1<=9000000->p1=(if 0<i then p+1 else p)->e1=(if 0<i then chk (decide (pk 3 l p e=[44])) e else e) ->
     Zab.j17 n (Zab.l13 n M) l lb op (many:Int) (i:Int) (many:Int) (i:Int) s.k s.o s.a s.b s.c s.u s.e s.nm l p1 e1=some (mG l lb (aO l op many m (i+1) (aJ l op many i p e s))):=by
    intro p1 e1 hp1 hp1' he1';have fin:∀s1:Sm,s1=(if i+1=many then { s with k:=chK l p1 e1 s } else s)->Zab.j19 n (Zab.l13 n M) l lb op (many:Int) (i:Int) (many:Int) (i:Int) s1.k s1.o s1.a s1.b s1.c s1.u s1.e s1.nm l p1 e1=some (mG l lb (aO l op many m (i+1) (aJ l op many i p e s))):=by
     intro s1 hs1;have hlen:(odL s1.k op).length=many:=by
      grind [vW]
     obtain⟨d,hd⟩:∃d,(odL s1.k op)[i]?=some d:=⟨_,UF (by omega)⟩
     grind [aJ,Sd,Zab.j20,w64]
    unfold Zab.j17;simp only[dt];have hw:IntKind.i64.wrap ((many:Int)-1)=(many:Int)-1:=w64 (by omega);rw[hw];by_cases hlast:i+1=many
    ·rw[if_pos (by omega),Kr hl p1 e1 s,Uv]
     grind
    grind
   by_cases h0:0<i
   ·rw[if_pos (by omega),wI 3 l p e (by omega),Uv];dsimp only;rw[gm,Uv]
    grind
   grind
def jr(l:List aj)(lb:Str)(p:Nat)(e:Int):PR:=
 if e=0/\p<l.length then
  let t:=l.getD p aR
  let w:=L.ofR t.2.2.1
  let ok:=w.2.2.2.1&&(decide (t.1=4) == decide (w.1=9\/w.1=10))&&(decide (t.1=4)||decide (t.1=1))
  mG l lb (aO l w.2.1 (odL w.1 w.2.1).length (odL w.1 w.2.1).length 0 (p+1,chk ok e,⟨w.1,w.2.1,0,0,0,w.2.2.1,[],[]⟩))
 else uT lb e ⟨0,0,0,0,0,false,[],[]⟩
def mr(l:List aj):PR:=
 if 1<l.length/\(l.getD 0 aR).1=1/\iA l 1 58=true then jr l (l.getD 0 aR).2.2.1 2 (chk (ax (l.getD 0 aR).2.2.1) 0) else jr l [] 0 0
include hl0 hl in
theorem QE(n:Nat)(hn:10<=n)(lb:Str)(p:Nat)(hp:p<=2)(e:Int):Zab.j5 n l lb 0 0 0 0 0 false [] [] l p e=some (jr l lb p e):=by
 unfold Zab.j5 jr;simp only[dt];by_cases he:e=0
 ·rw[if_pos he];by_cases hp':p<l.length
  ·rw[if_pos (by omega),if_pos (by omega),if_pos ⟨he,hp'⟩,UL];unfold L.nameOfO;rw[Uv];generalize l.getD p aR=t;generalize L.ofR t.2.2.1=w;have J9:∀ok:Bool,Zab.j9 n l lb w.1 w.2.1 w.2.2.1 0 0 0 0 0 false [] [] l (p:Int) (chk ok e)=some (mG l lb (aO l w.2.1 (odL w.1 w.2.1).length (odL w.1 w.2.1).length 0 (p+1,chk ok e,⟨w.1,w.2.1,0,0,0,w.2.2.1,[],[]⟩))):=fun ok=>by
    unfold Zab.j9;have hlen:((L.opsR w.1 w.2.1).length:Int)=((odL w.1 w.2.1).length:Int):=by rw[wz,Vb]
    rw[hlen,w64 (by omega)];have h3:=wy w.1 w.2.1;exact Jv hl0 hl n lb w.2.1 (odL w.1 w.2.1).length h3 n (odL w.1 w.2.1).length 0 (p+1) (chk ok e) ⟨w.1,w.2.1,0,0,0,w.2.2.1,[],[]⟩ (by omega) (by omega) (by omega) rfl
   cases hok:w.2.2.2.1 with
   |false=>
    simp_all [gm]
   |true=>
    rw[if_pos rfl,Bu,Uv];dsimp only;cases hq:(decide (t.1=4) == decide (w.1=9\/w.1=10)) with
    |false=>
     simp_all [gm]
    |true=>
     rw[if_pos rfl];by_cases h4:t.1=4;·simp_all [gm]
     ·rw[if_pos (by simp[h4]),gm,Uv,decide_eq_false h4];exact J9 _
  simp_all [if_neg,Zab.j22,uT]
 simp_all [Zab.j22,uT]
include hl0 hl in
theorem Ci:Zab.g l=some (mr l):=by
 unfold Zab.g;have hn:10<=1000+l.length:=by omega
 generalize 1000+l.length=n at hn;unfold Zab.f mr;have H:=QE hl0 hl n hn;have H0:=H [] 0 (by decide) 0;rw[show((0:Nat):Int)=0 from rfl] at H0;simp only[dt];have t0:((0:Int)).toNat=0:=rfl;have t1:((1:Int)).toNat=1:=rfl;rw[t0,t1];by_cases h1:1<l.length
 ·rw[if_pos (by omega),if_pos (by omega)];by_cases k0:(l.getD 0 aR).1=1
  ·rw[if_pos k0,if_pos (by omega)];by_cases k1:(l.getD 1 aR).1=3
   ·rw[if_pos k1,if_pos (by omega)];by_cases k2:(l.getD 1 aR).2.2.1=[58]
    ·rw[if_pos k2,if_pos (by omega),nO,Uv];dsimp only;rw[gm,Uv,if_pos ⟨h1,k0,bS.2 ⟨h1,k1,k2⟩⟩]
     grind
    simp_all [bS]
   simp_all [bS]
  grind
 grind
end
end Rv
namespace Rv
open Go
theorem lI{a:Int}(h:rg a):bW (rn a)=(a,true):=by
 have:∀k:Nat,k<16->bW (gB k)=((k:Int),true):=by decide +kernel
 have h2:=this a.toNat (by have:=h.1;have:=h.2;omega)
 unfold rn;rw[h2];have:=h.1
 grind
theorem LZ:bW []=(0,false):=by decide +kernel
theorem Gp{s:Str}(h:ax s=true):(bW s).2=false:=by
 unfold bW;cases hf:(List.range 16).find? (fun k=>gB k == s) with
 |none=>rfl
 |some k=>
  obtain⟨h1,h2⟩:=sD hf;have:∀k:Nat,k<16->ax (gB k)=false:=by decide +kernel
  grind
theorem kQ{l:List aj}{p:Nat}{kd:Int}{tx:Str}{v:Int}{k:List Bt}(h:At l p ((kd,tx,v)::k)):pk kd l p 0=tx:=by
 obtain⟨h1,h2,_⟩:=At.cons h;simp_all [bare,pk]
theorem OO{l:List aj}{p:Nat}{kd:Int}{b:Bt}{k:List Bt}(h:At l p (b::k))(hb:b.1≠kd):pk kd l p 0=[]:=by
 obtain⟨h1,h2,_⟩:=At.cons h;unfold pk;rw[if_neg (fun g=>hb (by rw[<- h2];exact g.2.2))]
theorem vk{l:List aj}{p:Nat}{k:List Bt}{a:Int}(ha:rg a)(h:At l p ((1,rn a,0)::k))(s:Sm):rd l p 0 s .A=(p+1,0,{ s with a:=a }):=by
 show(p+1,chk (bW (pk 1 l p 0)).2 0,{ s with a:=(bW (pk 1 l p 0)).1 })=_;rw[kQ h,lI ha];rfl
theorem OW{l:List aj}{p:Nat}{k:List Bt}{a:Int}(ha:rg a)(h:At l p ((1,rn a,0)::k))(s:Sm):rd l p 0 s .B=(p+1,0,{ s with b:=a }):=by
 show(p+1,chk (bW (pk 1 l p 0)).2 0,{ s with b:=(bW (pk 1 l p 0)).1 })=_;rw[kQ h,lI ha];rfl
theorem OX{l:List aj}{p:Nat}{k:List Bt}{a:Int}(ha:rg a)(h:At l p ((1,rn a,0)::k))(s:Sm):rd l p 0 s .C=(p+1,0,{ s with c:=a }):=by
 show(p+1,chk (bW (pk 1 l p 0)).2 0,{ s with c:=(bW (pk 1 l p 0)).1 })=_;rw[kQ h,lI ha];rfl
theorem Uq{l:List aj}{p:Nat}{k:List Bt}{nm:Str}(hn:bZ nm=true)(h:At l p ((1,nm,0)::k))(s:Sm):rd l p 0 s .N=(p+1,0,{ s with nm:=nm }):=by
 show(p+1,chk (bZ (pk 1 l p 0)) 0,{ s with nm:=pk 1 l p 0 })=_;rw[kQ h,hn];rfl
def yK(x:Tr)(p:Nat)(s:Sm):Nat×Int×Sm:=if x.dep<=8 then(p+x.toks.length,0,{ s with e:=x.post }) else(0,24,{ s with e:=[] })
theorem AP{l:List aj}(hl:l.length<=1000000){p:Nat}{x:Tr}(hx:iU x){K:List Bt}(hK:noS dM K/\noS dR K)(h:At l p (x.toks++K))(s:Sm):rd l p 0 s .E=yK x p s:=by
 obtain⟨g1,g2⟩:=KF hx.1 l p K hl hx.2.2.2 h hK.1 hK.2;rw[Ch l hl p] at g1 g2;show rdE l p 0 s=_;unfold rdE yK
 grind
theorem Ur{l:List aj}(hl:l.length<=1000000){p:Nat}{x:Tr}(hx:iU x){K:List Bt}(hK:noS dM K/\noS dR K)(h:At l p ((3,[61],0)::(x.toks++K)))(s:Sm):rd l p 0 s .Q=yK x (p+1) s:=by
 obtain⟨_,_,h2⟩:=At.cons h;rw[<- AP hl hx hK h2 s];show rdE l (p+1) (chk (decide (pk 3 l p 0=[61])) 0) s=rdE l (p+1) 0 s;rw[kQ h];rfl
theorem M9(b:Bool){l:List Bt}(h:∃b r,l=b::r/\(b.1=1->ax b.2.1=true)/\b.2.1≠[58]):∃x r,brk b l=x::r/\(x.1=1->ax x.2.1=true)/\x.2.1≠[58]:=by
 unfold brk;split;·simp_all [tLp]
 ·exact h
theorem vN:∀t:Tr,t.ok->∃b r,t.toks=b::r/\(b.1=1->ax b.2.1=true)/\b.2.1≠[58]
 | .num n,h=>by
  refine⟨_,_,rfl,fun h=>(by cases h),fun e=>?_⟩;have e:Lib.itoa n=[58]:=e;obtain⟨m,rfl⟩:∃m:Nat,n=m:=⟨n.toNat,by have:=h.1;omega⟩
  have hi:Lib.itoa (m:Int)=Lib.decDigits m:=by simp_all [Lib.itoa,if_neg]
  have:=(vX m).1;rw[<- hi,e] at this;exact absurd this (by decide)
 | .nam s,h=>by
  refine⟨_,_,rfl,fun _=>h,fun e=>?_⟩;have h:ax s=true:=h;have e:s=[58]:=e;rw[e] at h;exact absurd h (by decide)
 | .neg x,_=>⟨Ba,_,rfl,fun h=>(by cases h),by decide⟩
 | .br x,_=>⟨tLp,_,rfl,fun h=>(by cases h),by decide⟩
 | .bin o a b,h=>by
  obtain⟨x,r,h1,h2,h3⟩:=M9 (decide (a.tight<o.tight)) (vN a h.1);exact⟨x,_,by show brk _ _++_=_;rw[h1];rfl,h2,h3⟩
theorem Ez{l:List aj}{p:Nat}{x:Tr}(hx:x.ok){k:List Bt}(h:At l p (x.toks++k)):(bW (pk 1 l p 0)).2=false:=by
 obtain⟨b,r,h1,h2,_⟩:=vN x hx;rw[h1] at h;by_cases hb:b.1=1;·obtain⟨b1,b2,b3⟩:=b;have hb:b1=1:=hb;subst hb;rw[kQ h];exact Gp (h2 rfl)
 ·rw[OO h hb,LZ]
theorem kr{l:List aj}{op:Int}{many p:Nat}{s:Sm}{d:Od}(hm:many≠1)(hd:(odL s.k op)[0]?=some d):aJ l op many 0 p 0 s=rd l p 0 s d:=by
 unfold aJ
 grind
theorem Fs{l:List aj}{op:Int}{many i p:Nat}{s:Sm}{d:Od}{k:List Bt}(h0:0<i)(hm:i+1≠many)(hd:(odL s.k op)[i]?=some d)(h:At l p ((3,[44],0)::k)):aJ l op many i p 0 s=rd l (p+1) 0 s d:=by
 unfold aJ;dsimp only;rw[if_pos h0,if_pos h0,if_neg hm,hd,kQ h];rfl
theorem nC{l:List aj}{op:Int}{many i p:Nat}{s:Sm}{d:Od}{k:List Bt}{K:Int}(h0:0<i)(hm:i+1=many)(hK:chK l (p+1) 0 s=K)(hd:(odL K op)[i]?=some d)(h:At l p ((3,[44],0)::k)):aJ l op many i p 0 s=rd l (p+1) 0 { s with k:=K } d:=by
 unfold aJ;have hc:chk (decide (pk 3 l p 0=[44])) 0=0:=by rw[kQ h];rfl
 grind
theorem lL{l:List aj}{op:Int}{many p:Nat}{s:Sm}{d:Od}{K:Int}(hm:many=1)(hK:chK l p 0 s=K)(hd:(odL K op)[0]?=some d):aJ l op many 0 p 0 s=rd l p 0 { s with k:=K } d:=by
 simp_all [aJ]
def jY(q:Nat)(s:Sm)(t:Option Tr)(r:Nat×Int×Sm):Prop:=
 ((∀x,t=some x->x.dep<=8)->r=(q,0,s))/\((∃x,t=some x/\¬x.dep<=8)->∃s',r=(0,24,s'))
theorem lc{q:Nat}{s:Sm}{p:Nat}(hp:p=q):jY q s none (p,0,s):=⟨fun _=>by rw[hp],fun⟨x,h,_⟩=>by cases h⟩
theorem lg{q:Nat}{s s':Sm}{x:Tr}{p:Nat}(hp:p+x.toks.length=q)(hs:{ s' with e:=x.post }=s):jY q s (some x) (yK x p s'):=by
 unfold yK;constructor;·grind
 ·rintro⟨y,hy,hd⟩;obtain rfl:=Ux hy;simp_all [if_neg]
theorem At.end{l:List aj}{p:Nat}(h:At l p [])(hp:p<=l.length):p=l.length:=by
 unfold At at h;have:=congrArg List.length h
 grind
theorem At.tot{l:List aj}{p:Nat}{k:List Bt}(h:At l p k)(hp:p<=l.length):p+k.length=l.length:=by
 unfold At at h
 grind
theorem eB{l:List aj}{p:Nat}{e:Int}{s:Sm}(h1:s.k≠1)(h7:s.k≠7):chK l p e s=s.k:=by
 simp_all [chK]
theorem Ld{l:List aj}(hl:l.length<=1000000){s:Sm}{t:Option Tr}(h:GoodS s t)(h0:s.k≠0){K:List Bt}(hK:noS dM K/\noS dR K){p:Nat}(hp:p<=l.length)(hat:At l p (Dh ((odL s.k s.o).map (wtk s t))++K)) :
  jY (l.length-K.length) s t (aO l s.o (odL (hk s.k) s.o).length (odL (hk s.k) s.o).length 0 (p,0,⟨hk s.k,s.o,0,0,0,s.u,[],[]⟩)):=by
 cases h with
 |none=>grind
 |ins0 h hk0=>
  cases h with
  |reg q1 q2 ha hb hc hu=>
   rename_i o a b c u;dsimp only at hat⊢;rw[fw q1] at hat
   have hat:At l p ((1,rn a,0)::(3,[44],0)::(1,rn b,0)::(3,[44],0)::(1,rn c,0)::K):=hat
   obtain⟨_,_,a1⟩:=At.cons hat
   obtain⟨_,_,a2⟩:=At.cons a1;obtain⟨_,_,a3⟩:=At.cons a2;obtain⟨_,_,a4⟩:=At.cons a3;rw[show hk 1=1 from rfl,fw q1];show jY _ _ _ (aO l o 3 3 0 (p,0,_));simp only[aO];rw[kr (d:=.A) (by decide) (by rw[fw q1];rfl),vk ha hat];dsimp only;rw[Fs (d:=.B) (by decide) (by decide) (by rw[fw q1];rfl) a1,OW hb a2];dsimp only;rw[nC (K:=1) (d:=.C) (by decide) (by decide) (by
    unfold chK;rw[kQ a4,lI hc,if_neg (by grind),if_neg (by grind)]) (by rw[fw q1];rfl) a3,OX hc a4]
   exact lc (by have:=At.tot hat hp;grind)
  |mov ha hc=>
   rename_i a c;have hat:At l p ((1,rn a,0)::(3,[44],0)::(1,rn c,0)::K):=hat
   obtain⟨_,_,a1⟩:=At.cons hat
   obtain⟨_,_,a2⟩:=At.cons a1;show jY _ _ _ (aO l 0 2 2 0 (p,0,_));simp only[aO];rw[kr (d:=.A) (by decide) rfl,vk ha hat];dsimp only;rw[nC (K:=1) (d:=.C) (by decide) (by decide) (by
    unfold chK;rw[kQ a2,lI hc,if_neg (by grind),if_neg (by rintro⟨h,_⟩;exact absurd (show(1:Int)=7 from h) (by decide))];rfl) rfl a1,OX hc a2]
   exact lc (by have:=At.tot hat hp;grind)
  |hi ha=>
   rename_i a;have hat:At l p ((1,rn a,0)::K):=hat
   show jY _ _ _ (aO l 0 1 1 0 (p,0,_));simp only[aO];rw[lL (K:=3) (d:=.A) rfl (eB (show(3:Int)≠1 by decide) (show(3:Int)≠7 by decide)) rfl,vk ha hat];exact lc (by have:=At.tot hat hp;grind)
  |fl ha=>
   rename_i a;have hat:At l p ((1,rn a,0)::K):=hat
   show jY _ _ _ (aO l 0 1 1 0 (p,0,_));simp only[aO];rw[lL (K:=4) (d:=.A) rfl (eB (show(4:Int)≠1 by decide) (show(4:Int)≠7 by decide)) rfl,vk ha hat];exact lc (by have:=At.tot hat hp;grind)
  |br ho hc=>
   rename_i o c u;have hat:At l p ((1,rn c,0)::K):=hat
   show jY _ _ _ (aO l o 1 1 0 (p,0,_));simp only[aO];rw[lL (K:=6) (d:=.C) rfl (by
    unfold chK;rw[kQ hat,lI hc,if_neg (by rintro⟨h,_⟩;exact absurd (show(7:Int)=1 from h) (by decide)),if_pos ⟨rfl,rfl⟩]) rfl,OX hc hat]
   exact lc (by have:=At.tot hat hp;grind)
  |imm=>simp at hk0
  |movi=>simp at hk0
  |mem=>simp at hk0
  |jmp=>simp at hk0
 |@ins1 _ _ _ _ _ _ x h hk0 hx=>
  cases h with
  |imm q1 q2 ha hb hu=>
   rename_i o a b u;dsimp only at hat⊢;rw[ww q1] at hat
   have hat:At l p ((1,rn a,0)::(3,[44],0)::(1,rn b,0)::(3,[44],0)::(x.toks++K)):=by rw[<- UU x.toks];exact hat
   obtain⟨_,_,a1⟩:=At.cons hat
   obtain⟨_,_,a2⟩:=At.cons a1;obtain⟨_,_,a3⟩:=At.cons a2;obtain⟨_,_,a4⟩:=At.cons a3;rw[show hk 2=1 from rfl,fw q1];show jY _ _ _ (aO l o 3 3 0 (p,0,_));simp only[aO];rw[kr (d:=.A) (by decide) (by rw[fw q1];rfl),vk ha hat];dsimp only;rw[Fs (d:=.B) (by decide) (by decide) (by rw[fw q1];rfl) a1,OW hb a2];dsimp only;rw[nC (K:=2) (d:=.E) (by decide) (by decide) (by
    unfold chK;rw[Ez hx.1 a4,if_pos ⟨rfl,.inl rfl⟩]) (by rw[ww q1];rfl) a3,AP hl hx hK a4]
   exact lg (by have:=At.tot hat hp;grind) rfl
  |movi ha=>
   rename_i a u;have hat:At l p ((1,rn a,0)::(3,[44],0)::(x.toks++K)):=by rw[<- UU x.toks];exact hat
   obtain⟨_,_,a1⟩:=At.cons hat
   obtain⟨_,_,a2⟩:=At.cons a1;show jY _ _ _ (aO l 0 2 2 0 (p,0,_));simp only[aO];rw[kr (d:=.A) (by decide) rfl,vk ha hat];dsimp only;rw[nC (K:=2) (d:=.E) (by decide) (by decide) (by
    unfold chK;rw[Ez hx.1 a2,if_pos ⟨rfl,.inl rfl⟩]) rfl a1,AP hl hx hK a2]
   exact lg (by have:=At.tot hat hp;grind) rfl
  |mem q1 q2 ha hb=>
   rename_i o a b;have hat:At l p ((1,rn a,0)::(3,[44],0)::(1,rn b,0)::(3,[44],0)::(x.toks++K)):=by rw[<- UU x.toks];exact hat
   obtain⟨_,_,a1⟩:=At.cons hat
   obtain⟨_,_,a2⟩:=At.cons a1;obtain⟨_,_,a3⟩:=At.cons a2;obtain⟨_,_,a4⟩:=At.cons a3;show jY _ _ _ (aO l o 3 3 0 (p,0,_));simp only[aO];rw[kr (d:=.A) (by decide) rfl,vk ha hat];dsimp only;rw[Fs (d:=.B) (by decide) (by decide) rfl a1,OW hb a2];dsimp only;rw[nC (K:=5) (d:=.E) (by decide) (by decide) (eB (show(5:Int)≠1 by decide) (show(5:Int)≠7 by decide)) rfl a3,AP hl hx hK a4];exact lg (by have:=At.tot hat hp;grind) rfl
  |jmp ho=>
   rename_i o u;have hat:At l p (x.toks++K):=by rw[<- UU x.toks];exact hat
   show jY _ _ _ (aO l o 1 1 0 (p,0,_));simp only[aO];rw[lL (K:=7) (d:=.E) rfl (by
    unfold chK;rw[Ez hx.1 hat,if_neg (by rintro⟨h,_⟩;exact absurd (show(7:Int)=1 from h) (by decide)),if_neg (by grind)];rfl) rfl,AP hl hx hK hat]
   exact lg (by have:=At.tot hat hp;grind) rfl
  |reg=>simp at hk0
  |mov=>simp at hk0
  |hi=>simp at hk0
  |fl=>simp at hk0
  |br=>simp at hk0
 |@load a x ha hx=>
  have hat:At l p ((1,rn a,0)::(3,[44],0)::(3,[61],0)::(x.toks++K)):=by rw[<- UU x.toks];exact hat
  obtain⟨_,_,a1⟩:=At.cons hat
  obtain⟨_,_,a2⟩:=At.cons a1;show jY _ _ _ (aO l 0 2 2 0 (p,0,_));simp only[aO];rw[kr (d:=.A) (by decide) rfl,vk ha hat];dsimp only;rw[nC (K:=8) (d:=.Q) (by decide) (by decide) (eB (show(8:Int)≠1 by decide) (show(8:Int)≠7 by decide)) rfl a1,Ur hl hx hK a2];exact lg (by have:=At.tot hat hp;grind) rfl
 |@word x hx=>
  have hat:At l p (x.toks++K):=by rw[<- UU x.toks];exact hat
  show jY _ _ _ (aO l 0 1 1 0 (p,0,_));simp only[aO];rw[lL (K:=9) (d:=.E) rfl (eB (show(9:Int)≠1 by decide) (show(9:Int)≠7 by decide)) rfl,AP hl hx hK hat];exact lg (by have:=At.tot hat hp;grind) rfl
 |@exp nm hn=>
  have hat:At l p ((1,nm,0)::K):=hat
  show jY _ _ _ (aO l 0 1 1 0 (p,0,_));simp only[aO];rw[lL (K:=10) (d:=.N) rfl (eB (show(10:Int)≠1 by decide) (show(10:Int)≠7 by decide)) rfl,Uq hn hat];exact lc (by have:=At.tot hat hp;grind)
end Rv
namespace Rv
open Go
theorem KT(k:Int):(hk k=9\/hk k=10)↔(k=9\/k=10):=by
 grind [hk]
def smP(lb:Str)(s:Sm):PR:=(lb,s.k,s.o,s.a,s.b,s.c,s.u,s.e,s.nm,0,())
def noP(e:Int):PR:=([],0,0,0,0,0,false,[],[],e,())
def fQ(t:Option Tr):Prop:=∀x,t=some x->x.dep<=8
theorem oG{b:Bool}{e:Int}(h:e≠0):chk b e=e:=by simp_all [chk]
theorem OY{l:List aj}{p:Nat}{e:Int}{s:Sm}(h:e≠0)(d:Od):(rd l p e s d).2.1=e:=by
 have hE:∀p,(rdE l p e s).2.1=e:=fun p=>by unfold rdE;rw[if_neg h]
 cases d with
 |E=>exact hE p
 |Q=>
  show(rdE l (p+1) (chk (decide (pk 3 l p e=[61])) e) s).2.1=e
  grind [oG]
 |_=>exact oG h
theorem JV{l:List aj}{op:Int}{many i p:Nat}{e:Int}{s:Sm}(h:e≠0):(aJ l op many i p e s).2.1=e:=by
 grind [aJ,oG,OY]
theorem zl{l:List aj}{op:Int}{many:Nat}{e:Int}(h:e≠0):∀(m i:Nat) (r:Nat×Int×Sm),r.2.1=e->(aO l op many m i r).2.1=e
 |0,_,_,hr=>hr
 |m+1,i,r,hr=>zl h m (i+1) _ (by rw[hr];exact JV h)
theorem BC{l:List aj}{lb:Str}{r:Nat×Int×Sm}{e:Int}(h:e≠0)(hr:r.2.1=e):mG l lb r=noP e:=by
 unfold mG uT;rw[hr,oG h,if_pos h];rfl
abbrev Ol(K:List Bt):Prop:=noS dM K/\noS dR K
theorem Om:Ol []:=⟨G9 _,G9 _⟩
theorem Jq:Ol [(3,[44],0)]:=by
 constructor<;>(intro b r h g;grind)
theorem I5{l:List aj}{lb:Str}{p:Nat}(hp:p<l.length)(h:(L.ofR (l.getD p aR).2.2.1).2.2.2.1=false):jr l lb p 0=noP 22:=by
 unfold jr;rw[if_pos ⟨rfl,hp⟩];dsimp only;rw[h];exact BC (by decide) (zl (by decide) _ _ _ rfl)
theorem yY{l:List aj}(hl:l.length<=1000000){s:Sm}{t:Option Tr}(h:GoodS s t){lb:Str}{K:List Bt}(hK:K=[]\/K=[(3,[44],0)]){p:Nat}(hp:p<=l.length)(hat:At l p (stk s t++K)) :
  (fQ t->jr l lb p 0=if K=[] then smP lb s else noP 22)/\(¬fQ t->jr l lb p 0=noP 24):=by
 have hKe:Ol K:=by rcases hK with rfl|rfl;exact Om;exact Jq
 by_cases h0:s.k=0
 ·have hs:s=⟨0,0,0,0,0,false,[],[]⟩/\t=none:=by
   cases h with
   |none=>grind
   |ins0 h hk=>grind
   |ins1 h hk _=>grind
   |load _ _=>grind
   |word _=>grind
   |exp _=>grind
  obtain⟨rfl,rfl⟩:=hs;refine⟨fun _=>?_,fun g=>absurd (fun x hx=>by cases hx) g⟩;rcases hK with rfl|rfl
  ·have hat:At l p []:=hat
   have he:=At.end hat hp;rw[if_pos rfl];unfold jr;rw[if_neg (fun g=>by omega)];rfl
  ·have hat:At l p [(3,[44],0)]:=hat
   obtain⟨a1,a2,_⟩:=At.cons hat
   rw[if_neg (by simp)];refine I5 a1 ?_;simp only[bare,UC] at a2;rw[a2.2.1];decide +kernel
 ·have hstk:stk s t=mtk s::Dh ((odL s.k s.o).map (wtk s t)):=by unfold stk;rw[if_neg h0]
  rw[hstk] at hat
  obtain⟨a1,a2,a3⟩:=At.cons hat
  have hm:=uB h h0;have hof:=(QZ hm).1;simp only[bare,mtk,UC] at a2;have hk10:=GL h;have hloop:=Ld hl h h0 hKe (by omega) a3;unfold jr;rw[if_pos ⟨rfl,a1⟩];dsimp only;rw[a2.2.1,hof,a2.1];dsimp only;have hok:(true&&(decide ((if s.k=9\/s.k=10 then(4:Int) else 1)=4) == decide (hk s.k=9\/hk s.k=10))&&(decide ((if s.k=9\/s.k=10 then(4:Int) else 1)=4)||decide ((if s.k=9\/s.k=10 then(4:Int) else 1)=1)))=true:=by
   by_cases hd:s.k=9\/s.k=10;·simp_all [KT]
   simp_all [KT]
  rw[hok,show chk true 0=0 from rfl];generalize aO l s.o (odL (hk s.k) s.o).length (odL (hk s.k) s.o).length 0 (p+1,0,⟨hk s.k,s.o,0,0,0,s.u,[],[]⟩)=r at hloop;obtain⟨e1,e2⟩:=hloop;constructor
  ·intro hd;rw[e1 hd];unfold mG;dsimp only;rcases hK with rfl|rfl
   ·rw[decide_eq_true (show l.length<=l.length-([]:List Bt).length from Uz _)];rfl
   ·rw[decide_eq_false (show ¬l.length<=l.length-([(3,[44],0)]:List Bt).length by simp;omega),if_neg (by simp)];rfl
  ·intro hd;obtain⟨s',e⟩:=e2 (by
    apply Classical.byContradiction;intro hc;exact hd fun x hx=>Classical.byContradiction fun hx2=>hc ⟨x,hx,hx2⟩)
   rw[e];exact BC (by decide) rfl
theorem JW{s:Sm}{t:Option Tr}(h:GoodS s t){b c:Bt}{r:List Bt}(e:stk s t=b::c::r):c.2.1≠[58]:=by
 have hod:=nk h;have hname:∀n:Str,ax n=true->n≠[58]:=fun n hn e=>by rw[e] at hn;exact absurd hn (by decide)
 have hreg:∀a,rg a->rn a≠[58]:=fun a ha e=>by
  have:=lJ ha;rw[e] at this;exact absurd this (by decide)
 have first:∀d:Od,pQ s t d->∀x y,wtk s t d=x::y->x.2.1≠[58]:=by
  intro d hd x y he;cases d with
  |A=>obtain⟨rfl,_⟩:=List.cons.inj he;exact hreg _ hd
  |B=>obtain⟨rfl,_⟩:=List.cons.inj he;exact hreg _ hd
  |C=>obtain⟨rfl,_⟩:=List.cons.inj he;exact hreg _ hd
  |N=>obtain⟨rfl,_⟩:=List.cons.inj he;exact hname _ (kM hd)
  |Q=>obtain⟨rfl,_⟩:=List.cons.inj he;decide
  |E=>
   obtain⟨z,rfl,hz,_⟩:=hd;obtain⟨b',r',h1,_,h3⟩:=vN z hz.1;have he:z.toks=x::y:=he
   grind
 have ne:∀d:Od,pQ s t d->wtk s t d≠[]:=by
  intro d hd;cases d with
  |E=>obtain⟨z,rfl,hz,_⟩:=hd;exact Bc z
  |_=>simp[wtk]
 unfold stk at e;split at e;·cases e
 ·have e2:=(List.cons.inj e).2;cases hl:odL s.k s.o with
  |nil=>rw[hl] at e2;cases e2
  |cons d ds=>
   rw[hl] at e2 hod;have hd:=hod d (U4 ..);cases hw:wtk s t d with
   |nil=>grind
   |cons x y=>
    have e3:wtk s t d++((ds.map (wtk s t)).map ((3,[44],0)::·)).flatten=c::r:=e2
    grind
theorem FD:∀x:Tr,x.ok->∀b∈x.toks,b.2.1.length<=1000:=by
 have hb:∀(q:Bool) (l:List Bt),(∀b∈l,b.2.1.length<=1000)->∀b∈brk q l,b.2.1.length<=1000:=by
  intro q l h b hm;unfold brk at hm;split at hm
  ·simp only[UG,UK,Vj,or_false] at hm;rcases hm with rfl|hm|rfl
   ·decide
   ·exact h b hm
   ·decide
  ·exact h b hm
 intro x
 induction x with
 |num n=>
  intro h b hm;have hm:b∈[((2:Int),Lib.itoa n,n)]:=hm;simp only[UV] at hm;subst hm;have:=gY (.num n) h trivial;exact UW this (show 20*1<=1000 by decide)
 |nam s=>
  intro h b hm;have hm:b∈[((1:Int),s,(0:Int))]:=hm;simp only[UV] at hm;subst hm;have:=gY (.nam s) h trivial;exact UW this (show 20*1<=1000 by decide)
 |neg x ih=>
  intro h b hm;have hm:b∈Ba::brk (decide (x.tight<2)) x.toks:=hm;simp only[UG] at hm;rcases hm with rfl|hm;·decide
  ·exact hb _ _ (ih h) b hm
 |br x ih=>intro h b hm;exact hb true _ (ih h) b hm
 |bin o a c iha ihc=>
  intro h b hm;have hm:b∈brk (decide (a.tight<o.tight)) a.toks++tOp o::brk (decide (c.tight<o.tight+1)) c.toks:=hm;simp only[UK,UG] at hm;rcases hm with hm|rfl|hm;·exact hb _ _ (iha h.1) b hm
  ·show([o.byte]:Str).length<=1000;simp
  ·exact hb _ _ (ihc h.2) b hm
theorem BQ{lb:Str}(h:ax lb=true):lb.length<=12:=by
 simp_all [ax]
theorem Ic{s:Sm}{t:Option Tr}(h:GoodS s t):∀b∈stk s t,b.2.1.length<=1000:=by
 have hod:=nk h;have hr:∀a,(rn a).length<=1000:=fun a=>UW (ym _) (by decide)
 have one:∀d:Od,pQ s t d->∀b∈wtk s t d,b.2.1.length<=1000:=by
  intro d hd b hb;cases d with
  |A=>grind [wtk]
  |B=>grind [wtk]
  |C=>grind [wtk]
  |N=>simp only[wtk,UV] at hb;subst hb;exact UW (BQ (kM hd)) (by decide)
  |E=>obtain⟨z,rfl,hz,_⟩:=hd;exact FD z hz.1 b hb
  |Q=>
   obtain⟨z,rfl,hz,_⟩:=hd;simp only[wtk,UG] at hb;rcases hb with rfl|hb;·decide
   ·exact FD z hz.1 b hb
 intro b hb;unfold stk at hb;split at hb;·cases hb
 ·simp only[UG] at hb;rcases hb with rfl|hb
  ·exact UW (nU _ _ _) (by decide)
  ·cases hl:odL s.k s.o with
   |nil=>rw[hl] at hb;cases hb
   |cons d ds=>
    rw[hl] at hb hod;have hb:b∈wtk s t d++((ds.map (wtk s t)).map ((3,[44],0)::·)).flatten:=hb
    grind
theorem M4{l:List aj}{k:List Bt}(hb:l.map bare=k)(h:∀b∈k,b.2.1.length<=1000):∀t∈l,t.2.2.1.length<=1000000:=by
 intro t ht;have:=h (bare t) (by grind);exact UW this (by decide)
theorem Oc{s:Sm}{t:Option Tr}(h:GoodS s t){lb:Str}(hlb:lb=[]\/ax lb=true):∀b∈ltk lb s t,b.2.1.length<=1000:=by
 intro b hb;unfold ltk at hb;split at hb;·exact Ic h b hb
 ·rename_i hne;simp only[UG] at hb;rcases hb with rfl|rfl|hb
  ·grind [BQ]
  ·decide
  ·exact Ic h b hb
theorem Ot{l:List aj}{s:Sm}{t:Option Tr}(h:GoodS s t){K:List Bt}(hK:K=[]\/K=[(3,[44],0)])(hat:At l 0 (stk s t++K)):¬(1<l.length/\(l.getD 0 aR).1=1/\iA l 1 58=true):=by
 rintro⟨h1,_,h3⟩;obtain⟨h1,_,h3⟩:=bS.1 h3;have tot:=At.tot hat (by omega)
 match hs:stk s t with
 |[]=>grind
 |[b]=>
  rw[hs] at tot hat
  rcases hK with rfl|rfl;·grind
  ·obtain⟨_,_,a1⟩:=At.cons hat
   obtain⟨_,a2,_⟩:=At.cons a1;simp_all [bare]
 |b::c::r=>
  rw[hs] at hat
  obtain⟨_,_,a1⟩:=At.cons hat
  obtain⟨_,a2,_⟩:=At.cons a1;exact JW h hs (by rw[<- a2];exact h3)
theorem Gc{l:List aj}(hl:l.length<=1000000){s:Sm}{t:Option Tr}(h:GoodS s t){lb:Str}(hlb:lb=[]\/ax lb=true){K:List Bt}(hK:K=[]\/K=[(3,[44],0)])(hb:l.map bare=ltk lb s t++K) :
  (fQ t->Zab.g l=some (if K=[] then smP lb s else noP 22))/\(¬fQ t->Zab.g l=some (noP 24)):=by
 have hlen:∀t∈l,t.2.2.1.length<=1000000:=by
  refine M4 hb fun b hb=>?_
  rcases UK.1 hb with hb|hb;·exact Oc h hlb b hb
  grind
 rw[Ci hl hlen];have hat0:At l 0 (ltk lb s t++K):=by grind [At]
 unfold mr;by_cases hne:lb=[]
 ·subst hne;have hat:At l 0 (stk s t++K):=hat0;rw[if_neg (Ot h hK hat)];obtain⟨g1,g2⟩:=yY hl h (lb:=[]) hK (Nat.zero_le _) hat
  grind
 ·have hok:=hlb.resolve_left hne;have hat:At l 0 ((1,lb,0)::(3,[58],0)::(stk s t++K)):=by simp_all [ltk]
  obtain⟨b0,b1,a1⟩:=At.cons hat
  obtain⟨b2,b3,a2⟩:=At.cons a1;simp only[bare,UC] at b1 b3;rw[if_pos ⟨b2,b1.1,bS.2 ⟨b2,b3.1,b3.2.1⟩⟩,b1.2.1,hok,show chk true 0=0 from rfl];obtain⟨g1,g2⟩:=yY hl h (lb:=lb) hK (show 0+1+1<=l.length from b2) a2
  grind
theorem Ju{l:List aj}(hl:l.length<=1000000){s:Sm}{t:Option Tr}(h:GoodS s t){lb:Str}(hlb:lb=[]\/ax lb=true)(hb:l.map bare=ltk lb s t) :
  (fQ t->Zab.g l=some (smP lb s))/\(¬fQ t->Zab.g l=some (noP 24)):=by
 have:=Gc hl h hlb (.inl rfl) (by grind)
 grind
theorem MC{s:Sm}{t:Option Tr}(h:GoodS s t){lb:Str}(hlb:lb=[]\/ax lb=true) :
  ∃ts:List aj,ts.map bare=ltk lb s t/\ts.length<=5000/\Zah.g (ltx lb s t)=some (ts,0,())/\(fQ t->Zab.g ts=some (smP lb s))/\(¬fQ t->Zab.g ts=some (noP 24)):=by
 have hlen:=Ay h hlb;obtain⟨ts,h1,h2⟩:=JM (Mg h hlb) (by omega);have hts:ts.length<=5000:=by
  have:=(wT (k:=0) (s:=ltx lb s t))
  rw[wo _ (by omega)] at h2
  grind
 grind [Ju]
end Rv
namespace Rv
open Go
def dI:Str->List Str
 |[]=>[]
 |b::s=>if b=10 then[]::dI s else match dI s with
  |[]=>[[b]]
  |l::r=>(b::l)::r
theorem Fp(c:UInt8):∀s,L.splitR c s≠[]
 |[]=>by simp[L.splitR]
 |b::s=>by
  rw[L.splitR];split;·simp
  ·split<;>simp
def mZ(l:List Str):List Str:=if l.getD (l.length-1) []=[] then l.take (l.length-1) else l
theorem vP(x:Str){l:List Str}(h:l≠[]):mZ (x::l)=x::mZ l:=by
 obtain⟨y,r,rfl⟩:=List.exists_cons_of_ne_nil h;unfold mZ;have e:(x::y::r).getD ((x::y::r).length-1) []=(y::r).getD ((y::r).length-1) []:=rfl;rw[e];split;·rfl
 ·rfl
theorem wU:∀s:Str,mZ (L.splitR 10 s)=dI s
 |[]=>rfl
 |b::s=>by
  have ih:=wU s;have hne:=Fp 10 s;rw[L.splitR,dI];by_cases h:b=10;·rw[if_pos h,if_pos h,vP _ hne,ih]
  ·rw[if_neg h,if_neg h,<- ih];obtain⟨y,r,hs⟩:=List.exists_cons_of_ne_nil hne;rw[hs];dsimp only;cases r with
   |nil=>
    have h1:mZ [b::y]=[b::y]:=by unfold mZ;rw[if_neg (by simp)]
    rw[h1];unfold mZ;cases y with
    |nil=>rfl
    |cons c t=>rw[if_neg (by simp)]
   |cons z r=>
    rw[vP (b::y) (l:=z::r) (by simp),vP y (l:=z::r) (by simp)]
theorem rJ:∀s:Str,(dI s).length<=s.length/\∀l∈dI s,l.length<=s.length
 |[]=>⟨Uz _,fun l h=>by cases h⟩
 |b::s=>by
  obtain⟨h1,h2⟩:=rJ s;rw[dI];split
  ·refine⟨by simp;omega,fun l hl=>?_⟩;rcases UG.1 hl with rfl|hl
   ·simp
   ·have:=h2 l hl;simp;omega
  ·split
   ·refine⟨by simp,fun l hl=>?_⟩;rw[UV] at hl;subst hl;simp
   ·rename_i x r hx;rw[hx] at h1 h2;refine⟨by simp at h1⊢;omega,fun l hl=>?_⟩;rcases UG.1 hl with rfl|hl
    ·have:=h2 x (U4 ..);simp;omega
    ·have:=h2 l (UA _ hl);simp;omega
theorem rG:∀(n:Nat) (k:Int) (s:Str) (l:List Tok),s.length<=n->aI k s=.ok l->∀t∈l,t.2.2.1.length<=s.length
 |_,k,[],l,_,h=>by rw[mi] at h;cases h;intro t ht;cases ht
 |0,k,c::r,l,hn,_=>by simp at hn
 |n+1,k,c::r,l,hn,h=>by
  simp only[UN] at hn⊢;rw[eT] at h;split at h;·cases h;intro t ht;cases ht
  ·split at h
   ·intro t ht;have:=rG n (k+1) r l (by omega) h t ht;omega
   ·split at h
    ·cases h
    ·rename_i d q tx v hT;obtain⟨h1,h2,_⟩:=Pt hT;split at h
     ·cases h
     ·rename_i l' hl;cases h;intro t ht;rcases UG.1 ht with rfl|ht
      ·simp only;omega
      ·have:=rG n _ _ l' (by simp;omega) hl t ht;simp at this;omega
def lH(s:Str):PR:=let y:=bi [] (aI 0 s);if y.2.1≠0 then noP y.2.1 else mr y.1
abbrev Ag(p:PR):Int:=p.2.2.2.2.2.2.2.2.2.1
abbrev lnP(p:PR):Ln:=(p.1,(p.2.1,p.2.2.1,p.2.2.2.1,p.2.2.2.2.1,p.2.2.2.2.2.1,p.2.2.2.2.2.2.1,p.2.2.2.2.2.2.2.1,p.2.2.2.2.2.2.2.2.1,()),())
theorem JZ{k:Int}{s:Str}(hs:s.length<=1000000):(bi [] (aI k s)).1.length<=1000000:=UW wT hs
theorem Ce(s:Str)(hs:s.length<=1000000):Zab.g (bi [] (aI 0 s)).1=some (mr (bi [] (aI 0 s)).1):=by
 refine Ci (JZ hs) fun t ht=>?_
 have h:∀t∈(bi [] (aI 0 s)).1,t.2.2.1.length<=s.length:=by
  cases h:aI 0 s with
  |error e=>intro t ht;cases ht
  |ok l=>
   intro t ht;have ht:t∈l:=by simpa[bi] using ht
   exact rG s.length 0 s l (Uz _) h t ht
 exact UW (h t ht) hs
theorem SH(s:Str)(hs:s.length<=1000000):Zec.g s=some (lH s):=by
 unfold Zec.g Zec.f lH;rw[wo s hs,Uv];generalize hy:bi [] (aI 0 s)=y;have hp:=Ce s hs;rw[hy] at hp;by_cases h:y.2.1≠0;·rw[if_pos (by simpa using h)];show _=some (if _ then _ else _);rw[if_pos h];rfl
 ·rw[if_neg (by simpa using h),hp,Uv];show _=some (if _ then _ else _);rw[if_neg h]
def dV:Nat->List Str->Except (Nat×Int) (List Ln)
 |_,[]=>.ok []
 |i,s::r=>if Ag (lH s)≠0 then .error (i+1,Ag (lH s)) else match dV (i+1) r with
  | .error x=>.error x
  | .ok l=>.ok (lnP (lH s)::l)
def uS(out:List Ln):Except (Nat×Int) (List Ln)->List Ln×Int×Int×Unit
 | .ok l=>(out++l,0,0,())
 | .error x=>([],(x.1:Int),x.2,())
theorem KA(l:List Str)(hl:l.length<=1000000)(hs:∀s∈l,s.length<=1000000)(n:Nat):∀(m i:Nat) (out:List Ln),i<=l.length->l.length-i<m->out.length=i ->
  Zci.l5 n m out l (l.length:Int) (i:Int)=some (uS out (dV i (l.drop i))):=by
 intro m
 induction m with
 |zero=>intro i out _ h;omega
 |succ m ih=>
  intro i out hi hm ho;rw[Zci.l5];simp only[dt,UL];by_cases h:i<l.length
  ·have hd:l.drop i=l.getD i []::l.drop (i+1):=by
    rw[UX h,UH,UF h];rfl
   have hg:l.getD i []∈l:=by rw[UH,UF h];exact Vg h
   have W1:IntKind.i64.wrap ((i:Int)+1)=((i+1:Nat):Int):=by rw[w64 (by omega)];omega
   rw[if_pos (by omega),if_pos (by omega),SH _ (hs _ hg),Uv,hd,dV,W1];by_cases he:Ag (lH (l.getD i []))≠0;·rw[if_pos he,if_pos he];rfl
   ·rw[if_neg he,if_neg he,if_pos (by simp;omega),ih (i+1) _ (by omega) (by omega) (by simp[ho])];cases dV (i+1) (l.drop (i+1)) with
    |error x=>rfl
    |ok r=>show some (_++r,_)=some (_++_,_);rw[UM];rfl
  ·obtain rfl:i=l.length:=by omega
   rw[if_neg (by omega),Vf,dV];simp[uS]
def fE(s:Str):List Ln×Int×Int×Unit:=
 if 262144<s.length then([],0,2,()) else if 4096<(dI s).length then([],0,2,()) else uS [] (dV 0 (dI s))
theorem Ny(l:List Str)(hl:l.length<=1000000)(hs:∀s∈l,s.length<=1000000):Zci.g l=some (if 4096<l.length then([],0,2,()) else uS [] (dV 0 l)):=by
 unfold Zci.g Zci.f;by_cases h:4096<l.length;·rw[if_pos (by simp;omega),if_pos h]
 ·rw[if_neg (by simp;omega),if_neg h];have:=KA l hl hs (1000+l.length) (1000+l.length) 0 [] (by omega) (by omega) rfl;rw[U3] at this;exact this
theorem CB:∀s:Str,(L.splitR 10 s).length<=s.length+1
 |[]=>Uz _
 |b::s=>by
  have:=CB s;rw[L.splitR];split;·simp;omega
  ·split
   ·simp
   ·rename_i x r hx;rw[hx] at this;simp at this⊢;omega
theorem Cg(s:Str)(hs:s.length<=1000000):Zbz.g s=some (fE s):=by
 unfold Zbz.g Zbz.f fE;by_cases h:262144<s.length;·rw[if_pos (by simp;omega),if_pos h]
 ·rw[if_neg (by simp;omega),if_neg h];have hO:L.splitO s [10]=some (L.splitR 10 s,()):=by unfold L.splitO;dsimp only;rw[if_pos (by omega)]
  have h1:=CB s;have h2:=List.length_pos_iff.2 (Fp 10 s);have ht:=wU s;obtain⟨g1,g2⟩:=rJ s;rw[hO,Uv];dsimp only;generalize L.splitR 10 s=S at h1 h2 ht;have W:IntKind.i64.wrap ((S.length:Int)-1)=((S.length-1:Nat):Int):=by rw[w64 (by omega)];omega
  have fin:Zbz.j7 (1000+s.length) (mZ S)=some (if 4096<(dI s).length then([],0,2,()) else uS [] (dV 0 (dI s))):=by
   rw[ht];unfold Zbz.j7;rw[Ny _ (by omega) (fun l hl=>by have:=g2 l hl;omega),Uv]
  simp only[dt];rw[W,UL,if_pos (by omega)];unfold mZ at fin;by_cases he:S.getD (S.length-1) []=[]
  ·rw[if_pos he] at fin;rw[if_pos he,if_pos (by omega),U3];exact fin
  ·rw[if_neg he] at fin;rw[if_neg he];exact fin
theorem DY:∀(l:List Str) (i:Nat) (r:List Ln),dV i l=.ok r->r.length=l.length
 |[],i,r,h=>by rw[dV] at h;cases h;rfl
 |s::l,i,r,h=>by
  rw[dV] at h;split at h;·cases h
  ·cases hr:dV (i+1) l with
   |error x=>rw[hr] at h;cases h
   |ok q=>rw[hr] at h;cases h;simp[DY l (i+1) q hr]
theorem EG{s:Str}(hs:s.length<=4096):fE s=uS [] (dV 0 (dI s)):=by
 unfold fE;have:=(rJ s).1;rw[if_neg (by omega),if_neg (by omega)]
end Rv
namespace Rv
open Go
section
variable{l l':List aj}(hl:l.length=l'.length)(hb:∀p,bare (l.getD p aR)=bare (l'.getD p aR))
end
theorem BS:∀(u v:Str),10 ∉ u->dI (u++10::v)=u::dI v
 |[],v,_=>by rw[UY,dI,if_pos rfl]
 |b::u,v,h=>by
  have h1:b≠10:=fun e=>h (by rw[e];exact U4 ..)
  rw[List.cons_append,dI,if_neg h1,BS u v (fun g=>h (UA _ g))]
end Rv
namespace Rv
open Go
def iT(s:Str):Prop:=10 ∉ s
theorem ji{a b:Str}(ha:iT a)(hb:iT b):iT (a++b):=fun h=>(UK.1 h).elim ha hb
theorem xW{s:Str}{p:UInt8->Bool}(h:s.all p=true)(hp:p 10=false):iT s:=fun g=>by
 grind
theorem mR{s:Str}(h:l9 s=true):iT s:=by
 unfold l9 at h;rw[UB] at h;exact xW h.1 (by decide)
theorem rV{s:Str}(h:ax s=true):iT s:=by
 unfold ax at h;simp only[UB] at h;exact xW h.1.2 (by decide)
theorem bU{c:UInt8}{s:Str}(hc:c≠10)(hs:iT s):iT (c::s):=fun h=>(UG.1 h).elim (fun e=>hc e.symm) hs
theorem jZ:iT []:=fun h=>by cases h
theorem xX{b:Bool}{s:Str}(h:iT s):iT (brkT b s):=by
 grind [brkT,bU,ji,jZ]
theorem Ll{n:Int}(h:0<=n):iT (Lib.itoa n):=by
 obtain⟨m,rfl⟩:∃m:Nat,n=m:=⟨n.toNat,by omega⟩
 have hi:Lib.itoa (m:Int)=Lib.decDigits m:=by simp_all [Lib.itoa]
 rw[hi];exact xW (vX m).1 (by decide)
theorem lG:∀x:Tr,x.ok->iT x.txt
 | .num n,h=>Ll h.1
 | .nam s,h=>rV h
 | .neg x,h=>bU (by decide) (xX (lG x h))
 | .bin o a b,h=>ji (xX (lG a h.1)) (ji (bU (by decide) (bU (by cases o<;>decide) (bU (by decide) jZ))) (xX (lG b h.2)))
 | .br x,h=>bU (by decide) (ji (lG x h) (bU (by decide) jZ))
theorem Q4{s:Sm}{t:Option Tr}{d:Od}(h:pQ s t d):iT (wtx s t d):=by
 cases d with
 |A=>exact mR (lJ h)
 |B=>exact mR (lJ h)
 |C=>exact mR (lJ h)
 |N=>exact rV (kM h)
 |E=>obtain⟨x,rfl,hx,_⟩:=h;exact lG x hx.1
 |Q=>obtain⟨x,rfl,hx,_⟩:=h;exact bU (by decide) (bU (by decide) (lG x hx.1))
theorem Lm:∀(l:List Str),(∀x∈l,iT x)->iT (L.sjoinR [44,32] l)
 |[],_=>jZ
 |x::r,h=>by
  refine ji (h x (U4 ..)) fun g=>?_
  obtain⟨y,hy,hg⟩:=List.mem_flatten.1 g;obtain⟨z,hz,rfl⟩:=UR.1 hy;exact ji (a:=[44,32]) (bU (by decide) (bU (by decide) jZ)) (h z (UA _ hz)) hg
theorem Oq{s:Sm}{t:Option Tr}(h:GoodS s t):iT (stx s t):=by
 unfold stx;split;·exact jZ
 ·rename_i h0;have hm:=mR (BZ (uB h h0));refine ji ?_ (bU (by decide) (Lm _ fun x hx=>?_))
  ·grind [mtx,bU]
  ·obtain⟨d,hd,rfl⟩:=UR.1 hx;exact Q4 (nk h d hd)
theorem Oo{s:Sm}{t:Option Tr}(h:GoodS s t){lb:Str}(hlb:lb=[]\/ax lb=true):iT (ltx lb s t):=by
 grind [ltx,Oq,ji,rV,bU,jZ]
structure GLn where
 lb:Str
 s:Sm
 t:Option Tr
 hl:lb=[]\/ax lb=true
 hg:GoodS s t
abbrev lnS(lb:Str)(s:Sm):Ln:=(lb,(s.k,s.o,s.a,s.b,s.c,s.u,s.e,s.nm,()),())
abbrev GLn.ln(x:GLn):Ln:=lnS x.lb x.s
abbrev GLn.tx(x:GLn):Str:=ltx x.lb x.s x.t
theorem OC(x:GLn):(fQ x.t->lH x.tx=smP x.lb x.s)/\(¬fQ x.t->lH x.tx=noP 24):=by
 obtain⟨ts,hb,hn,hs,g1,g2⟩:=MC x.hg x.hl;have hlen:=Ay x.hg x.hl
 grind [wo,Ce,lH]
def txL(l:List GLn):Str:=(l.map fun x=>x.tx++[10]).flatten
theorem BU:∀(l:List GLn),dI (txL l)=l.map GLn.tx
 |[]=>rfl
 |x::l=>by
  have e:txL (x::l)=x.tx++10::txL l:=by grind [txL]
  rw[e,BS _ _ (Oo x.hg x.hl),BU l];rfl
theorem Ij:∀(l:List GLn),(txL l).length<=5001*l.length
 |[]=>Uz _
 |x::l=>by
  have h1:=Ay x.hg x.hl;have h2:=Ij l;have e:txL (x::l)=(x.tx++[10])++txL l:=rfl
  grind
theorem Pi:∀(l:List Str),L.sjoinR [10] (l++[[]])=(l.map (·++[10])).flatten
 |[]=>rfl
 |x::l=>by
  have ih:∀m:List Str,((m++[[]]).map (([10]:Str)++·)).flatten=[10]++(m.map (·++[10])).flatten:=by
   intro m
   induction m with
   |nil=>rfl
   |cons y m ih=>grind
  show x++((l++[[]]).map (([10]:Str)++·)).flatten=(x++[10])++(l.map (·++[10])).flatten;rw[ih];simp
theorem Gi(l:List GLn)(hl:l.length<=4096)(n:Nat):∀(m i:Nat) (out:List Str),i<=l.length->l.length-i<m->out.length=i ->
  Zcr.l5 n m out (l.map GLn.ln) ((l.map GLn.ln).length:Int) (i:Int)=some (out++(l.drop i).map GLn.tx,0,0,()):=by
 intro m
 induction m with
 |zero=>grind
 |succ m ih=>
  intro i out hi hm ho;rw[Zcr.l5];simp only[dt,UL,Vb];by_cases h:i<l.length
  ·have hd:l.drop i=l[i]::l.drop (i+1):=UX h;have hg:(l.map GLn.ln).getD i zL=(l[i]).ln:=by
    grind
   have W1:IntKind.i64.wrap ((i:Int)+1)=((i+1:Nat):Int):=by grind [w64]
   rw[if_pos (by omega),if_pos (by omega),hg,hd];generalize l[i]=x;have hp:Zad.g x.lb x.s.k x.s.o x.s.a x.s.b x.s.c x.s.u x.s.e x.s.nm=some (x.tx,0,()):=Jz x.hg x.hl;have hp1:Zeb.g x.lb x.s.k x.s.o x.s.a x.s.b x.s.c x.s.u x.s.e x.s.nm=some (x.tx,0,()):=by
    grind [Zeb.g,Zeb.f]
   rw[hp1,Uv];dsimp only;rw[if_neg (show ¬(0:Int)≠0 by decide),if_pos (by simp;omega),W1];have:=ih (i+1) (out++[x.tx]) (by omega) (by omega) (by simp[ho])
   grind
  grind
theorem Bb(l:List GLn)(hl:l.length<=4096):Zdl.g (l.map GLn.ln)=some (txL l,0,0,()):=by
 unfold Zdl.g Zdl.f Zcr.g Zcr.f;rw[if_neg (by simp;omega)];have:=Gi l hl (1000+(l.map GLn.ln).length) (1000+(l.map GLn.ln).length) 0 [] (by omega) (by grind) rfl;rw[show((0:Nat):Int)=0 from rfl,U3,UY] at this;rw[this,Uv];dsimp only;have hj:L.sjoinR [10] (l.map GLn.tx++[[]])=txL l:=by
  rw[Pi,List.map_map];rfl
 have hlen:=Ij l;have hm:5001*l.length<=5001*4096:=Nat.mul_le_mul_left _ hl;rw[if_neg (show ¬decide ((0:Int)≠0)=true by decide),if_pos (by simp;omega)];unfold L.sjoinO
 grind
end Rv
namespace Rv
open Go
theorem fB{b:Bool}{e:Int}(h:chk b e=0):e=0/\b=true:=by
 unfold chk at h;split at h;·exact absurd h (by decide)
 ·rename_i g;refine⟨h,?_⟩;cases b
  ·exact absurd ⟨rfl,h⟩ g
  ·rfl
def iZ(e:Int):Prop:=e=0\/e=22\/e=23\/e=24
theorem ib{b:Bool}{e:Int}(h:iZ e):iZ (chk b e):=by
 unfold chk;split;·exact .inr (.inl rfl)
 ·exact h
theorem yn{s:Str}(h:(bW s).2=true):rg (bW s).1:=by
 unfold bW at h⊢;cases hf:(List.range 16).find? (fun k=>gB k == s) with
 |none=>rw[hf] at h;cases h
 |some k=>have:=(sD hf).1;exact⟨by dsimp only;omega,by dsimp only;omega⟩
section
variable{l:List aj}(hw:∀t∈l,0<=t.2.2.2.1/\t.2.2.2.1<=4294967295)
theorem Jt(p:Nat):iZ (fF l p).2.2.1:=by
 unfold fF;have hg:=ni (eD l 9) p;cases hx:xS l (pF l 9) p with
 |error e=>rw[hx] at hg;rcases hg with rfl|rfl;exact .inr (.inr (.inl rfl));exact .inr (.inr (.inr rfl))
 |ok r=>dsimp only;split;exact .inr (.inr (.inr rfl));exact .inl rfl
include hw in
theorem Gb{p:Nat}(h:(fF l p).2.2.1=0):∃t,iU t/\(fF l p).1=t.post:=by
 unfold fF at h⊢;have hg:=ni (eD l 9) p;cases hx:xS l (pF l 9) p with
 |error e=>
  rw[hx] at h hg;have h:e=0:=h;rcases hg with rfl|rfl<;>cases h
 |ok r=>
  rw[hx] at h hg;dsimp only at h⊢;split at h;·cases h
  ·rename_i h64;rw[if_neg h64];obtain⟨t,h1,h2,h3⟩:=RI hg.well (hg.good hw);exact⟨t,⟨h2,h3,by rw[h1];exact hg.well,by rw[h1];omega⟩,h1.symm⟩
theorem EM{p:Nat}{e:Int}{s:Sm}{d:Od}(h:(rd l p e s d).2.1=0):e=0:=by
 have hE:∀p e,(rdE l p e s).2.1=0->e=0:=fun p e h=>by
  unfold rdE at h;split at h;·assumption
  ·exact h
 cases d with
 |A=>exact(fB h).1
 |B=>exact(fB h).1
 |C=>exact(fB h).1
 |N=>exact(fB h).1
 |E=>exact hE _ _ h
 |Q=>exact(fB (hE _ _ h)).1
theorem TP{p:Nat}{e:Int}{s:Sm}{d:Od}(h:iZ e):iZ (rd l p e s d).2.1:=by
 have hE:∀p e,iZ e->iZ (rdE l p e s).2.1:=fun p e h=>by
  unfold rdE;split;·exact Jt p
  ·exact h
 cases d with
 |A=>exact ib h
 |B=>exact ib h
 |C=>exact ib h
 |N=>exact ib h
 |E=>exact hE _ _ h
 |Q=>exact hE _ _ (ib h)
theorem step_ok{op:Int}{many i p:Nat}{e:Int}{s:Sm}(h:iZ e):iZ (aJ l op many i p e s).2.1:=by
 unfold aJ;dsimp only;have h1:iZ (if 0<i then chk (decide (pk 3 l p e=[44])) e else e):=by split;exact ib h;exact h
 split;·exact TP h1
 ·exact h1
theorem Aw{op:Int}{many:Nat}:∀(m i:Nat) (r:Nat×Int×Sm),iZ r.2.1->iZ (aO l op many m i r).2.1
 |0,_,_,h=>h
 |m+1,i,r,h=>Aw m (i+1) _ (step_ok h)
theorem bI{op:Int}{many i p:Nat}{e:Int}{s:Sm}(h:(aJ l op many i p e s).2.1=0):e=0:=by
 unfold aJ at h;dsimp only at h;have h1:(if 0<i then chk (decide (pk 3 l p e=[44])) e else e)=0->e=0:=fun h=>by
  split at h;·exact(fB h).1
  ·exact h
 split at h;·exact h1 (EM h)
 ·exact h1 h
theorem qB{p:Nat}{s:Sm}(h:(rd l p 0 s .A).2.1=0):∃a,rg a/\(rd l p 0 s .A).2.2={ s with a:=a }:=⟨_,yn (fB h).2,rfl⟩
theorem LP{p:Nat}{s:Sm}(h:(rd l p 0 s .B).2.1=0):∃a,rg a/\(rd l p 0 s .B).2.2={ s with b:=a }:=⟨_,yn (fB h).2,rfl⟩
theorem EL{p:Nat}{e:Int}{s:Sm}(h:(rd l p e s .C).2.1=0):∃a,rg a/\(rd l p e s .C).2.2={ s with c:=a }:=⟨_,yn (fB h).2,rfl⟩
theorem SQ{p:Nat}{s:Sm}(h:(rd l p 0 s .N).2.1=0):∃a,bZ a=true/\(rd l p 0 s .N).2.2={ s with nm:=a }:=⟨_,(fB h).2,rfl⟩
include hw in
theorem qC{p:Nat}{e:Int}{s:Sm}(h:(rdE l p e s).2.1=0):∃t,iU t/\(rdE l p e s).2.2={ s with e:=t.post }:=by
 unfold rdE at h⊢;split at h;·rename_i he;rw[if_pos he];obtain⟨t,h1,h2⟩:=Gb hw h;exact⟨t,h1,by dsimp only;rw[h2]⟩
 ·rename_i he;exact absurd h he
theorem sN{op:Int}{many p:Nat}{s:Sm}{d:Od}(hm:many≠1)(hd:(odL s.k op)[0]?=some d):aJ l op many 0 p 0 s=rd l p 0 s d:=kr hm hd
theorem Ml{op:Int}{many i p:Nat}{s:Sm}{d:Od}(h0:0<i)(hm:i+1≠many)(hd:(odL s.k op)[i]?=some d)(h:(aJ l op many i p 0 s).2.1=0):aJ l op many i p 0 s=rd l (p+1) 0 s d:=by
 have key:aJ l op many i p 0 s=rd l (p+1) (chk (decide (pk 3 l p 0=[44])) 0) s d:=by
  unfold aJ;dsimp only;rw[if_pos h0,if_pos h0,if_neg hm,hd]
 rw[key] at h⊢;rw[EM h]
theorem wH{op:Int}{many i p:Nat}{s:Sm}(h0:0<i)(hm:i+1=many)(hl:i<(odL s.k op).length)(h:(aJ l op many i p 0 s).2.1=0):∃K d,chK l (p+1) 0 s=K/\(odL K op)[i]?=some d/\aJ l op many i p 0 s=rd l (p+1) 0 { s with k:=K } d:=by
 obtain⟨d,hd⟩:∃d,(odL (chK l (p+1) (chk (decide (pk 3 l p 0=[44])) 0) s) op)[i]?=some d:=⟨_,UF (by rw[vW];exact hl)⟩
 have key:aJ l op many i p 0 s=rd l (p+1) (chk (decide (pk 3 l p 0=[44])) 0) { s with k:=chK l (p+1) (chk (decide (pk 3 l p 0=[44])) 0) s } d:=by
  unfold aJ;dsimp only;rw[if_pos h0,if_pos h0,if_pos hm];dsimp only;rw[hd]
 have he:chk (decide (pk 3 l p 0=[44])) 0=0:=by rw[key] at h;exact EM h
 rw[he] at key hd;exact⟨_,d,rfl,hd,key⟩
theorem qH{op:Int}{p:Nat}{s:Sm}(hl:0<(odL s.k op).length):∃K d,chK l p 0 s=K/\(odL K op)[0]?=some d/\aJ l op 1 0 p 0 s=rd l p 0 { s with k:=K } d:=by
 obtain⟨d,hd⟩:∃d,(odL (chK l p 0 s) op)[0]?=some d:=⟨_,UF (by rw[vW];exact hl)⟩
 exact⟨_,d,rfl,hd,lL rfl rfl hd⟩
theorem Gy{p:Nat}{s:Sm}(h:s.k=1):chK l p 0 s=2\/(chK l p 0 s=1/\¬(s.u=true/\s.o=0)):=by
 unfold chK;split;·exact .inl rfl
 ·rename_i g;rw[if_neg (fun q=>by omega)];exact .inr ⟨h,fun q=>g ⟨h,.inr q⟩⟩
theorem Kq{p:Nat}{s:Sm}(h:s.k=7):chK l p 0 s=6\/chK l p 0 s=7:=by
 unfold chK;rw[if_neg (fun q=>by omega)];split;·exact .inl rfl
 ·exact .inr h
theorem Q5:∀e∈L.nameTbl,(e.2.1.1=1/\0<=e.2.1.2.1/\e.2.1.2.1<12/\(e.2.1.2.2=true->e.2.1.2.1=0\/8<=e.2.1.2.1/\e.2.1.2.1<=10))\/((e.2.1.1=3\/e.2.1.1=4\/e.2.1.1=8\/e.2.1.1=9\/e.2.1.1=10)/\e.2.1.2.1=0/\e.2.1.2.2=false)\/(e.2.1.1=5/\0<=e.2.1.2.1/\e.2.1.2.1<4/\e.2.1.2.2=false)\/(e.2.1.1=7/\0<=e.2.1.2.1/\e.2.1.2.1<16):=by decide +kernel
theorem OA{s:Str}(h:(L.ofR s).2.2.2.1=true):∃k o u,L.ofR s=(k,o,u,true,())/\((k=1/\0<=o/\o<12/\(u=true->o=0\/8<=o/\o<=10))\/((k=3\/k=4\/k=8\/k=9\/k=10)/\o=0/\u=false)\/(k=5/\0<=o/\o<4/\u=false)\/(k=7/\0<=o/\o<16)):=by
 unfold L.ofR at h⊢;cases hf:L.nameTbl.find? fun e=>e.2.2 == s with
 |none=>rw[hf] at h;cases h
 |some e=>exact⟨e.2.1.1,e.2.1.2.1,e.2.1.2.2,rfl,Q5 e (List.mem_of_find?_eq_some hf)⟩
include hw in
theorem JY{k o:Int}{u:Bool}(hk:(k=1/\0<=o/\o<12/\(u=true->o=0\/8<=o/\o<=10))\/((k=3\/k=4\/k=8\/k=9\/k=10)/\o=0/\u=false)\/(k=5/\0<=o/\o<4/\u=false)\/(k=7/\0<=o/\o<16))(p:Nat){e:Int}
  (h:(aO l o (odL k o).length (odL k o).length 0 (p,e,⟨k,o,0,0,0,u,[],[]⟩)).2.1=0):∃t,GoodS (aO l o (odL k o).length (odL k o).length 0 (p,e,⟨k,o,0,0,0,u,[],[]⟩)).2.2 t:=by
 have hnil:∀{α:Type}{x:α}{i:Nat},([]:List α)[i]?=some x->False:=fun h=>by simp at h
 rcases hk with⟨rfl,ho,ho2,hu⟩|⟨hk,rfl,rfl⟩|⟨rfl,ho,ho2,rfl⟩|⟨rfl,ho,ho2⟩
 ·by_cases h0:o=0
  ·subst h0;have e1:(odL 1 0).length=2:=rfl;rw[e1] at h⊢;simp only[aO] at h⊢;generalize hr0:aJ l 0 2 0 p e ⟨1,0,0,0,0,u,[],[]⟩=r0 at h⊢;generalize hr1:aJ l 0 2 1 r0.1 r0.2.1 r0.2.2=r1 at h⊢;have z0:r0.2.1=0:=by rw[<- hr1] at h;exact bI h
   have ze:e=0:=by rw[<- hr0] at z0;exact bI z0
   subst ze;rw[sN (d:=.A) (by decide) rfl] at hr0;obtain⟨a,ha,hs⟩:=qB (l:=l) (p:=p) (s:=⟨1,0,0,0,0,u,[],[]⟩) (by rw[hr0];exact z0);rw[hr0] at hs;rw[z0,hs] at hr1;obtain⟨K,d,hK,hd,hst⟩:=wH (l:=l) (op:=0) (many:=2) (i:=1) (p:=r0.1) (s:=⟨1,0,a,0,0,u,[],[]⟩) (by decide) rfl (by show 1<2;decide) (by rw[hr1];exact h);rw[hst] at hr1;rcases Gy (l:=l) (p:=r0.1+1) (s:=⟨1,0,a,0,0,u,[],[]⟩) rfl with c|⟨c,hn⟩
   ·rw[hK] at c;subst c;obtain rfl:d=.E:=by have hd:some Od.E=some d:=hd;exact(Ux hd).symm
    obtain⟨t,ht,hs2⟩:=qC hw (p:=r0.1+1) (e:=0) (s:=⟨2,0,a,0,0,u,[],[]⟩) (by show(rd l (r0.1+1) 0 _ .E).2.1=0;rw[hr1];exact h);have hs2:(rd l (r0.1+1) 0 ⟨2,0,a,0,0,u,[],[]⟩ .E).2.2=_:=hs2;rw[hr1] at hs2;rw[hs2];exact⟨some t,.ins1 (.movi ha) (.inl rfl) ht⟩
   ·rw[hK] at c;subst c;obtain rfl:d=.C:=by have hd:some Od.C=some d:=hd;exact(Ux hd).symm
    obtain⟨c,hc,hs2⟩:=EL (l:=l) (p:=r0.1+1) (e:=0) (s:=⟨1,0,a,0,0,u,[],[]⟩) (by rw[hr1];exact h);rw[hr1] at hs2;rw[hs2];have:u=false:=by cases u;rfl;exact absurd ⟨rfl,rfl⟩ hn
    subst this;exact⟨none,.ins0 (.mov ha hc) (.inl rfl)⟩
  ·have hop:0<o:=by omega
   have e1:(odL 1 o).length=3:=by rw[fw hop];rfl
   rw[e1] at h⊢;simp only[aO] at h⊢;generalize hr0:aJ l o 3 0 p e ⟨1,o,0,0,0,u,[],[]⟩=r0 at h⊢;generalize hr1:aJ l o 3 1 r0.1 r0.2.1 r0.2.2=r1 at h⊢;generalize hr2:aJ l o 3 2 r1.1 r1.2.1 r1.2.2=r2 at h⊢;have z1:r1.2.1=0:=by rw[<- hr2] at h;exact bI h
   have z0:r0.2.1=0:=by rw[<- hr1] at z1;exact bI z1
   have ze:e=0:=by rw[<- hr0] at z0;exact bI z0
   subst ze;rw[sN (d:=.A) (by decide) (by rw[fw hop];rfl)] at hr0;obtain⟨a,ha,hs⟩:=qB (l:=l) (p:=p) (s:=⟨1,o,0,0,0,u,[],[]⟩) (by rw[hr0];exact z0);rw[hr0] at hs;rw[z0,hs] at hr1;rw[Ml (d:=.B) (by decide) (by decide) (by rw[fw hop];rfl) (by rw[hr1];exact z1)] at hr1;obtain⟨b,hb,hs1⟩:=LP (l:=l) (p:=r0.1+1) (s:=⟨1,o,a,0,0,u,[],[]⟩) (by rw[hr1];exact z1);rw[hr1] at hs1;rw[z1,hs1] at hr2;obtain⟨K,d,hK,hd,hst⟩:=wH (l:=l) (op:=o) (many:=3) (i:=2) (p:=r1.1) (s:=⟨1,o,a,b,0,u,[],[]⟩) (by decide) rfl (by show 2<(odL 1 o).length;rw[e1];decide) (by rw[hr2];exact h);rw[hst] at hr2;have hu':u=true->8<=o/\o<=10:=fun q=>(hu q).resolve_left h0
   rcases Gy (l:=l) (p:=r1.1+1) (s:=⟨1,o,a,b,0,u,[],[]⟩) rfl with c|⟨c,hn⟩
   ·rw[hK] at c;subst c;rw[ww hop] at hd;obtain rfl:d=.E:=by have hd:some Od.E=some d:=hd;exact(Ux hd).symm
    obtain⟨t,ht,hs2⟩:=qC hw (p:=r1.1+1) (e:=0) (s:=⟨2,o,a,b,0,u,[],[]⟩) (by show(rd l (r1.1+1) 0 _ .E).2.1=0;rw[hr2];exact h);have hs2:(rd l (r1.1+1) 0 ⟨2,o,a,b,0,u,[],[]⟩ .E).2.2=_:=hs2;rw[hr2] at hs2;rw[hs2];exact⟨some t,.ins1 (.imm hop ho2 ha hb hu') (.inl rfl) ht⟩
   ·rw[hK] at c;subst c;rw[fw hop] at hd;obtain rfl:d=.C:=by have hd:some Od.C=some d:=hd;exact(Ux hd).symm
    obtain⟨c,hc,hs2⟩:=EL (l:=l) (p:=r1.1+1) (e:=0) (s:=⟨1,o,a,b,0,u,[],[]⟩) (by rw[hr2];exact h);rw[hr2] at hs2;rw[hs2];exact⟨none,.ins0 (.reg hop ho2 ha hb hc hu') (.inl rfl)⟩
 ·rcases hk with rfl|rfl|rfl|rfl|rfl
  ·have e1:(odL 3 0).length=1:=rfl;rw[e1] at h⊢;simp only[aO] at h⊢;have ze:e=0:=bI h;subst ze;obtain⟨K,d,hK,hd,hst⟩:=qH (l:=l) (op:=0) (p:=p) (s:=⟨3,0,0,0,0,false,[],[]⟩) (by show 0<1;decide);rw[eB (show(3:Int)≠1 by decide) (show(3:Int)≠7 by decide)] at hK;have hK:3=K:=hK;subst hK;obtain rfl:d=.A:=by have hd:some Od.A=some d:=hd;exact(Ux hd).symm
   rw[hst] at h⊢;obtain⟨a,ha,hs⟩:=qB h;rw[hs];exact⟨none,.ins0 (.hi ha) (.inr (.inl rfl))⟩
  ·have e1:(odL 4 0).length=1:=rfl;rw[e1] at h⊢;simp only[aO] at h⊢;have ze:e=0:=bI h;subst ze;obtain⟨K,d,hK,hd,hst⟩:=qH (l:=l) (op:=0) (p:=p) (s:=⟨4,0,0,0,0,false,[],[]⟩) (by show 0<1;decide);rw[eB (show(4:Int)≠1 by decide) (show(4:Int)≠7 by decide)] at hK;have hK:4=K:=hK;subst hK;obtain rfl:d=.A:=by have hd:some Od.A=some d:=hd;exact(Ux hd).symm
   rw[hst] at h⊢;obtain⟨a,ha,hs⟩:=qB h;rw[hs];exact⟨none,.ins0 (.fl ha) (.inr (.inr (.inl rfl)))⟩
  ·have e1:(odL 8 0).length=2:=rfl;rw[e1] at h⊢;simp only[aO] at h⊢;generalize hr0:aJ l 0 2 0 p e ⟨8,0,0,0,0,false,[],[]⟩=r0 at h⊢;generalize hr1:aJ l 0 2 1 r0.1 r0.2.1 r0.2.2=r1 at h⊢;have z0:r0.2.1=0:=by rw[<- hr1] at h;exact bI h
   have ze:e=0:=by rw[<- hr0] at z0;exact bI z0
   subst ze;rw[sN (d:=.A) (by decide) rfl] at hr0;obtain⟨a,ha,hs⟩:=qB (l:=l) (p:=p) (s:=⟨8,0,0,0,0,false,[],[]⟩) (by rw[hr0];exact z0);rw[hr0] at hs;rw[z0,hs] at hr1;obtain⟨K,d,hK,hd,hst⟩:=wH (l:=l) (op:=0) (many:=2) (i:=1) (p:=r0.1) (s:=⟨8,0,a,0,0,false,[],[]⟩) (by decide) rfl (by show 1<2;decide) (by rw[hr1];exact h);rw[hst] at hr1;rw[eB (show(8:Int)≠1 by decide) (show(8:Int)≠7 by decide)] at hK;have hK:8=K:=hK;subst hK;obtain rfl:d=.Q:=by have hd:some Od.Q=some d:=hd;exact(Ux hd).symm
   obtain⟨t,ht,hs2⟩:=qC hw (p:=r0.1+1+1) (e:=chk (decide (pk 3 l (r0.1+1) 0=[61])) 0) (s:=⟨8,0,a,0,0,false,[],[]⟩) (by show(rd l (r0.1+1) 0 _ .Q).2.1=0;rw[hr1];exact h);have hs2:(rd l (r0.1+1) 0 ⟨8,0,a,0,0,false,[],[]⟩ .Q).2.2=_:=hs2;rw[hr1] at hs2;rw[hs2];exact⟨some t,.load ha ht⟩
  ·have e1:(odL 9 0).length=1:=rfl;rw[e1] at h⊢;simp only[aO] at h⊢;have ze:e=0:=bI h;subst ze;obtain⟨K,d,hK,hd,hst⟩:=qH (l:=l) (op:=0) (p:=p) (s:=⟨9,0,0,0,0,false,[],[]⟩) (by show 0<1;decide);rw[eB (show(9:Int)≠1 by decide) (show(9:Int)≠7 by decide)] at hK;have hK:9=K:=hK;subst hK;obtain rfl:d=.E:=by have hd:some Od.E=some d:=hd;exact(Ux hd).symm
   rw[hst] at h⊢;obtain⟨t,ht,hs⟩:=qC hw (p:=p) (e:=0) (s:=⟨9,0,0,0,0,false,[],[]⟩) h;have hs:(rd l p 0 ⟨9,0,0,0,0,false,[],[]⟩ .E).2.2=_:=hs;rw[hs];exact⟨some t,.word ht⟩
  ·have e1:(odL 10 0).length=1:=rfl;rw[e1] at h⊢;simp only[aO] at h⊢;have ze:e=0:=bI h;subst ze;obtain⟨K,d,hK,hd,hst⟩:=qH (l:=l) (op:=0) (p:=p) (s:=⟨10,0,0,0,0,false,[],[]⟩) (by show 0<1;decide);rw[eB (show(10:Int)≠1 by decide) (show(10:Int)≠7 by decide)] at hK;have hK:10=K:=hK;subst hK;obtain rfl:d=.N:=by have hd:some Od.N=some d:=hd;exact(Ux hd).symm
   rw[hst] at h⊢;obtain⟨a,ha,hs⟩:=SQ h;rw[hs];exact⟨none,.exp ha⟩
 ·have e1:(odL 5 o).length=3:=rfl;rw[e1] at h⊢;simp only[aO] at h⊢;generalize hr0:aJ l o 3 0 p e ⟨5,o,0,0,0,false,[],[]⟩=r0 at h⊢;generalize hr1:aJ l o 3 1 r0.1 r0.2.1 r0.2.2=r1 at h⊢;generalize hr2:aJ l o 3 2 r1.1 r1.2.1 r1.2.2=r2 at h⊢;have z1:r1.2.1=0:=by rw[<- hr2] at h;exact bI h
  have z0:r0.2.1=0:=by rw[<- hr1] at z1;exact bI z1
  have ze:e=0:=by rw[<- hr0] at z0;exact bI z0
  subst ze;rw[sN (d:=.A) (by decide) rfl] at hr0;obtain⟨a,ha,hs⟩:=qB (l:=l) (p:=p) (s:=⟨5,o,0,0,0,false,[],[]⟩) (by rw[hr0];exact z0);rw[hr0] at hs;rw[z0,hs] at hr1;rw[Ml (d:=.B) (by decide) (by decide) rfl (by rw[hr1];exact z1)] at hr1;obtain⟨b,hb,hs1⟩:=LP (l:=l) (p:=r0.1+1) (s:=⟨5,o,a,0,0,false,[],[]⟩) (by rw[hr1];exact z1);rw[hr1] at hs1;rw[z1,hs1] at hr2;obtain⟨K,d,hK,hd,hst⟩:=wH (l:=l) (op:=o) (many:=3) (i:=2) (p:=r1.1) (s:=⟨5,o,a,b,0,false,[],[]⟩) (by decide) rfl (by show 2<(odL 5 o).length;rw[e1];decide) (by rw[hr2];exact h);rw[hst] at hr2;rw[eB (show(5:Int)≠1 by decide) (show(5:Int)≠7 by decide)] at hK;have hK:5=K:=hK;subst hK;obtain rfl:d=.E:=by have hd:some Od.E=some d:=hd;exact(Ux hd).symm
  obtain⟨t,ht,hs2⟩:=qC hw (p:=r1.1+1) (e:=0) (s:=⟨5,o,a,b,0,false,[],[]⟩) (by show(rd l (r1.1+1) 0 _ .E).2.1=0;rw[hr2];exact h);have hs2:(rd l (r1.1+1) 0 ⟨5,o,a,b,0,false,[],[]⟩ .E).2.2=_:=hs2;rw[hr2] at hs2;rw[hs2];exact⟨some t,.ins1 (.mem ho ho2 ha hb) (.inr (.inl rfl)) ht⟩
 ·have e1:(odL 7 o).length=1:=rfl;rw[e1] at h⊢;simp only[aO] at h⊢;have ze:e=0:=bI h;subst ze;obtain⟨K,d,hK,hd,hst⟩:=qH (l:=l) (op:=o) (p:=p) (s:=⟨7,o,0,0,0,u,[],[]⟩) (by show 0<1;decide);rw[hst] at h⊢;rcases Kq (l:=l) (p:=p) (s:=⟨7,o,0,0,0,u,[],[]⟩) rfl with c|c
  ·rw[hK] at c;subst c;obtain rfl:d=.C:=by have hd:some Od.C=some d:=hd;exact(Ux hd).symm
   obtain⟨c,hc,hs⟩:=EL h;rw[hs];exact⟨none,.ins0 (.br ⟨ho,ho2⟩ hc) (.inr (.inr (.inr rfl)))⟩
  ·rw[hK] at c;subst c;obtain rfl:d=.E:=by have hd:some Od.E=some d:=hd;exact(Ux hd).symm
   obtain⟨t,ht,hs⟩:=qC hw (p:=p) (e:=0) (s:=⟨7,o,0,0,0,u,[],[]⟩) h;have hs:(rd l p 0 ⟨7,o,0,0,0,u,[],[]⟩ .E).2.2=_:=hs;rw[hs];exact⟨some t,.ins1 (.jmp ⟨ho,ho2⟩) (.inr (.inr rfl)) ht⟩
end
end Rv
namespace Rv
open Go
abbrev wfT(l:List aj):Prop:=∀t∈l,0<=t.2.2.2.1/\t.2.2.2.1<=4294967295
theorem BD{l:List aj}{lb:Str}{r:Nat×Int×Sm}(he:iZ r.2.1):(∃e,(e=22\/e=23\/e=24)/\mG l lb r=noP e)\/(r.2.1=0/\mG l lb r=smP lb r.2.2):=by
 unfold mG uT;have h:=ib (b:=decide (l.length<=r.1)) he;generalize hx:chk (decide (l.length<=r.1)) r.2.1=e' at h;by_cases h0:e'=0;·subst h0;rw[if_neg (by decide)];exact .inr ⟨(fB hx).1,rfl⟩
 ·rw[if_pos h0];exact .inl ⟨e',h.resolve_left h0,rfl⟩
theorem rD{l:List aj}(hw:wfT l){lb:Str}{p:Nat}{e:Int}(he:e=0\/e=22):(∃x,(x=22\/x=23\/x=24)/\jr l lb p e=noP x)\/(e=0/\∃s t,GoodS s t/\jr l lb p e=smP lb s):=by
 unfold jr;by_cases h:e=0/\p<l.length
 ·rw[if_pos h];obtain⟨rfl,hp⟩:=h;dsimp only;generalize l.getD p aR=t;by_cases hf:(L.ofR t.2.2.1).2.2.2.1=true
  ·obtain⟨k,o,u,e1,hk⟩:=OA hf;rw[e1];dsimp only;generalize hq:chk (true&&(decide (t.1=4) == decide (k=9\/k=10))&&(decide (t.1=4)||decide (t.1=1))) 0=q;have hqe:iZ q:=by rw[<- hq];exact ib (.inl rfl)
   rcases BD (l:=l) (lb:=lb) (Aw (l:=l) (op:=o) (many:=(odL k o).length) (odL k o).length 0 (p+1,q,⟨k,o,0,0,0,u,[],[]⟩) hqe) with h|⟨h1,h2⟩;·exact .inl h
   ·obtain⟨t',ht⟩:=JY hw hk (p+1) h1;exact .inr ⟨rfl,_,t',ht,h2⟩
  ·have hf:(L.ofR t.2.2.1).2.2.2.1=false:=by simpa using hf
   rw[hf];have hq:chk (false&&(decide (t.1=4) == decide ((L.ofR t.2.2.1).1=9\/(L.ofR t.2.2.1).1=10))&&(decide (t.1=4)||decide (t.1=1))) 0=22:=rfl;rw[hq];rcases BD (l:=l) (lb:=lb) (Aw (l:=l) (op:=(L.ofR t.2.2.1).2.1) (many:=(odL (L.ofR t.2.2.1).1 (L.ofR t.2.2.1).2.1).length) (odL (L.ofR t.2.2.1).1 (L.ofR t.2.2.1).2.1).length 0 (p+1,22,⟨(L.ofR t.2.2.1).1,(L.ofR t.2.2.1).2.1,0,0,0,(L.ofR t.2.2.1).2.2.1,[],[]⟩) (.inr (.inl rfl))) with h|⟨h1,_⟩;·exact .inl h
   ·exfalso;have sticky:∀(m i:Nat) (r:Nat×Int×Sm) (op:Int) (many:Nat),(aO l op many m i r).2.1=0->r.2.1=0:=by
     intro m
     induction m with
     |zero=>intro i r op many h;exact h
     |succ m ih=>intro i r op many h;exact bI (ih (i+1) _ op many h)
    have h9:(22:Int)=0:=sticky _ _ _ _ _ h1;exact absurd h9 (by decide)
 ·rw[if_neg h];unfold uT;rcases he with rfl|rfl
  ·rw[if_neg (by decide)];exact .inr ⟨rfl,_,_,.none,rfl⟩
  ·rw[if_pos (by decide)];exact .inl ⟨22,.inl rfl,rfl⟩
theorem Gf{l:List aj}(hw:wfT l):(∃e,(e=22\/e=23\/e=24)/\mr l=noP e)\/(∃lb s t,(lb=[]\/ax lb=true)/\GoodS s t/\mr l=smP lb s):=by
 unfold mr;split
 ·cases hL:ax (l.getD 0 aR).2.2.1 with
  |true=>
   rcases rD hw (lb:=(l.getD 0 aR).2.2.1) (p:=2) (e:=chk true 0) (.inl rfl) with h|⟨_,s,t,h1,h2⟩;·exact .inl h
   ·exact .inr ⟨_,s,t,.inr hL,h1,h2⟩
  |false=>
   rcases rD hw (lb:=(l.getD 0 aR).2.2.1) (p:=2) (e:=chk false 0) (.inr rfl) with h|⟨h,_⟩;·exact .inl h
   ·exact absurd h (by decide)
 ·rcases rD hw (lb:=[]) (p:=0) (e:=0) (.inl rfl) with h|⟨_,s,t,h1,h2⟩
  ·exact .inl h
  ·exact .inr ⟨_,s,t,.inl rfl,h1,h2⟩
end Rv
namespace Rv
open Go
theorem MF{c:UInt8}{r:Str}{d:Nat}{q:Int}{t:Str}{v:Int}(h:jb c r=.ok (d,q,t,v)):0<=v/\v<=4294967295:=by
 unfold jb at h;split at h;·cases h;exact⟨by decide,by decide⟩
 ·split at h
  ·split at h
   ·rename_i v' hv;cases h;have:=SF hv;exact⟨by omega,by omega⟩
   ·cases h
  ·split at h
   ·cases h;exact⟨by decide,by decide⟩
   ·split at h
    ·cases h;exact⟨by decide,by decide⟩
    ·cases h
theorem uJ:∀(n:Nat) (k:Int) (s:Str) (l:List Tok),s.length<=n->aI k s=.ok l->wfT l
 |_,k,[],l,_,h=>by rw[mi] at h;cases h;intro t ht;cases ht
 |0,k,c::r,l,hn,_=>by simp at hn
 |n+1,k,c::r,l,hn,h=>by
  simp only[UN] at hn;rw[eT] at h;split at h;·cases h;intro t ht;cases ht
  ·split at h
   ·exact uJ n (k+1) r l (by omega) h
   ·split at h
    ·cases h
    ·rename_i d q tx v hT;have hv:=MF hT;split at h
     ·cases h
     ·rename_i l' hl;cases h;intro t ht;rcases UG.1 ht with rfl|ht
      ·exact hv
      ·exact uJ n _ _ l' (by simp;omega) hl t ht
theorem FY(s:Str):wfT (bi [] (aI 0 s)).1:=by
 cases h:aI 0 s with
 |error e=>intro t ht;cases ht
 |ok l=>intro t ht;exact uJ s.length 0 s l (Uz _) h t (by simpa[bi] using ht)
theorem Lu(s:Str)(h:Ag (lH s)=0):∃lb m t,(lb=[]\/ax lb=true)/\GoodS m t/\lH s=smP lb m:=by
 unfold lH at h⊢;dsimp only at h⊢;by_cases hy:(bi [] (aI 0 s)).2.1≠0;·rw[if_pos hy] at h;exact absurd h hy
 ·rw[if_neg hy] at h⊢;rcases Gf (FY s) with⟨e,he,hp⟩|hp
  ·rw[hp] at h;have h:e=0:=h;omega
  ·exact hp
def KQ(x:Ln):Prop:=(x.1=[]\/ax x.1=true)/\∃t,GoodS ⟨x.2.1.1,x.2.1.2.1,x.2.1.2.2.1,x.2.1.2.2.2.1,x.2.1.2.2.2.2.1,x.2.1.2.2.2.2.2.1,x.2.1.2.2.2.2.2.2.1,x.2.1.2.2.2.2.2.2.2.1⟩ t
theorem yL:∀(l:List Str) (i:Nat) (r:List Ln),dV i l=.ok r->∀x∈r,KQ x
 |[],i,r,h=>by rw[dV] at h;cases h;intro x hx;cases hx
 |s::l,i,r,h=>by
  rw[dV] at h;split at h;·cases h
  ·rename_i he;have he:Ag (lH s)=0:=by simpa using he
   cases hr:dV (i+1) l with
   |error x=>rw[hr] at h;cases h
   |ok q=>
    rw[hr] at h;cases h;intro x hx;rcases UG.1 hx with rfl|hx;·obtain⟨lb,m,t,h1,h2,h3⟩:=Lu s he;rw[h3];exact⟨h1,t,h2⟩
    ·exact yL l (i+1) q hr x hx
end Rv
namespace Rv
open Go
set_option maxRecDepth 100000
end Rv
namespace Rv
open Go
theorem Me(a:List Int)(ha:a.length<=1000000):Zbm.g a a=some (true,()):=by
 have loop:∀(n m i:Nat),i<=a.length->a.length-i<m->Zbm.l4 n m a a (i:Int)=some (true,()):=by
  intro n m
  induction m with
  |zero=>intro i _ h;omega
  |succ m ih=>
   intro i hi hm;rw[Zbm.l4];simp only[dt];by_cases h:i<a.length;·rw[if_pos (by omega),if_pos (by omega),if_pos (by omega),if_neg (by simp),w64 (by omega)];exact ih (i+1) (by omega) (by omega)
   ·rw[if_neg (by omega)]
 unfold Zbm.g Zbm.f;rw[if_neg (by simp)];exact loop _ _ 0 (by omega) (by omega)
end Rv
namespace Rv
open Go
theorem parsed(s:Str)(hs:s.length<=4096):(fE s).1.length<=s.length/\∀x∈(fE s).1,KQ x:=by
 rw[EG hs];have hl:=(rJ s).1;cases h:dV 0 (dI s) with
 |error e=>exact⟨Nat.zero_le _,fun x hx=>by cases hx⟩
 |ok l=>
  have:=DY _ _ _ h;refine⟨by show([]++l).length<=_;rw[UY];omega,fun x hx=>yL _ _ _ h x (by simpa[uS] using hx)⟩
def Pm(s:Str):Dw:=if(fE s).2.2.1≠0 then wu (fE s).2.1 (fE s).2.2.1 else DI (fE s).1
theorem RB(s:Str)(hs:s.length<=1000000)(h1:(fE s).1.length<=1000)(h2:∀x∈(fE s).1,(eL x).length<=4611686018427387904):Zcb.g s=some (Pm s):=by
 unfold Zcb.g Zcb.f Pm;rw[Cg s hs,Uv];simp only[dt];by_cases h:(fE s).2.2.1=0;·rw[if_neg (by simpa using h),if_neg (by simpa using h),R3 _ h1 h2,Uv]
 ·rw[if_pos (by simpa using h),if_pos (by simpa using h)];rfl
end Rv
namespace Rv
open Go
def x8(v:Int):Tr:=if v<0 then .neg (.num (IntKind.u32.wrap (-v))) else .num (IntKind.u32.wrap v)
theorem Cc(v:Int):(x8 v).post=eU v:=by
 unfold x8 eU;split<;>rfl
theorem sU(v:Int):(Tr.num (IntKind.u32.wrap v)).ok:=by
 show 0<=IntKind.u32.wrap v/\IntKind.u32.wrap v<=4294967295;rw[IntKind.wrap_u32];omega
theorem He(v:Int):iU (x8 v):=by
 unfold x8;split;·exact⟨sU _,trivial,rfl,by show 2<=64;decide⟩
 ·exact⟨sU _,trivial,rfl,by show 1<=64;decide⟩
theorem AC{v:Int}(h:(Tr.num v).ok):(Tr.num v).txt.length<=20:=gY (.num v) h trivial
theorem Cb(v:Int):(x8 v).txt.length<=28/\(x8 v).dep<=8:=by
 unfold x8;split
 ·have:=AC (sU (-v));refine⟨?_,by show 1+(0+if(2:Nat)<2 then 1 else 0)<=8;decide⟩;show(45::brkT (decide ((2:Nat)<2)) (Tr.num (IntKind.u32.wrap (-v))).txt).length<=28;have e:brkT (decide ((2:Nat)<2)) (Tr.num (IntKind.u32.wrap (-v))).txt=(Tr.num (IntKind.u32.wrap (-v))).txt:=rfl
  grind
 ·have:=AC (sU v);exact⟨by omega,Nat.zero_le _⟩
theorem Lj{k:Nat}(hk:k<=1024):iU (.nam (nmR (4*(k:Int))))/\(Tr.nam (nmR (4*(k:Int)))).txt.length<=28/\(Tr.nam (nmR (4*(k:Int)))).dep<=8:=by
 obtain⟨h1,h2,_⟩:=rU hk;refine⟨⟨h1,trivial,?_,by show 1<=64;decide⟩,?_,Nat.zero_le _⟩
 ·show enough 0 [((2:Int),0,nmR (4*(k:Int)),())]=some 1
  grind [enough,zb]
 ·show(nmR (4*(k:Int))).length<=28;omega
def EC(v:Int):Tr:=.bin .add (.nam (nmR 0)) (.num v)
theorem Q8{v:Int}(h:0<=v/\v<=4294967295):iU (EC v)/\(EC v).txt.length<=28/\(EC v).dep<=8:=by
 obtain⟨h1,h2,_⟩:=rU (k:=0) (by decide);have h1:ax (nmR 0)=true:=h1;have h2:(nmR 0).length=5:=h2;have h3:=AC (v:=v) h;refine⟨⟨⟨h1,h⟩,⟨trivial,trivial⟩,?_,by show 3<=64;decide⟩,?_,by show max (0+if(2:Nat)<0 then 1 else 0) (0+if(2:Nat)<0+1 then 1 else 0)<=8;decide⟩
 ·show enough 0 [((2:Int),0,nmR 0,()),((1:Int),v,[],()),((4:Int),0,[],())]=some 1;unfold enough;rw[zb h1];rfl
 ·have e:(EC v).txt=nmR 0++(32::43::32::(Tr.num v).txt):=rfl
  grind
structure nH (x:Snt) (s:Sm) (t:Option Tr):Prop where
 eq:x=(s.k,s.o,s.a,s.b,s.c,s.u,s.e,s.nm,())
 good:GoodS s t
 deep:fQ t
 len:∀d∈odL s.k s.o,(wtx s t d).length<=28
theorem qF{a:Int}(_:rg a):(rn a).length<=28:=UW (ym _) (by decide)
theorem H9{k o a b c:Int}{u:Bool}{t:Tr}(h:bB k o a b c u)(hk:k=2\/k=5\/k=7)(ht:iU t)(hl:t.txt.length<=28)(hd:t.dep<=8):nH (k,o,a,b,c,u,t.post,[],()) ⟨k,o,a,b,c,u,t.post,[]⟩ (some t):=by
 obtain⟨ha,hb,hc⟩:=I6 h;refine⟨rfl,.ins1 h hk ht,fun x hx=>(by grind),fun d hdm=>?_⟩;cases d with
 |A=>exact qF ha
 |B=>exact qF hb
 |C=>exact qF hc
 |E=>exact hl
 |Q=>exfalso;revert hdm;unfold odL;grind
 |N=>exact Nat.zero_le _
theorem Ry{k o a b c:Int}{u:Bool}(h:bB k o a b c u)(hk:k=1\/k=3\/k=4\/k=6):nH (k,o,a,b,c,u,[],[],()) ⟨k,o,a,b,c,u,[],[]⟩ none:=by
 obtain⟨ha,hb,hc⟩:=I6 h;refine⟨rfl,.ins0 h hk,fun x hx=>(by cases hx),fun d hdm=>?_⟩;cases d with
 |A=>exact qF ha
 |B=>exact qF hb
 |C=>exact qF hc
 |E=>exact Nat.zero_le _
 |Q=>show 2<=28;decide
 |N=>exact Nat.zero_le _
theorem AX{t:Tr}(ht:iU t)(hl:t.txt.length<=28)(hd:t.dep<=8):nH (stN 9 t.post) ⟨9,0,0,0,0,false,t.post,[]⟩ (some t):=by
 refine⟨rfl,.word ht,fun x hx=>(by grind),fun d hdm=>?_⟩;have e:odL 9 0=[.E]:=rfl;have hdm:d∈odL 9 0:=hdm;rw[e,UV] at hdm;subst hdm;exact hl
section
variable{ws ss:List Int}{ys:List Sym}(O:OkO ws ss ys)
include O
theorem Ky{i:Nat}(hi:i<ws.length):∃s t,nH (jJ ws ss i) s t:=by
 have hlw:=O.lw;have hat:=O.ok.at hi;have num:∃s t,nH (stN 9 (eU (ws.getD i 0))) s t:=by
  rw[<- Cc]
  grind [AX,He,Cb]
 have nam:∀k:Nat,nmE (4*(k:Int))=(Tr.nam (nmR (4*(k:Int)))).post:=fun k=>rfl
 unfold jJ;rw[if_neg (by omega)];by_cases hm:(i:Int)∈ss
 ·rw[if_pos hm];obtain⟨_,h2,h3⟩:=O.site hm;rw[UL] at h2 h3;by_cases h4:ws.getD i 0 % 4=0
  ·have hk:ws.getD i 0=4*(((ws.getD i 0) / 4).toNat:Int):=by omega
   have⟨g1,g2,g3⟩:=Lj (k:=((ws.getD i 0) / 4).toNat) (by omega);rw[if_pos h4,hk,nam]
   grind [AX]
  ·have⟨g1,g2,g3⟩:=Q8 hat
   have e:nmE 0++eU (ws.getD i 0)++[((4:Int),0,[],())]=(EC (ws.getD i 0)).post:=by rw[Ac hat];rfl
   rw[if_neg h4,e]
   grind [AX]
 ·rw[if_neg hm];rcases(kw hat).2 with e|⟨k,o,a,b,c,m,u,e,g1,g2,g3⟩
  ·grind
  ·have hj:eF ws ss i=if k=7/\0<=(i:Int)+1+m/\(i:Int)+1+m<=ws.length then(4*((i:Int)+1+m),true,()) else(0,false,()):=by
    unfold eF
    grind
   have hk:=jf g1;rw[e];dsimp only;rw[if_neg (by decide)];by_cases k7:k=7
   ·rw[if_pos k7,hj];by_cases hc:k=7/\0<=(i:Int)+1+m/\(i:Int)+1+m<=ws.length
    ·rw[if_pos hc];dsimp only;rw[if_pos rfl];obtain⟨t,ht⟩:∃t:Nat,(i:Int)+1+m=(t:Int):=⟨((i:Int)+1+m).toNat,by omega⟩
     have⟨h1,h2,h3⟩:=Lj (k:=t) (by omega)
     grind [H9]
    grind
   ·rw[if_neg k7];by_cases k2:k=2\/k=5
    ·rw[if_pos k2,<- Cc]
     grind [H9,He,Cb]
    ·rw[if_neg k2]
     grind [Ry]
def yE(x:Ln):Prop:=∃g:GLn,g.ln=x/\fQ g.t/\g.tx.length<=98
omit O in
theorem Cw{x:Snt}{s:Sm}{t:Option Tr}(h:nH x s t):(stx s t).length<=98:=by
 unfold stx;split;·simp
 ·have:=vG [44,32] 28 ((odL s.k s.o).map (wtx s t)) (fun x hx=>by
   obtain⟨d,hd,rfl⟩:=UR.1 hx;exact h.len d hd)
  rw[Vb] at this;have h2:(28+([44,32]:Str).length)*(odL s.k s.o).length<=30*3:=Nat.mul_le_mul (by decide) (wy _ _)
  grind [mtx,nU]
omit O in
theorem Cv{l:Str}(h:ax l=true):yE (l,L.st0 0 [],()):=by
 refine⟨⟨l,⟨0,0,0,0,0,false,[],[]⟩,none,.inr h,.none⟩,rfl,fun x hx=>(by cases hx),?_⟩;unfold ax at h;simp only[UB,UE] at h;have hl:=h.1.1.1.2;show(ltx l ⟨0,0,0,0,0,false,[],[]⟩ none).length<=98;unfold ltx
 grind
theorem Cu:∀x∈dH ws ss ys,yE x:=by
 have hlw:=O.lw;have hsec:∀(k i:Nat),i+k<=ws.length+1->∀x∈iE ws ss ys k i,yE x:=by
  intro k
  induction k with
  |zero=>intro i _ x hx;cases hx
  |succ k ih=>
   intro i h x hx;rcases UK.1 hx with hx|hx
   ·rcases UK.1 hx with hx|hx
    ·rcases UK.1 hx with hx|hx
     ·obtain⟨_,z,hz,_,rfl⟩:=mh _ ys x hx;exact Cv (kM (O.nm z hz))
     grind [Cv,rU]
    ·split at hx
     ·rename_i hi;rw[UV.1 hx];obtain⟨s,t,hs⟩:=Ky O hi;refine⟨⟨[],s,t,.inl rfl,hs.good⟩,?_,hs.deep,?_⟩
      ·show([],(s.k,s.o,s.a,s.b,s.c,s.u,s.e,s.nm,()),())=_;rw[<- hs.eq]
      ·show(ltx [] s t).length<=98;unfold ltx;rw[if_pos rfl];exact Cw hs
     ·cases hx
   grind
 intro x hx;rcases UK.1 hx with hx|hx;·grind
 ·obtain⟨_,z,hz,rfl⟩:=xR ys x hx;have hn:=O.nm z hz;have hs:nH (L.st0 10 z.1) ⟨10,0,0,0,0,false,[],z.1⟩ none:=by
   refine⟨rfl,.exp hn,fun x hx=>(by cases hx),fun d hdm=>?_⟩;have e:odL 10 0=[.N]:=rfl;have hdm:d∈odL 10 0:=hdm;rw[e,UV] at hdm;subst hdm;have:=Jp hn;show z.1.length<=28;omega
  refine⟨⟨[],_,none,.inl rfl,hs.good⟩,rfl,hs.deep,?_⟩;show(ltx [] _ none).length<=98;unfold ltx;rw[if_pos rfl];exact Cw hs
theorem ND(a b:Int)(h:a<b)(y:List Sym):(y.filter fun z=>decide (z.2.1=a)).length+(y.filter fun z=>decide (b<=z.2.1)).length<=(y.filter fun z=>decide (a<=z.2.1)).length:=by
 induction y with
 |nil=>grind
 |cons z y ih=>
  grind
omit O in
theorem xQ(x:Int):∀y:List Sym,(L.linS x y).length=(y.filter fun z=>decide (z.2.1=x)).length
 |[]=>rfl
 |s::r=>by
  rw[L.linS];by_cases h:s.2.1=x;·rw[if_pos h,List.filter_cons_of_pos (by simpa using h),UN,UN,xQ x r]
  ·rw[if_neg h,List.filter_cons_of_neg (by simpa using h),xQ x r]
omit O in
theorem Er:∀y:List Sym,(L.linX y).length=y.length
 |[]=>rfl
 |s::r=>by rw[L.linX,UN,UN,Er r]
theorem Fb:∀k i:Nat,(iE ws ss ys k i).length<=(ys.filter fun z=>decide (4*(i:Int)<=z.2.1)).length+2*k
 |0,i=>Nat.zero_le _
 |k+1,i=>by
  have h1:=Fb k (i+1);have h2:=ND O (4*(i:Int)) (4*((i+1:Nat):Int)) (by omega) ys;rw[iE,UD];unfold sH;rw[UD,UD,xQ]
  grind
theorem xP:(dH ws ss ys).length<=2*ws.length+130:=by
 have hly:=O.ly;have h1:=Fb O (ws.length+1) 0;have h2:=List.length_filter_le (fun z:Sym=>decide (4*((0:Nat):Int)<=z.2.1)) ys
 grind [dH,Er]
omit O in
theorem short_list:∀l:List Ln,(∀x∈l,yE x)->∃g:List GLn,g.map GLn.ln=l/\(∀x∈g,fQ x.t)/\(txL g).length<=99*l.length
 |[],_=>⟨[],rfl,fun x hx=>(by cases hx),Uz _⟩
 |x::l,h=>by
  obtain⟨a,h1,h2,h3⟩:=h x (by simp);obtain⟨g,g1,g2,g3⟩:=short_list l fun y hy=>h y (by simp[hy])
  refine⟨a::g,by grind,fun y hy=>?_,?_⟩;·grind
  ·have e:txL (a::g)=(a.tx++[10])++txL g:=rfl
   grind
omit O in
theorem Bv:∀(l:List GLn) (i:Nat),(∀x∈l,fQ x.t)->dV i (l.map GLn.tx)=.ok (l.map GLn.ln)
 |[],_,_=>rfl
 |x::l,i,h=>by
  rw[UO,dV,(OC x).1 (h x (by simp)),if_neg (show ¬Ag (smP x.lb x.s)≠0 from fun h=>h rfl),Bv l (i+1) fun y hy=>h y (by simp[hy])];rfl
theorem MB:∃s:Str,s.length<=262144/\Zdl.g (dH ws ss ys)=some (s,0,0,())/\fE s=(dH ws ss ys,0,0,()):=by
 have hlw:=O.lw;have hl:=xP O;obtain⟨g,g1,g2,g3⟩:=short_list _ (Cu O);have hgl:g.length=(dH ws ss ys).length:=by grind
 refine⟨txL g,by omega,?_,?_⟩;·grind [Bb]
 ·unfold fE;rw[if_neg (by omega),BU,Vb,if_neg (by omega),Bv g 0 g2,g1];simp[uS]
end
end Rv
namespace Rv
open Go
theorem NJ(y:List Int)(s:Int)(hy:y.Pairwise (· < ·))(hl:y.length<=1000000)(n:Nat):∀(m i j:Nat),i<=j->j<=y.length->j-i<m->(∀t,t<i->y.getD t 0<s)->(∀t,j<=t->t<y.length->¬y.getD t 0<s) ->
  ∃k,Zbn.l3 n m y s (y.length:Int) (i:Int) (j:Int)=some (k,decide (s∈y),()):=by
 intro m
 induction m with
 |zero=>intro i j _ _ h;omega
 |succ m ih=>
  intro i j hij hj hm h1 h2;rw[Zbn.l3];have hmid:IntKind.i64.wrap ((IntKind.u64.wrap (IntKind.i64.wrap ((i:Int)+(j:Int)))).fdiv (2 ^ (min (1:Int).toNat IntKind.u64.bits)))=(((i+j) / 2:Nat):Int):=by
   show IntKind.i64.wrap ((IntKind.u64.wrap (IntKind.i64.wrap ((i:Int)+(j:Int)))).fdiv 2)=_;rw[w64 (x:=(i:Int)+(j:Int)) (by omega),Int.fdiv_eq_ediv_of_nonneg _ (by decide),CF (by omega),w64 (by omega)];omega
  have get:∀t,t<y.length->y.getD t 0∈y:=fun t ht=>by rw[UH,UF ht];exact Vg ht
  have ord:∀a b,a<b->b<y.length->y.getD a 0<y.getD b 0:=fun a b hab hb=>by
   have:=List.pairwise_iff_getElem.1 hy a b (by omega) hb hab;rw[UH,UF (by omega),UH,UF hb];exact this
  rw[hmid];by_cases h:i<j
  ·rw[if_pos (by simpa using h),if_pos ⟨by omega,by omega⟩,UL];generalize hq:(i+j) / 2=q;have hless:Zdq.g (y.getD q 0) s=some (decide (y.getD q 0<s),()):=by
    unfold Zdq.g Zdq.f Zdp.g Zdp.f;rw[Uv];dsimp only;rw[if_neg (by simp)]
   rw[hless,Uv];dsimp only;by_cases hlt:y.getD q 0<s
   ·rw[if_pos (decide_eq_true hlt),w64 (by omega),show(q:Int)+1=((q+1:Nat):Int) by omega];refine ih (q+1) j (by omega) hj (by omega) (fun t ht=>?_) h2;by_cases e:t=q
    ·rw[e];exact hlt
    ·have:=ord t q (by omega) (by omega);omega
   ·rw[if_neg (by simpa using hlt)];refine ih i q (by omega) (by omega) (by omega) h1 fun t ht htl=>?_
    by_cases e:t=q;·rw[e];exact hlt
    ·have:=ord q t (by omega) htl;omega
  ·obtain rfl:i=j:=by omega
   have hmem:s∈y↔i<y.length/\y.getD i 0=s:=by
    constructor
    ·intro hs;obtain⟨t,ht,e⟩:=List.getElem_of_mem hs;have e':y.getD t 0=s:=by rw[UH,UF ht];exact e
     rcases Nat.lt_trichotomy t i with hti|rfl|hti;·have:=h1 t hti;omega
     ·exact⟨ht,e'⟩
     ·have a1:=h2 i (Uz _) (by omega);have a2:=ord i t hti ht;omega
    ·rintro⟨hi,e⟩;rw[<- e];exact get i hi
   rw[if_neg (by simp)];by_cases hl2:i<y.length
   ·rw[if_pos (by simpa using hl2),if_pos ⟨by omega,by omega⟩,UL];by_cases e:y.getD i 0=s
    ·rw[if_neg (by simpa using e),decide_eq_true (hmem.2 ⟨hl2,e⟩)];exact⟨_,rfl⟩
    ·rw[if_pos (by simpa using e),if_pos ⟨by omega,by omega⟩];unfold Zdr.g Zdr.f;rw[Uv,Uv];dsimp only;rw[if_neg (by simp),decide_eq_false (fun h=>e (hmem.1 h).2)];exact⟨_,rfl⟩
   ·rw[if_neg (by simpa using hl2),decide_eq_false (fun h=>hl2 (hmem.1 h).1)];exact⟨_,rfl⟩
theorem Sc(y:List Int)(s:Int)(hy:y.Pairwise (· < ·))(hl:y.length<=1000000):∃k,Zbn.g y s=some (k,decide (s∈y),()):=by
 unfold Zbn.g Zbn.f;exact NJ y s hy hl _ _ 0 y.length (by omega) (by omega) (by omega) (fun t h=>by omega) (fun t h h2=>by omega)
theorem O5{B:Int}:∀{l:List Int},l.Pairwise (· < ·)->(∀x∈l,0<=x/\x<B)->(l.length:Int)<=B\/l=[]
 |[],_,_=>.inr rfl
 |x::l,h,hb=>by
  refine .inl ?_;have key:∀(l:List Int) (a:Int),(a::l).Pairwise (· < ·)->(∀x∈a::l,x<B)->(l.length:Int)+a<B:=by
   intro l
   induction l with
   |nil=>intro a _ hb;have:=hb a (by simp);simp;omega
   |cons y l ih=>
    intro a h hb;have h':=List.pairwise_cons.1 h;have h1:=h'.1 y (by simp);have h2:=ih y h'.2 fun x hx=>hb x (by simp[hx])
    rw[UN];omega
  have h1:=key l x h fun y hy=>(hb y hy).2
  have h2:=(hb x (by simp)).1;rw[UN];omega
section
variable{ws ss:List Int}{ys:List Sym}(O:OkO ws ss ys)
include O
theorem GZ:∀(k i:Nat) (acc:List Ln),i+k<=ws.length+1->L.linI (Zbn.g (plR ws ss)) Zbd.g (Zax.g ws ss ys) ys ws.length k (i:Int) acc=some (acc++iE ws ss ys k i)
 |0,i,acc,_=>by rw[L.linI,iE,UU]
 |k+1,i,acc,h=>by
  have hlw:=O.lw;have hpl:(plR ws ss).length<=1000000:=by
   rcases O5 (B:=5000) (Hw ws ss) fun x hx=>(by obtain⟨k,rfl,hk⟩:=LB O hx;omega) with h|h
   ·omega
   ·rw[h];simp
  obtain⟨y,hy⟩:=Sc (plR ws ss) (4*(i:Int)) (Hw ws ss) hpl;rw[L.linI,hy];dsimp only;rw[Kz];have e1:(if decide (4*(i:Int)∈plR ws ss)=true then some [(nmR (4*(i:Int)),L.st0 0 [],())] else some []:Option (List Ln))=some (if 4*(i:Int)∈plR ws ss then[(nmR (4*(i:Int)),L.st0 0 [],())] else[]):=by
   by_cases hm:4*(i:Int)∈plR ws ss;·rw[if_pos (decide_eq_true hm),if_pos hm]
   ·rw[if_neg (by simpa using hm),if_neg hm]
  have e2:(if(i:Int)<(ws.length:Int) then some [([],jJ ws ss i,())] else some []:Option (List Ln))=some (if i<ws.length then[([],jJ ws ss i,())] else[]):=by
   by_cases hm:i<ws.length;·rw[if_pos (by omega),if_pos hm]
   ·rw[if_neg (by omega),if_neg hm]
  dsimp only;rw[e1];dsimp only;rw[DX O.ok ys i (by omega)];dsimp only;rw[e2];dsimp only;rw[show(i:Int)+1=((i+1:Nat):Int) by omega,GZ k (i+1) _ (by omega),iE];unfold sH;simp only[UM]
theorem Kw:Zer.g ws ss ys=some (dH ws ss ys,0,()):=by
 have hlw:=O.lw;have hly:=O.ly;have hll:=xP O;unfold Zer.g L.linesO;rw[Hl O];dsimp only;rw[if_pos rfl,Kv O];dsimp only;rw[if_pos rfl,if_pos ⟨by omega,by omega⟩,show(0:Int)=((0:Nat):Int) from rfl,GZ O (ws.length+1) 0 [] (by omega)];dsimp only;rw[UY];show(if(dH ws ss ys).length<=1000000 then some (dH ws ss ys,_,()) else none)=_;rw[if_pos (by omega)]
theorem DV(hw:ws.length<=400):∃s:Str,s.length<=262144/\Zbt.g ws ss ys=some (s,0,())/\Zbz.g s=some (dH ws ss ys,0,0,())/\Zcb.g s=some (ws,ss,ys,0,0,()):=by
 obtain⟨s,h1,h2,h3⟩:=MB O;have hll:=xP O;have hsh:∀x∈dH ws ss ys,(eL x).length<=4611686018427387904:=fun x hx=>by
  obtain⟨g,rfl,_,_⟩:=Cu O x hx;have:(eL g.ln).length<=64:=(KR g.hg).1;omega
 refine⟨s,h1,?_,by rw[Cg s (by omega),h3],?_⟩;·unfold Zbt.g Zbt.f;rw[Kw O,Uv];dsimp only;rw[if_neg (by simp),h2];rfl
 ·have e:=RB s (by omega) (by rw[h3];show(dH ws ss ys).length<=1000;omega) (by rw[h3];exact hsh);rw[e];unfold Pm;rw[h3];dsimp only;rw[if_neg (fun h=>h rfl),M3 O]
end
end Rv
namespace Rv
open Go
theorem Ia:Zbu.g=some (true,()):=by decide +kernel
end Rv
