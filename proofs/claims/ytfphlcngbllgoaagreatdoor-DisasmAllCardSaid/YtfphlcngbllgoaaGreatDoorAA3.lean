/- Texts put together. -/
import Derived.Test.YtfphlcngbllgoaaGreatDoorAA2
set_option linter.all false
open _root_ renaming Int→I,if_pos→U,if_neg→Y,List→D,Nat→G,congrArg→zae,Option→zaf,Bool→zah,Unit→zai
open Option renaming some→Z,none→zaj
open Go.IntKind renaming u32→H,i64→zac,u64→zak
open Decidable renaming decide→zaa
open Bool renaming true→zab,false→zad
namespace Rv
open Go
theorem Ml(i:I):Zcc.g i 20=Z (zaa (-524288<=i/\i<=524287),()):=by
 unfold Zcc.g Zcc.f;rw[show zac.wrap ((mn (mx 20 1) 32)-1)=19 by decide,Y (by decide),show zac.wrap ((-1:I)*2 ^ (min (19:I).toNat zac.bits))=-524288 by decide,show zac.wrap ((1:I)*2 ^ (min (19:I).toNat zac.bits))=524288 by decide];by_cases h:-524288<=i;·rw[U (decide_eq_true h),Y (by decide)];congr 2;rw[Bool.eq_iff_iff,NH,NH];omega
 ·rw[Y (by simpa using h),decide_eq_false (by omega)]
theorem Mm(i:I):Zcc.g i 24=Z (zaa (-8388608<=i/\i<=8388607),()):=by
 unfold Zcc.g Zcc.f;rw[show zac.wrap ((mn (mx 24 1) 32)-1)=23 by decide,Y (by decide),show zac.wrap ((-1:I)*2 ^ (min (23:I).toNat zac.bits))=-8388608 by decide,show zac.wrap ((1:I)*2 ^ (min (23:I).toNat zac.bits))=8388608 by decide];by_cases h:-8388608<=i;·rw[U (decide_eq_true h),Y (by decide)];congr 2;rw[Bool.eq_iff_iff,NH,NH];omega
 ·rw[Y (by simpa using h),decide_eq_false (by omega)]
set_option maxHeartbeats 2000000 in
theorem vP(k o a b c i:I)(u:zah):∃r,Zab.g k o a b c i u=Z (r,())/\(r=zab↔aP k o a b c u/\bD k o i u):=by
 unfold Zab.g;generalize 1000+k.toNat+o.toNat+a.toNat+b.toNat+c.toNat+i.toNat=n;unfold Zab.f;rw[iq,iq,iq,NE,NE,NE];dsimp only;by_cases ha:rg a
 case neg=>rw[decide_eq_false (show ¬(0<=a/\a<16) from ha),Y (by decide)];exact⟨_,rfl,λh=>(by cases h),λh=>absurd (kN h.1).1 ha⟩
 by_cases hb:rg b
 case neg=>rw[decide_eq_true (show 0<=a/\a<16 from ha),decide_eq_false (show ¬(0<=b/\b<16) from hb),U (by decide),Y (by decide)];exact⟨_,rfl,λh=>(by cases h),λh=>absurd (kN h.1).2.1 hb⟩
 by_cases hc:rg c
 case neg=>rw[decide_eq_true (show 0<=a/\a<16 from ha),decide_eq_true (show 0<=b/\b<16 from hb),decide_eq_false (show ¬(0<=c/\c<16) from hc),U (by decide),U (by decide),U (by decide)];exact⟨_,rfl,λh=>(by cases h),λh=>absurd (kN h.1).2.2 hc⟩
 rw[decide_eq_true (show 0<=a/\a<16 from ha),decide_eq_true (show 0<=b/\b<16 from hb),decide_eq_true (show 0<=c/\c<16 from hc),U (by decide),U (by decide),Y (by decide)];have J:∀cr:zah,(cr=zab↔8<=o/\o<=10)->Zab.j5 n cr k o a b c i u k 0 a 0 0 0 zad=Z (zaa (I0P k o a b c u/\bD k o i u),()):=by
  intro cr hcr;unfold Zab.j5 Zab.j23 Zab.j26 Zab.j25 Zab.j8 Zab.j13 Zab.j15 Zab.j21 Zab.j22;simp only[dt,df,iq,Ml,Mm,NE];have hcr':cr=zad->¬(8<=o/\o<=10):=λh g=>by rw[hcr.2 g] at h;cases h
  have hcr:=hcr.1;clear ha hb hc;have rest:k≠1->k≠2->k≠3->k≠4->k≠5->k≠6->k≠7->¬(I0P k o a b c u/\bD k o i u):=λh1 h2 h3 h4 h5 h6 h7 g=>by have g:=g.1;unfold I0P at g;omega
  by_cases k12:k=1\/k=2
  ·rcases k12 with rfl|rfl
   ·simp only[↓reduceIte,Int.reduceEq];by_cases o1:o<0
    ·simp[I0P,bD,o1]<;>((repeat' split)<;>(first|omega|(refine zae Z (zae (λq=>(q,())) ?_);rw[Bool.eq_iff_iff];simp<;>omega)|(rw[Bool.eq_iff_iff];simp<;>omega)|(cases u<;>simp<;>omega)|(clear rest;simp<;>omega)))
    ·by_cases o2:11<o
     ·simp[I0P,bD,o1,o2]<;>((repeat' split)<;>(first|omega|(refine zae Z (zae (λq=>(q,())) ?_);rw[Bool.eq_iff_iff];simp<;>omega)|(rw[Bool.eq_iff_iff];simp<;>omega)|(cases u<;>simp<;>omega)|(clear rest;simp<;>omega)))
     ·by_cases o3:o=0
      ·subst o3;have:cr=zad:=by cases cr;rfl;have:=hcr rfl;omega
       subst this;cases u<;>simp[I0P,bD]<;>((repeat' split)<;>(first|omega|(refine zae Z (zae (λq=>(q,())) ?_);rw[Bool.eq_iff_iff];simp<;>omega)|(rw[Bool.eq_iff_iff];simp<;>omega)|(cases u<;>simp<;>omega)|(clear rest;simp<;>omega)))
      ·cases cr
       ·have:=hcr' rfl;cases u<;>simp[I0P,bD,o1,o2,o3]<;>((repeat' split)<;>(first|omega|(refine zae Z (zae (λq=>(q,())) ?_);rw[Bool.eq_iff_iff];simp<;>omega)|(rw[Bool.eq_iff_iff];simp<;>omega)|(cases u<;>simp<;>omega)|(clear rest;simp<;>omega)))
       ·have:=hcr rfl;cases u<;>simp[I0P,bD,o1,o2,o3]<;>((repeat' split)<;>(first|omega|(refine zae Z (zae (λq=>(q,())) ?_);rw[Bool.eq_iff_iff];simp<;>omega)|(rw[Bool.eq_iff_iff];simp<;>omega)|(cases u<;>simp<;>omega)|(clear rest;simp<;>omega)))
   ·simp only[↓reduceIte,Int.reduceEq];by_cases o1:o<0
    ·simp[I0P,bD,o1]<;>((repeat' split)<;>(first|omega|(refine zae Z (zae (λq=>(q,())) ?_);rw[Bool.eq_iff_iff];simp<;>omega)|(rw[Bool.eq_iff_iff];simp<;>omega)|(cases u<;>simp<;>omega)|(clear rest;simp<;>omega)))
    ·by_cases o2:11<o
     ·simp[I0P,bD,o1,o2]<;>((repeat' split)<;>(first|omega|(refine zae Z (zae (λq=>(q,())) ?_);rw[Bool.eq_iff_iff];simp<;>omega)|(rw[Bool.eq_iff_iff];simp<;>omega)|(cases u<;>simp<;>omega)|(clear rest;simp<;>omega)))
     ·by_cases o3:o=0
      ·subst o3;have:cr=zad:=by cases cr;rfl;have:=hcr rfl;omega
       subst this;by_cases b0:b=0<;>by_cases c0:c=0<;>cases u<;>simp[I0P,bD,b0,c0]<;>((repeat' split)<;>(first|omega|(refine zae Z (zae (λq=>(q,())) ?_);rw[Bool.eq_iff_iff];simp<;>omega)|(rw[Bool.eq_iff_iff];simp<;>omega)|(cases u<;>simp<;>omega)|(clear rest;simp<;>omega)))
      ·by_cases c0:c=0
       ·cases cr
        ·have:=hcr' rfl;cases u<;>simp[I0P,bD,o1,o2,o3,c0]<;>((repeat' split)<;>(first|omega|(refine zae Z (zae (λq=>(q,())) ?_);rw[Bool.eq_iff_iff];simp<;>omega)|(rw[Bool.eq_iff_iff];simp<;>omega)|(cases u<;>simp<;>omega)|(clear rest;simp<;>omega)))
        ·have:=hcr rfl;cases u<;>simp[I0P,bD,o1,o2,o3,c0]<;>((repeat' split)<;>(first|omega|(refine zae Z (zae (λq=>(q,())) ?_);rw[Bool.eq_iff_iff];simp<;>omega)|(rw[Bool.eq_iff_iff];simp<;>omega)|(cases u<;>simp<;>omega)|(clear rest;simp<;>omega)))
       ·cases cr<;>cases u<;>simp[I0P,bD,o1,o2,o3,c0]<;>((repeat' split)<;>(first|omega|(refine zae Z (zae (λq=>(q,())) ?_);rw[Bool.eq_iff_iff];simp<;>omega)|(rw[Bool.eq_iff_iff];simp<;>omega)|(cases u<;>simp<;>omega)|(clear rest;simp<;>omega)))
  ·have k1:k≠1:=by omega
   have k2:k≠2:=by omega
   simp only[k1,k2,↓reduceIte];by_cases k3:k=3;·subst k3;by_cases o0:o=0<;>by_cases b0:b=0<;>by_cases c0:c=0<;>cases u<;>simp[I0P,bD,o0,b0,c0,@eq_comm I 0 o,@eq_comm I 0 b,@eq_comm I 0 c]<;>((repeat' split)<;>(first|omega|(refine zae Z (zae (λq=>(q,())) ?_);rw[Bool.eq_iff_iff];simp<;>omega)|(rw[Bool.eq_iff_iff];simp<;>omega)|(cases u<;>simp<;>omega)|(clear rest;simp<;>omega)))
   ·by_cases k4:k=4
    ·subst k4;by_cases o0:o=0<;>by_cases b0:b=0<;>by_cases c0:c=0<;>cases u<;>simp[I0P,bD,o0,b0,c0,@eq_comm I 0 o,@eq_comm I 0 b,@eq_comm I 0 c]<;>((repeat' split)<;>(first|omega|(refine zae Z (zae (λq=>(q,())) ?_);rw[Bool.eq_iff_iff];simp<;>omega)|(rw[Bool.eq_iff_iff];simp<;>omega)|(cases u<;>simp<;>omega)|(clear rest;simp<;>omega)))
    ·simp only[k3,k4,↓reduceIte];by_cases k5:k=5
     ·subst k5;by_cases o1:0<=o<;>by_cases o2:o<=3<;>by_cases c0:c=0<;>cases u<;>simp[I0P,bD,o1,o2,c0]<;>((repeat' split)<;>(first|omega|(refine zae Z (zae (λq=>(q,())) ?_);rw[Bool.eq_iff_iff];simp<;>omega)|(rw[Bool.eq_iff_iff];simp<;>omega)|(cases u<;>simp<;>omega)|(clear rest;simp<;>omega)))
     ·simp only[k5,↓reduceIte];by_cases k6:k=6
      ·subst k6;by_cases a0:a=0<;>by_cases b0:b=0<;>simp[I0P,bD,a0,b0]<;>((repeat' split)<;>(first|omega|(refine zae Z (zae (λq=>(q,())) ?_);rw[Bool.eq_iff_iff];simp<;>omega)|(rw[Bool.eq_iff_iff];simp<;>omega)|(cases u<;>simp<;>omega)|(clear rest;simp<;>omega)))
      ·simp only[k6,↓reduceIte];by_cases k7:k=7
       ·subst k7;by_cases o1:0<=o<;>by_cases o2:o<16<;>by_cases a0:a=0<;>by_cases b0:b=0<;>by_cases c0:c=0<;>simp[I0P,bD,a0,b0,c0,o1,o2]<;>((repeat' split)<;>(first|omega|(refine zae Z (zae (λq=>(q,())) ?_);rw[Bool.eq_iff_iff];simp<;>omega)|(rw[Bool.eq_iff_iff];simp<;>omega)|(cases u<;>simp<;>omega)|(clear rest;simp<;>omega)))
       ·simp only[k7,↓reduceIte];rw[decide_eq_false (rest k1 k2 k3 k4 k5 k6 k7)]
 have fin:∀cr:zah,(cr=zab↔8<=o/\o<=10)->∃r,Zab.j5 n cr k o a b c i u k 0 a 0 0 0 zad=Z (r,())/\(r=zab↔aP k o a b c u/\bD k o i u):=λcr h=>⟨_,J cr h,by rw[NH,rZ ha hb hc]⟩
 by_cases h8:8<=o;·rw[U (by simpa using h8)];exact fin _ ⟨λh=>⟨h8,of_decide_eq_true h⟩,λh=>decide_eq_true h.2⟩
 ·rw[Y (by simpa using h8)];exact fin _ ⟨λh=>(by cases h),λh=>absurd h.1 h8⟩
end Rv
namespace Rv
open Go
theorem G6{W X:W32}{a n:G}(h:a+n<=32)(hx:X.toNat<2 ^ n)(hz:dn W a n=0):cz W X a n=W ||| (X <<< a):=jC λj hj=>by
 rw[jQ W X h hj,BitVec.getLsbD_or,BitVec.getLsbD_shiftLeft];by_cases h1:a<=j
 ·by_cases h2:j<a+n
  ·have:=zae (λV:W32=>V.getLsbD (j-a)) hz;simp only[dK W (show n<=32 by omega) (show j-a<32 by omega)] at this;rw[show a+(j-a)=j by omega,decide_eq_true (show j-a<n by omega),Bool.true_and] at this;rw[U ⟨h1,h2⟩,this];simp[hj];omega
  ·have:X.getLsbD (j-a)=zad:=Nat.testBit_lt_two_pow (Ot hx (Nat.pow_le_pow_right (by decide) (by omega)));rw[Y (by omega),this];simp
 ·rw[Y (by omega),decide_eq_true (show j<a by omega)];simp
theorem LP{W:W32}(i:I){a n:G}(h:a+n<=32):cz W (BitVec.ofInt 32 i) a n=cz W (BitVec.ofInt 32 (i % 2 ^ n)) a n:=jC λj hj=>by
 rw[jQ _ _ h hj,jQ _ _ h hj];split
 ·rename_i hc;have e:∀(x:I) (k:G),k<n->(BitVec.ofInt 32 x).getLsbD k=((x % 2 ^ n).toNat).testBit k:=λx k hk=>by
   show(BitVec.ofInt 32 x).toNat.testBit k=_;have h1:(BitVec.ofInt 32 x).toNat % 2 ^ n=(x % 2 ^ n).toNat:=by
    have:=uZ 0 x (n:=n) (by omega);unfold Gn at this;rw[uY 0 _ (by omega) (NL _) (NL _),Nat.sub_self,rY _ (by omega)] at this;omega
   have h2:=Nat.testBit_mod_two_pow (BitVec.ofInt 32 x).toNat n k;rw[h1,decide_eq_true hk,Bool.true_and] at h2;exact h2.symm
  rw[e _ _ (by omega),e _ _ (by omega),Int.emod_emod_of_dvd i (Int.dvd_refl _)]
 ·rfl
theorem Ah{x:I}{n:G}(hn:n<=32)(hx:0<=x/\x<2 ^ n):(BitVec.ofInt 32 x).toNat=x.toNat/\(BitVec.ofInt 32 x).toNat<2 ^ n:=by
 have h1:(2:I) ^ n=((2 ^ n:G):I):=by rw[Int.natCast_pow];rfl
 have h2:2 ^ n<=2 ^ 32:=Nat.pow_le_pow_right (by decide) hn;have h3:(BitVec.ofInt 32 x).toNat=x.toNat:=by
  rw[BitVec.toNat_ofInt];rw[h1] at hx;generalize 2 ^ n=q at *;omega
 refine⟨h3,?_⟩;rw[h3];rw[h1] at hx;omega
theorem gW{W:W32}{x:I}{a:G}(h:a+4<=32)(hx:rg x)(hz:dn W a 4=0):cz W (BitVec.ofInt 32 x) a 4=W ||| (BitVec.ofInt 32 x <<< a):=
 G6 h (Ah (n:=4) (by decide) ⟨hx.1,by show x<16;exact hx.2⟩).2 hz
theorem EW{W:W32}(i:I){n:G}(h:0+n<=32)(hz:dn W 0 n=0):cz W (BitVec.ofInt 32 i) 0 n=W ||| BitVec.ofInt 32 (i % 2 ^ n):=by
 have hp:(0:I)<2 ^ n:=Int.pow_pos (by decide);rw[LP i h,G6 h (Ah (by omega) ⟨Int.emod_nonneg _ (by omega),Int.emod_lt_of_pos _ hp⟩).2 hz,BitVec.shiftLeft_zero]
theorem kg(x:I)(b:G)(hb:b<=32):H.wrap (H.wrap x*2 ^ (min ((b:I)).toNat H.bits))=((BitVec.ofInt 32 x <<< b).toNat:I):=by
 rw[Bz x];exact vS _ b hb
theorem Bn(i:I){n:G}(hn:n<=32)(q:I)(hq:q=2 ^ n):Int.tmod (H.wrap i) q=((BitVec.ofInt 32 (i % 2 ^ n)).toNat:I):=by
 subst hq;have hp:(0:I)<2 ^ n:=Int.pow_pos (by decide);rw[(Ah hn ⟨Int.emod_nonneg i (by omega),Int.emod_lt_of_pos i hp⟩).1,Int.toNat_of_nonneg (Int.emod_nonneg i (by omega)),IntKind.wrap_u32,Oj (Int.emod_nonneg _ (by decide))];refine Int.emod_emod_of_dvd i ?_;obtain⟨d,hd⟩:=Nat.exists_eq_add_of_le hn;refine⟨2 ^ d,?_⟩;rw[<- Int.pow_add,<- hd];rfl
theorem uA(b:zah):Zch.g b=Z (if b then 1 else 0,()):=by cases b<;>rfl
theorem lU:∀f:G,f<4->∀u v:zah,cz 0 (BitVec.ofInt 32 (hdN f u v:I)) 28 4=(BitVec.ofInt 32 (hdN f u v:I)) <<< 28:=by decide +kernel
section
variable{W X:W32}
theorem go1(X:W32){a b m:G}(ha:a+4<=32)(hb:b+m<=32)(h:b+m<=a\/a+4<=b)(hW:dn W b m=0):dn (cz W X a 4) b m=0:=by rw[Cz W X ha hb h,hW]
end
theorem JA{k o a b c i:I}{u:zah}(h:aP k o a b c u)(hi:bD k o i u):Zcu.g k o a b c i u=Z (((aG k o a b c i u).toNat:I),0,()):=by
 obtain⟨r,hr,hiff⟩:=vP k o a b c i u;obtain rfl:=hiff.2 ⟨h,hi⟩;have z:rg 0:=⟨by decide,by decide⟩
 have sA:=kg a 24 (by decide);have sB:=kg b 20 (by decide);have sO:=kg o 16 (by decide);have sC:=kg o 24 (by decide);simp only[Int.cast_ofNat_Int] at sA sB sO sC;have g0:∀b m:G,b+m<=28->∀X:W32,dn (cz 0 X 28 4) b m=0:=λb m hm X=>go1 X (by decide) (by omega) (.inl hm) (zH b m (by omega))
 unfold Zcu.g;generalize 1000+k.toNat+o.toNat+a.toNat+b.toNat+c.toNat+i.toNat=n;unfold Zcu.f;rw[hr,NE];dsimp only;rw[Y (by decide),uA,NE];dsimp only;simp only[dt,uA,NE];have reg:∀{o a b c:I}{u:zah},rg o->rg a->rg b->rg c->ai .or .u32 (ai .or .u32 (ai .or .u32 (ai .or .u32 (H.wrap ((if u then(1:I) else 0)*2 ^ (min (29:I).toNat H.bits))) (H.wrap ((H.wrap a)*2 ^ (min (24:I).toNat H.bits)))) (H.wrap ((H.wrap b)*2 ^ (min (20:I).toNat H.bits)))) (H.wrap ((H.wrap o)*2 ^ (min (16:I).toNat H.bits)))) (H.wrap c)=((aG 1 o a b c i u).toNat:I):=by
  intro o a b c u ho ha hb hc;have hU:H.wrap ((if u then(1:I) else 0)*2 ^ (min (29:I).toNat H.bits))=(((BitVec.ofInt 32 (hdN 0 u zad:I)) <<< 28).toNat:I):=by cases u<;>decide +kernel
  have sA:=kg a 24 (by decide);have sB:=kg b 20 (by decide);have sO:=kg o 16 (by decide);simp only[Int.cast_ofNat_Int] at sA sB sO;rw[hU,sA,sB,sO,Bz c,fE,fE,fE,fE];unfold aG dm;rw[U rfl];simp only[fC];rw[gW (by decide) hc (go1 _ (by decide) (by decide) (by decide) (go1 _ (by decide) (by decide) (by decide) (go1 _ (by decide) (by decide) (by decide) (g0 _ _ (by decide) _)))),
   gW (by decide) ho (go1 _ (by decide) (by decide) (by decide) (go1 _ (by decide) (by decide) (by decide) (g0 _ _ (by decide) _))),
   gW (by decide) hb (go1 _ (by decide) (by decide) (by decide) (g0 _ _ (by decide) _)),gW (by decide) ha (g0 _ _ (by decide) _),lU 0 (by decide),BitVec.shiftLeft_zero]
 have imm:∀{o a b:I}{u:zah},rg o->rg a->rg b->ai .or .u32 (ai .or .u32 (ai .or .u32 (ai .or .u32 (ai .or .u32 (ai .or .u32 (1073741824:I) (H.wrap ((if u then(1:I) else 0)*2 ^ (min (29:I).toNat H.bits)))) (H.wrap ((if i<(0:I) then(1:I) else 0)*2 ^ (min (28:I).toNat H.bits)))) (H.wrap ((H.wrap a)*2 ^ (min (24:I).toNat H.bits)))) (H.wrap ((H.wrap b)*2 ^ (min (20:I).toNat H.bits)))) (H.wrap ((H.wrap o)*2 ^ (min (16:I).toNat H.bits)))) (Int.tmod (H.wrap i) (65536:I))=((aG 2 o a b 0 i u).toNat:I):=by
  intro o a b u ho ha hb;have hU:ai .or .u32 (ai .or .u32 (1073741824:I) (H.wrap ((if u then(1:I) else 0)*2 ^ (min (29:I).toNat H.bits)))) (H.wrap ((if i<(0:I) then(1:I) else 0)*2 ^ (min (28:I).toNat H.bits)))=(((BitVec.ofInt 32 (hdN 1 u (zaa (i<0)):I)) <<< 28).toNat:I):=by
   rw[show(if i<(0:I) then(1:I) else 0)=if zaa (i<0)=zab then 1 else 0 by simp];generalize zaa (i<0)=v;cases u<;>cases v<;>decide +kernel
  have sA:=kg a 24 (by decide);have sB:=kg b 20 (by decide);have sO:=kg o 16 (by decide);simp only[Int.cast_ofNat_Int] at sA sB sO;rw[hU,sA,sB,sO,Bn i (n:=16) (by decide) 65536 rfl,fE,fE,fE,fE];unfold aG dm;rw[Y (by decide),Y (by decide),U rfl];simp only[fC];rw[EW i (by decide) (go1 _ (by decide) (by decide) (by decide) (go1 _ (by decide) (by decide) (by decide) (go1 _ (by decide) (by decide) (by decide) (g0 _ _ (by decide) _)))),
   gW (by decide) ho (go1 _ (by decide) (by decide) (by decide) (go1 _ (by decide) (by decide) (by decide) (g0 _ _ (by decide) _))),
   gW (by decide) hb (go1 _ (by decide) (by decide) (by decide) (g0 _ _ (by decide) _)),gW (by decide) ha (g0 _ _ (by decide) _),lU 1 (by decide)]
 cases h with
 |reg h1 h2 ha hb hc hu=>rw[U rfl,reg ⟨by omega,by omega⟩ ha hb hc]
 |mov ha hc=>rw[U rfl,reg z ha z hc]
 |imm h1 h2 ha hb hu=>rw[Y (by decide),U rfl,imm ⟨by omega,by omega⟩ ha hb]
 |movi ha=>rw[Y (by decide),U rfl,imm z ha z]
 |hi ha=>
  rw[Y (by decide),Y (by decide),U rfl,sA,show(536870912:I)=(((BitVec.ofInt 32 (hdN 0 zab (zaa ((3:I)=4)):I)) <<< 28).toNat:I) by decide +kernel,fE];unfold aG dm;rw[Y (by decide),U (.inl rfl)];simp only[fC];rw[gW (by decide) ha (g0 _ _ (by decide) _),lU 0 (by decide)]
 |fl ha=>
  rw[Y (by decide),Y (by decide),Y (by decide),U rfl,sA,show(805306368:I)=(((BitVec.ofInt 32 (hdN 0 zab (zaa ((4:I)=4)):I)) <<< 28).toNat:I) by decide +kernel,fE];unfold aG dm;rw[Y (by decide),U (.inr rfl)];simp only[fC];rw[gW (by decide) ha (g0 _ _ (by decide) _),lU 0 (by decide)]
 |mem h1 h2 ha hb=>
  rw[Y (by decide),Y (by decide),Y (by decide),Y (by decide),U rfl];have hU:ai .or .u32 (ai .or .u32 (2147483648:I) (H.wrap ((if(2:I)<=o then(1:I) else 0)*2 ^ (min (29:I).toNat H.bits)))) (H.wrap ((if(Int.tmod o (2:I))=(1:I) then(1:I) else 0)*2 ^ (min (28:I).toNat H.bits)))=(((BitVec.ofInt 32 (hdN 2 (zaa (2<=o)) (zaa (Int.tmod o 2=1)):I)) <<< 28).toNat:I):=by
   rw[show(if(2:I)<=o then(1:I) else 0)=if zaa (2<=o)=zab then 1 else 0 by simp,show(if(Int.tmod o (2:I))=(1:I) then(1:I) else 0)=if zaa (Int.tmod o 2=1)=zab then 1 else 0 by simp];generalize zaa (2<=o)=u;generalize zaa (Int.tmod o 2=1)=v;cases u<;>cases v<;>decide +kernel
  rw[hU,sA,sB,Bn i (n:=20) (by decide) 1048576 rfl,fE,fE,fE];unfold aG dm;rw[Y (by decide),Y (by decide),Y (by decide),U rfl];simp only[fC];rw[EW i (by decide) (go1 _ (by decide) (by decide) (by decide) (go1 _ (by decide) (by decide) (by decide) (g0 _ _ (by decide) _))),
   gW (by decide) hb (go1 _ (by decide) (by decide) (by decide) (g0 _ _ (by decide) _)),gW (by decide) ha (g0 _ _ (by decide) _),lU 2 (by decide)]
 |br ho hc=>
  rw[Y (by decide),Y (by decide),Y (by decide),Y (by decide),Y (by decide),U rfl];have hU:ai .or .u32 (3221225472:I) (H.wrap ((if u then(1:I) else 0)*2 ^ (min (28:I).toNat H.bits)))=(((BitVec.ofInt 32 (hdN 3 zad u:I)) <<< 28).toNat:I):=by cases u<;>decide +kernel
  rw[hU,sC,Bz c,fE,fE];unfold aG dm;rw[Y (by decide),Y (by decide),Y (by decide),Y (by decide),U rfl];simp only[fC];rw[gW (by decide) hc (go1 _ (by decide) (by decide) (by decide) (g0 _ _ (by decide) _)),gW (by decide) ho (g0 _ _ (by decide) _),lU 3 (by decide),BitVec.shiftLeft_zero]
 |jmp ho=>
  rw[Y (by decide),Y (by decide),Y (by decide),Y (by decide),Y (by decide),Y (by decide)];have hU:ai .or .u32 (3758096384:I) (H.wrap ((if u then(1:I) else 0)*2 ^ (min (28:I).toNat H.bits)))=(((BitVec.ofInt 32 (hdN 3 zab u:I)) <<< 28).toNat:I):=by cases u<;>decide +kernel
  rw[hU,sC,Bn i (n:=24) (by decide) 16777216 rfl,fE,fE];unfold aG dm;rw[Y (by decide),Y (by decide),Y (by decide),Y (by decide),Y (by decide)];simp only[fC];rw[EW i (by decide) (go1 _ (by decide) (by decide) (by decide) (g0 _ _ (by decide) _)),gW (by decide) ho (g0 _ _ (by decide) _),lU 3 (by decide)]
def wB(k o a b c i:I)(u:zah):I×I×zai:=if I0P k o a b c u/\bD k o i u/\(0<=a/\a<16)/\(0<=b/\b<16)/\(0<=c/\c<16) then(((aG k o a b c i u).toNat:I),0,()) else(0,1,())
theorem oV(k o a b c i:I)(u:zah):(aP k o a b c u/\bD k o i u)↔I0P k o a b c u/\bD k o i u/\(0<=a/\a<16)/\(0<=b/\b<16)/\(0<=c/\c<16):=by
 constructor;·rintro⟨h,hi⟩;obtain⟨ha,hb,hc⟩:=kN h;exact⟨(rZ ha hb hc).1 h,hi,ha,hb,hc⟩
 ·rintro⟨h,hi,ha,hb,hc⟩;exact⟨(rZ ha hb hc).2 h,hi⟩
theorem LC(k o a b c i:I)(u:zah):Zcu.g k o a b c i u=Z (wB k o a b c i u):=by
 unfold wB;by_cases h:I0P k o a b c u/\bD k o i u/\(0<=a/\a<16)/\(0<=b/\b<16)/\(0<=c/\c<16)
 ·rw[U h];obtain⟨h1,h2⟩:=(oV k o a b c i u).2 h;exact JA h1 h2
 ·rw[Y h];obtain⟨r,hr,hiff⟩:=vP k o a b c i u;have:r=zad:=by
   cases r with
   |false=>rfl
   |true=>exact absurd ((oV k o a b c i u).1 (hiff.1 rfl)) h
  subst this;unfold Zcu.g Zcu.f;rw[hr,NE];rfl
end Rv
namespace Rv
open Go
abbrev Snt:=I×I×I×I×I×zah×D Item×Str×zai
abbrev WrT:=D I×D I×D Sym
section
variable(t:D I)(lb:D Sym)(q:D Val)(fr wd:I)(r:WrT)
end
end Rv
namespace Rv
open Go
end Rv
namespace Rv
open Go
end Rv
namespace Rv
open Go
theorem Lh:∀e∈L.nameTbl,L.mnemR e.2.1.1 e.2.1.2.1 e.2.1.2.2=e.2.2/\L.ofR e.2.2=(e.2.1.1,e.2.1.2.1,e.2.1.2.2,zab,())/\e.2.2≠[]:=by decide +kernel
theorem Ji:∀e∈L.nameTbl,1<=e.2.1.1/\e.2.1.1<=10/\0<=e.2.1.2.1/\e.2.1.2.1<=15:=by decide +kernel
theorem Ac{k o:I}{u:zah}(h:L.mnemR k o u≠[]):∃e∈L.nameTbl,e.2.1=(k,o,u)/\e.2.2=L.mnemR k o u:=by
 unfold L.mnemR at h⊢;cases hf:L.nameTbl.find? λe=>e.2.1 == (k,o,u) with
 |none=>rw[hf] at h;exact absurd rfl h
 |some e=>
  have h1:=List.mem_of_find?_eq_some hf;have h2:e.2.1=(k,o,u):=by simpa using List.find?_some hf
  exact⟨e,h1,h2,rfl⟩
theorem Ld{k o:I}{u:zah}(h:L.mnemR k o u≠[]):L.ofR (L.mnemR k o u)=(k,o,u,zab,())/\1<=k/\k<=10/\0<=o/\o<=15:=by
 obtain⟨e,he,hk,hs⟩:=Ac h;obtain⟨h1,h2,h3⟩:=Lh e he;have h4:=Ji e he;rw[hk] at h2 h4;rw[<- hs];exact⟨h2,h4⟩
theorem Jh{k o:I}(u:zah)(hk:-9223372036854775808<=k/\k<=9223372036854775807)(ho:-9223372036854775808<=o/\o<=9223372036854775807):L.mnemO k o u=Z (L.mnemR k o u,()):=by
 unfold L.mnemO;rw[U ⟨hk.1,hk.2,ho.1,ho.2⟩]
end Rv
namespace Rv
open Go
set_option maxRecDepth 100000
end Rv
namespace Rv
open Go
def iN(k:G):Str:=if k<10 then[82,UInt8.ofNat (48+k)] else[82,49,UInt8.ofNat (38+k)]
def jy(s:Str):I×zah:=match (List.range 16).find? (λk=>iN k == s) with|some k=>((k:I),zab)|none=>(0,zad)
theorem GJ:((List.range 16).all λk=>zaa (Zay.g (k:I)=Z (iN k,()))&&zaa (Zen.g (iN k)=Z ((k:I),zab,())))=zab:=by decide +kernel
theorem Ay(k:G)(hk:k<16):Zay.g (k:I)=Z (iN k,())/\Zen.g (iN k)=Z ((k:I),zab,()):=by
 have:=Oa.1 GJ k (List.mem_range.2 hk);simpa[and_assoc] using this
theorem Cf{v:I}(h:v<0\/16<=v):Zay.g v=Z ([],()):=by
 unfold Zay.g Zay.f;by_cases h0:v<0;·rw[Y (by simp;omega)]
 ·rw[U (by simp;omega),U (by simp;omega)]
theorem EI{s:Str}{k:G}(h:(List.range 16).find? (λk=>iN k == s)=Z k):k<16/\iN k=s:=by
 have h1:=List.mem_of_find?_eq_some h;have h2:=List.find?_some h;exact⟨List.mem_range.1 h1,by simpa using h2⟩
end Rv
namespace Rv
open Go
abbrev bn:=I×I×Str×I×zai
end Rv
namespace Rv
open Go
inductive Opr
 |add|sub|mul
def Opr.kind:Opr->I
 | .add=>4 | .sub=>5 | .mul=>6
def Opr.byte:Opr->UInt8
 | .add=>43 | .sub=>45 | .mul=>42
def Opr.tight:Opr->G
 | .mul=>1|_=>0
inductive Tr
 |num (n:I)|nam (s:Str)|neg (x:Tr)|bin (o:Opr) (a b:Tr)|br (x:Tr)
namespace Tr
def post:Tr->D Item
 | .num n=>[(1,n,[],())]
 | .nam s=>[(2,0,s,())]
 | .neg x=>x.post++[(3,0,[],())]
 | .bin o a b=>a.post++b.post++[(o.kind,0,[],())]
 | .br x=>x.post
def ok:Tr->Prop
 | .num n=>0<=n/\n<=4294967295
 | .nam s=>aF s=zab
 | .neg x=>x.ok
 | .bin _ a b=>a.ok/\b.ok
 | .br x=>x.ok
def plain:Tr->Prop
 | .neg x=>x.plain
 | .bin _ a b=>a.plain/\b.plain
 | .br _=>False
 |_=>True
def tight:Tr->G
 | .bin o _ _=>o.tight
 |_=>2
end Tr
abbrev Bt:=I×Str×I
def bare(t:bn):Bt:=(t.1,t.2.2.1,t.2.2.2.1)
def tLp:Bt:=(3,[40],0)
def tRp:Bt:=(3,[41],0)
def tOp(o:Opr):Bt:=(3,[o.byte],0)
def NA:Bt:=(3,[45],0)
def brk(b:zah)(l:D Bt):D Bt:=if b then tLp::(l++[tRp]) else l
namespace Tr
def toks:Tr->D Bt
 | .num n=>[(2,Lib.itoa n,n)]
 | .nam s=>[(1,s,0)]
 | .neg x=>NA::brk (zaa (x.tight<2)) x.toks
 | .bin o a b=>brk (zaa (a.tight<o.tight)) a.toks++tOp o::brk (zaa (b.tight<o.tight+1)) b.toks
 | .br x=>tLp::(x.toks++[tRp])
def dep:Tr->G
 | .num _=>0
 | .nam _=>0
 | .neg x=>1+(x.dep+if x.tight<2 then 1 else 0)
 | .bin o a b=>max (a.dep+if a.tight<o.tight then 1 else 0) (b.dep+if b.tight<o.tight+1 then 1 else 0)
 | .br x=>1+x.dep
theorem post_pos:∀x:Tr,1<=x.post.length
 | .num _=>by simp[post]
 | .nam _=>by simp[post]
 | .neg _=>by simp[post]
 | .bin _ _ _=>by simp[post];omega
 | .br x=>post_pos x
def cnt(l:D Bt):G:=l.countP λb=>zaa (b.2.1=[45])||zaa (b.2.1=[40])
end Tr
theorem Ef{x:Item}(h:(aJ x).2=zab):(∃n,x=(1,n,[],()))\/(∃s,x=(2,0,s,())/\aF s=zab)\/x=(3,0,[],())\/∃o:Opr,x=(o.kind,0,[],()):=by
 obtain⟨a,b,c,u⟩:=x;cases u;unfold aJ at h;dsimp only at h;split at h;·rename_i h1;simp only[NH] at h;exact .inl ⟨b,by rw[h1,h]⟩
 ·split at h
  ·rename_i h2;simp only[NJ,NH] at h;exact .inr (.inl ⟨c,by rw[h2,h.1],h.2⟩)
  ·split at h
   ·rename_i h3;simp only[NJ,NH] at h;exact .inr (.inr (.inl (by rw[h3,h.1,h.2])))
   ·split at h
    ·rename_i h4;simp only[NJ,NH] at h;obtain⟨rfl,rfl⟩:=h;rcases h4 with rfl|rfl|rfl
     ·exact .inr (.inr (.inr ⟨.add,rfl⟩))
     ·exact .inr (.inr (.inr ⟨.sub,rfl⟩))
     ·exact .inr (.inr (.inr ⟨.mul,rfl⟩))
    ·cases h
theorem E8(l:D Tr):l=[]\/∃a x,l=a++[x]:=by
 rcases List.eq_nil_or_concat l with h|⟨a,x,h⟩;·exact .inl h
 ·exact .inr ⟨a,x,by simpa using h⟩
def posts(st:D Tr):D Item:=(st.map Tr.post).flatten
theorem mG(a b:D Tr):posts (a++b)=posts a++posts b:=by simp[posts]
theorem kD(x:Tr):posts [x]=x.post:=by simp[posts]
theorem Bo:∀(e:D Item) (st:D Tr) (k:I),enough (st.length:I) e=Z k->(∀x∈e,uf x)->(∀x∈st,x.ok/\x.plain) ->
  ∃st':D Tr,(st'.length:I)=k/\posts st++e=posts st'/\∀x∈st',x.ok/\x.plain
 |[],st,k,h,_,ho=>by
  simp only[enough,ND] at h;exact⟨st,h,by simp,ho⟩
 |x::e,st,k,h,hg,ho=>by
  have hgx:=hg x (by simp);unfold enough at h;split at h
  case isFalse=>cases h
  rename_i hc;have push:∀(l:D Tr) (t:Tr),(∀y∈l,y.ok/\y.plain)->t.ok/\t.plain->((l.length:I)+1=st.length+(1-(aJ x).1))->posts st++[x]=posts l++t.post->∃st':D Tr,(st'.length:I)=k/\posts st++x::e=posts st'/\∀x∈st',x.ok/\x.plain:=by
   intro l t hl ht hlen hp;obtain⟨st',h1,h2,h3⟩:=Bo e (l++[t]) k (by rw[show((l++[t]).length:I)=st.length+(1-(aJ x).1) by rw[<- hlen];simp];exact h) (λy hy=>hg y (by simp[hy])) (λy hy=>by
    rcases NV.1 hy with hy|hy;·exact hl y hy
    ·rw[Ob] at hy;subst hy;exact ht)
   refine⟨st',h1,?_,h3⟩;rw[<- h2,mG,kD,<- hp];simp
  rcases Ef hc.1 with⟨n,rfl⟩|⟨s,rfl,hs⟩|rfl|⟨o,rfl⟩;·exact push st (.num n) ho ⟨⟨hgx.1,hgx.2.1⟩,trivial⟩ (by rw[show(aJ (1,n,[],())).1=0 from rfl];omega) rfl
  ·exact push st (.nam s) ho ⟨hs,trivial⟩ (by rw[show(aJ (2,0,s,())).1=0 from rfl];omega) rfl
  ·have e1:(aJ (3,0,[],())).1=1:=rfl;rcases E8 st with rfl|⟨l,v,rfl⟩
   ·exact absurd hc.2 (by rw[e1];simp)
   ·have hv:=ho v (by simp);exact push l (.neg v) (λy hy=>ho y (by simp[hy])) hv (by rw[e1];simp<;>omega) (by rw[mG,kD];simp[Tr.post])
  ·have e2:(aJ (o.kind,0,[],())).1=2:=by cases o<;>rfl
   rcases E8 st with rfl|⟨l0,v,rfl⟩;·exact absurd hc.2 (by rw[e2];simp)
   ·rcases E8 l0 with rfl|⟨l,w,rfl⟩
    ·exact absurd hc.2 (by rw[e2];simp)
    ·exact push l (.bin o w v) (λy hy=>ho y (by simp[hy])) ⟨⟨(ho w (by simp)).1,(ho v (by simp)).1⟩,(ho w (by simp)).2,(ho v (by simp)).2⟩ (by rw[e2];simp<;>omega) (by rw[mG,mG,kD,kD];simp[Tr.post])
theorem Ma{e:D Item}(h:iK e)(hg:∀x∈e,uf x):∃t:Tr,t.post=e/\t.ok/\t.plain:=by
 obtain⟨st,h1,h2,h3⟩:=Bo e [] 1 h hg (λx hx=>by cases hx)
 match st,h1,h2,h3 with
 |[t],_,h2,h3=>exact⟨t,by rw[kD] at h2;exact h2.symm,h3 t (by simp)⟩
 |[],h1,_,_=>simp at h1
 |_::_::_,h1,_,_=>simp at h1;omega
end Rv
namespace Rv
open Go
def dch(d:G):UInt8:=if d<10 then UInt8.ofNat (48+d) else UInt8.ofNat (87+d)
theorem KF:((List.range 16).all λd=>zaa (D5 (dch d)=Z d)&&isW (dch d)&&(zaa (10<=d)||isD (dch d))&&zaa ((([48,49,50,51,52,53,54,55,56,57,97,98,99,100,101,102]:Str).take (d+1)).drop d=[dch d]))=zab:=by decide +kernel
theorem FC{d:G}(h:d<16):D5 (dch d)=Z d/\isW (dch d)=zab/\(d<10->isD (dch d)=zab)/\(([48,49,50,51,52,53,54,55,56,57,97,98,99,100,101,102]:Str).take (d+1)).drop d=[dch d]:=by
 have:=Oa.1 KF d (by simpa using h);simp only[NJ,NH,Bool.or_eq_true] at this;obtain⟨⟨⟨h1,h2⟩,h3⟩,h4⟩:=this;exact⟨h1,h2,λh=>h3.resolve_left (by omega),h4⟩
end Rv
namespace Rv
open Go
def bI(b:zah)(s:Str):Str:=if b then 40::(s++[41]) else s
namespace Tr
def txt:Tr->Str
 | .num n=>Lib.itoa n
 | .nam s=>s
 | .neg x=>45::bI (zaa (x.tight<2)) x.txt
 | .bin o a b=>bI (zaa (a.tight<o.tight)) a.txt++([32,o.byte,32]++bI (zaa (b.tight<o.tight+1)) b.txt)
 | .br x=>40::(x.txt++[41])
end Tr
theorem KG:∀(n:G),(Lib.decDigits n).all isD=zab/\Lib.decDigits n≠[]:=by
 intro n
 induction n using Nat.strongRecOn with
 |_ n ih=>
  rw[Lib.decDigits];have hd:∀d,d<10->isD (UInt8.ofNat (48+d))=zab:=λd h=>by
   have:=(FC (show d<16 by omega)).2.2.1 h;unfold dch at this
   rwa [U h] at this
  split;·rename_i h;exact⟨by rw[Oy,hd n h];rfl,by simp⟩
  ·rename_i h;exact⟨by rw[List.all_append,(ih (n / 10) (by omega)).1,Oy,hd (n % 10) (by omega)];rfl,by simp⟩
theorem Ct:∀(k n:G),n<10 ^ (k+1)->(Lib.decDigits n).length<=k+1
 |0,n,h=>by
  rw[Lib.decDigits,dif_pos (by simpa using h)];simp
 |k+1,n,h=>by
  rw[Lib.decDigits];split;·simp
  ·have:=Ct k (n / 10) (by rw[Nat.div_lt_iff_lt_mul (by omega),<- Nat.pow_succ];exact h);simp;omega
theorem gY(b:zah)(s:Str):(bI b s).length<=s.length+2:=by unfold bI;split<;>simp
theorem dV:∀t:Tr,t.ok->t.plain->t.txt.length<=20*t.post.length
 | .num n,h,_=>by
  obtain⟨m,rfl⟩:∃m:G,n=m:=⟨n.toNat,by have:=h.1;omega⟩
  have hi:Lib.itoa (m:I)=Lib.decDigits m:=by unfold Lib.itoa;rw[Y (by omega)];rfl
  have:=Ct 9 m (by have h2:=h.2;omega);show(Lib.itoa (m:I)).length<=20*1;rw[hi];omega
 | .nam s,h,_=>by
  have h:aF s=zab:=h;unfold aF at h;simp only[NJ,NH] at h;have:=h.1.1.1.2;show s.length<=20*1;omega
 | .neg x,h,hp=>by
  have h1:=dV x h hp;have h2:=gY (zaa (x.tight<2)) x.txt;simp[Tr.txt,Tr.post];omega
 | .br x,_,hp=>hp.elim
 | .bin o a b,h,hp=>by
  have h1:=dV a h.1 hp.1;have h2:=dV b h.2 hp.2;have h3:=gY (zaa (a.tight<o.tight)) a.txt;have h4:=gY (zaa (b.tight<o.tight+1)) b.txt;simp[Tr.txt,Tr.post];omega
end Rv
namespace Rv
open Go
abbrev dIt:Item:=((0:I),((0:I),(([]:Str),())))
theorem rf(s:Str)(hs:s.length<=1000000)(k lv:G):Zaz.g s (k:I) (lv:I)=Z (bI (zaa (k<lv)) s,()):=by
 unfold Zaz.g Zaz.f bI
 grind
theorem M0(n:I)(h:0<=n/\n<=4294967295):Zds.g (zak.wrap n) 10=Z (Lib.itoa n,()):=by
 rw[NC (by omega)];unfold Zds.g Zds.f L.formatUintO
 grind
def parts(st:D Tr):D (Str×I×zai):=st.map λt=>(t.txt,(t.tight:I),())
theorem fM(st:D Tr):(parts st).length=st.length:=by simp[parts]
theorem eP(a b:D Tr):parts (a++b)=parts a++parts b:=by simp[parts]
theorem yS{e:D Item}{i:G}{x:Item}{r:D Item}(h:e.drop i=x::r):i<e.length/\e.getD i dIt=x/\e.drop (i+1)=r:=by
 have hi:i<e.length:=by
  apply Classical.byContradiction
  grind [List.drop_eq_nil_of_le]
 have hd:e.drop i=e.getD i dIt::e.drop (i+1):=by
  simp_all
 grind
theorem vk(n:G)(rl)(st on:D Tr)(e:D Item)(i:G)(he:e.length<=1000)(hi:i<e.length)(s:Str)(k:I)(hst:st.length+on.length<=1000) :
  Zai.j23 n rl (parts (st++on)) (on.length:I) e (e.length:I) (i:I) s k=rl (parts st++[(s,k,())]) e (e.length:I) ((i+1:G):I):=by
 unfold Zai.j23;have hl:(parts (st++on)).length=st.length+on.length:=by rw[fM];simp
 have hw:zac.wrap (((parts (st++on)).length:I)-(on.length:I))=(st.length:I):=by grind [w64]
 have ht:(parts (st++on)).take st.length=parts st:=by
  rw[eP];exact List.take_left' (fM st)
 rw[hw,hl,U (by omega),NM,ht,U (by grind),w64 (by omega)];rfl
theorem mH(e:D Item)(he:e.length<=1000)(n:G):∀t:Tr,t.ok->t.plain->∀(st:D Tr) (m i:G) (rest:D Item),st.length+t.post.length<=1000->e.drop i=t.post++rest ->
  Zai.l5 n (m+t.post.length) (parts st) e (e.length:I) (i:I)=Zai.l5 n m (parts (st++[t])) e (e.length:I) ((i+t.post.length:G):I)
 | .num v,ho,hp,st,m,i,rest,hst,hd=>by
  obtain⟨h1,h2,_⟩:=yS (x:=(1,v,[],())) (r:=rest) hd;show Zai.l5 n (m+1) (parts st) e (e.length:I) (i:I)=_;rw[Zai.l5];simp only[dt,NM];rw[U (by omega),U (by omega),h2];dsimp only;rw[lJ,NE];have e0:(aJ (1,v,[],())).1=0:=rfl;dsimp only;rw[e0,U (by grind [fM,w64]),U rfl,M0 v ho,NE];have:=vk n (Zai.l5 n m) st [] e i he h1 (Lib.itoa v) 2 (by grind);rw[N9] at this;rw[show((0:I))=(([]:D Tr).length:I) from rfl,this,eP];rfl
 | .nam s,ho,hp,st,m,i,rest,hst,hd=>by
  obtain⟨h1,h2,_⟩:=yS (x:=(2,0,s,())) (r:=rest) hd;show Zai.l5 n (m+1) (parts st) e (e.length:I) (i:I)=_;rw[Zai.l5];simp only[dt,NM];rw[U (by omega),U (by omega),h2];dsimp only;rw[lJ,NE];have e0:(aJ (2,0,s,())).1=0:=rfl;dsimp only;rw[e0,U (by grind [fM,w64]),Y (show ¬(2:I)=1 by decide),U rfl];have:=vk n (Zai.l5 n m) st [] e i he h1 s 2 (by grind);rw[N9] at this;rw[show((0:I))=(([]:D Tr).length:I) from rfl,this,eP];rfl
 | .neg x,ho,hp,st,m,i,rest,hst,hd=>by
  have hP:(Tr.neg x).post=x.post++[(3,0,[],())]:=rfl;rw[hP,NW] at hd;rw[hP] at hst⊢;simp only[NP,N7,Ol] at hst⊢;have hx:=mH e he n x ho hp st (m+1) i ((3,0,[],())::rest) (by omega) hd;rw[show m+(x.post.length+(0+1))=m+1+x.post.length by omega,hx];have hd2:e.drop (i+x.post.length)=(3,0,[],())::rest:=by
   rw[<- List.drop_drop,hd]
   grind
  obtain⟨h1,h2,_⟩:=yS hd2;have hl:=dV x ho hp;rw[Zai.l5];simp only[dt,NM];rw[U (by omega),U (by omega),h2];dsimp only;rw[lJ,NE];have e0:(aJ (3,0,[],())).1=1:=rfl;have hpl:(parts (st++[x])).length=st.length+1:=by rw[fM];simp
  have hw:zac.wrap (((parts (st++[x])).length:I)-1)=(st.length:I):=by grind [w64]
  have hon:((parts (st++[x])).take (parts (st++[x])).length).drop st.length=[(x.txt,(x.tight:I),())]:=by
   rw[List.take_length,eP];exact List.drop_left' (fM st)
  dsimp only;rw[e0,hw,U (by rw[hpl];omega),Y (show ¬(3:I)=1 by decide),Y (show ¬(3:I)=2 by decide),U rfl];simp only[NM,hon];rw[U (by simp),show([(x.txt,(x.tight:I),())]:D (Str×I×zai)).getD (0:I).toNat (([]:Str),((0:I),()))=(x.txt,(x.tight:I),()) from rfl];dsimp only;rw[show(2:I)=((2:G):I) from rfl,rf x.txt (by omega),NE];dsimp only;have hb:=gY (zaa (x.tight<2)) x.txt;rw[U (by simp;omega)];have:=vk n (Zai.l5 n m) st [x] e (i+x.post.length) he h1 ([45]++bI (zaa (x.tight<2)) x.txt) 2 (by simp;omega);rw[show(1:I)=(([x]:D Tr).length:I) from rfl,show((2:G):I)=2 from rfl,this,eP];rfl
 | .br x,_,hp,_,_,_,_,_,_=>hp.elim
 | .bin o a b,ho,hp,st,m,i,rest,hst,hd=>by
  have hP:(Tr.bin o a b).post=a.post++b.post++[(o.kind,0,[],())]:=rfl;rw[hP,NW,NW] at hd;rw[hP] at hst⊢;simp only[NP,N7,Ol] at hst⊢;have hxa:=mH e he n a ho.1 hp.1 st (m+1+b.post.length) i (b.post++((o.kind,0,[],())::rest)) (by omega) hd;have hd2:e.drop (i+a.post.length)=b.post++((o.kind,0,[],())::rest):=by
   rw[<- List.drop_drop,hd]
   grind
  have hxb:=mH e he n b ho.2 hp.2 (st++[a]) (m+1) (i+a.post.length) ((o.kind,0,[],())::rest) (by simp;omega) hd2;rw[show m+(a.post.length+b.post.length+(0+1))=m+1+b.post.length+a.post.length by omega,hxa,hxb];have hd3:e.drop (i+a.post.length+b.post.length)=(o.kind,0,[],())::rest:=by
   rw[<- List.drop_drop,hd2]
   grind
  obtain⟨h1,h2,_⟩:=yS hd3;have hla:=dV a ho.1 hp.1;have hlb:=dV b ho.2 hp.2;rw[Zai.l5];simp only[dt,NM];rw[U (by omega),U (by omega),h2];dsimp only;rw[lJ,NE];have e0:(aJ (o.kind,0,[],())).1=2:=by cases o<;>rfl
  have hpl:(parts (st++[a]++[b])).length=st.length+2:=by rw[fM];simp
  have hw:zac.wrap (((parts (st++[a]++[b])).length:I)-2)=(st.length:I):=by grind [w64]
  have hon:((parts (st++[a]++[b])).take (parts (st++[a]++[b])).length).drop st.length=[(a.txt,(a.tight:I),()),(b.txt,(b.tight:I),())]:=by
   rw[List.take_length,NW,eP];exact List.drop_left' (fM st)
  dsimp only;rw[e0,hw,U (by rw[hpl];omega),Y (show ¬o.kind=1 by cases o<;>decide),Y (show ¬o.kind=2 by cases o<;>decide),Y (show ¬o.kind=3 by cases o<;>decide)];simp only[NM,hon];have g0:([(a.txt,(a.tight:I),()),(b.txt,(b.tight:I),())]:D (Str×I×zai)).getD (0:I).toNat (([]:Str),((0:I),()))=(a.txt,(a.tight:I),()):=rfl;have g1:([(a.txt,(a.tight:I),()),(b.txt,(b.tight:I),())]:D (Str×I×zai)).getD (1:I).toNat (([]:Str),((0:I),()))=(b.txt,(b.tight:I),()):=rfl;simp only[g0,g1];have hb0:=gY (zaa (a.tight<0)) a.txt;have hb1:=gY (zaa (a.tight<1)) a.txt;have hc1:=gY (zaa (b.tight<1)) b.txt;have hc2:=gY (zaa (b.tight<2)) b.txt;have t0:Zaz.g a.txt (a.tight:I) (0:I)=Z (bI (zaa (a.tight<0)) a.txt,()):=rf a.txt (by omega) a.tight 0;have t1:Zaz.g a.txt (a.tight:I) (1:I)=Z (bI (zaa (a.tight<1)) a.txt,()):=rf a.txt (by omega) a.tight 1;have u1:Zaz.g b.txt (b.tight:I) (1:I)=Z (bI (zaa (b.tight<1)) b.txt,()):=rf b.txt (by omega) b.tight 1;have u2:Zaz.g b.txt (b.tight:I) (2:I)=Z (bI (zaa (b.tight<2)) b.txt,()):=rf b.txt (by omega) b.tight 2;have fin:=λs k=>vk n (Zai.l5 n m) st [a,b] e (i+a.post.length+b.post.length) he h1 s k (by grind [Tr.post_pos])
  have hab:st++[a]++[b]=st++[a,b]:=by simp
  rw[hab];cases o with
  |add=>
   rw[U (show Opr.add.kind=4 from rfl),U (by simp),t0,NE];dsimp only[Opr.tight];rw[U (by grind [List.length_nil]),U (by simp),u1,NE];dsimp only;rw[U (by grind [List.length_cons]),show(2:I)=(([a,b]:D Tr).length:I) from rfl,fin,eP,NW,show i+a.post.length+b.post.length+1=i+(a.post.length+b.post.length+(0+1)) by omega];rfl
  |sub=>
   rw[Y (show ¬Opr.sub.kind=4 by decide),U (show Opr.sub.kind=5 from rfl),U (by simp),t0,NE];dsimp only[Opr.tight];rw[U (by grind [List.length_nil]),U (by simp),u1,NE];dsimp only;rw[U (by grind [List.length_cons]),show(2:I)=(([a,b]:D Tr).length:I) from rfl,fin,eP,NW,show i+a.post.length+b.post.length+1=i+(a.post.length+b.post.length+(0+1)) by omega];rfl
  |mul=>
   rw[Y (show ¬Opr.mul.kind=4 by decide),Y (show ¬Opr.mul.kind=5 by decide),U (show Opr.mul.kind=6 from rfl),U (by simp),t1,NE];dsimp only[Opr.tight];rw[U (by grind [List.length_nil]),U (by simp),u2,NE];dsimp only;rw[U (by grind [List.length_cons]),show(2:I)=(([a,b]:D Tr).length:I) from rfl,fin,eP,NW,show i+a.post.length+b.post.length+1=i+(a.post.length+b.post.length+(0+1)) by omega];rfl
theorem FP{t:Tr}(ho:t.ok)(hp:t.plain)(hw:iK t.post)(hl:t.post.length<=64):Zai.g t.post=Z (t.txt,0,()):=by
 unfold Zai.g Zai.f;rw[Dz t.post (by omega),sK hw hl,NE];dsimp only;rw[Y (show ¬(!zab)=zab by decide)];obtain⟨N,hN⟩:∃N,1000+t.post.length=N+1+t.post.length:=⟨999,by omega⟩
 rw[hN];have:=mH t.post (by omega) (N+1+t.post.length) t ho hp [] (N+1) 0 [] (by simp;omega) (by simp);simp_all [parts,Zai.l5]
end Rv
namespace Rv
open Go
abbrev R:=af
abbrev dX:bn:=((0:I),((0:I),(([]:Str),((0:I),()))))
def mc:Tr->G
 | .bin .mul a _=>mc a+1
 |_=>0
end Rv
namespace Rv
open Go
end Rv
namespace Rv
open Go
end Rv
namespace Rv
open Go
structure Sm where
 k:I
 o:I
 a:I
 b:I
 c:I
 u:zah
 e:D Item
 nm:Str
def il(t:Tr):Prop:=t.ok/\t.plain/\iK t.post/\t.post.length<=64
def postO:zaf Tr->D Item
 |none=>[]
 |some t=>t.post
inductive GoodS:Sm->zaf Tr->Prop
 |none:GoodS ⟨0,0,0,0,0,zad,[],[]⟩ zaj
 |ins0 {k o a b c:I} {u:zah}:aP k o a b c u->(k=1\/k=3\/k=4\/k=6)->GoodS ⟨k,o,a,b,c,u,[],[]⟩ zaj
 |ins1 {k o a b c:I} {u:zah} {t:Tr}:aP k o a b c u->(k=2\/k=5\/k=7)->il t->GoodS ⟨k,o,a,b,c,u,t.post,[]⟩ (Z t)
 |load {a:I} {t:Tr}:rg a->il t->GoodS ⟨8,0,a,0,0,zad,t.post,[]⟩ (Z t)
 |word {t:Tr}:il t->GoodS ⟨9,0,0,0,0,zad,t.post,[]⟩ (Z t)
 |exp {nm:Str}:bG nm=zab->GoodS ⟨10,0,0,0,0,zad,[],nm⟩ zaj
def rn(a:I):Str:=iN a.toNat
theorem vR{a:I}(h:rg a):Zay.g a=Z (rn a,()):=by
 obtain⟨k,rfl⟩:∃k:G,a=(k:I):=⟨a.toNat,by have:=h.1;omega⟩
 have:=(Ay k (by have:=h.2;omega)).1
 grind [rn]
theorem Ng(k:G):iN k≠[]:=by grind [iN]
theorem iU(k:I):Zdm.g k=Z (zaa (k=2\/k=5\/k=7\/k=8\/k=9),()):=by
 unfold Zdm.g Zdm.f
 grind
abbrev Ab(s:Sm):zaf (zah×zai):=Zan.g s.k s.o s.a s.b s.c s.u s.e s.nm
theorem Jf{s:Sm}{t:zaf Tr}(h:GoodS s t):Ab s=Z (zab,()):=by
 have hw:∀t:Tr,il t->Zbg.g t.post=Z (zab,()):=λt h=>by
  rw[Dz t.post (by have:=h.2.2.2;omega),sK h.2.2.1 h.2.2.2]
 have hp:∀t:Tr,zaa ((0:I)<(t.post.length:I))=zab:=λt=>by have:=t.post_pos;simp;omega
 cases h with
 |none=>rfl
 |@ins0 k o a b c u h hk=>
  unfold Ab Zan.g;generalize 1000+_+_+_+_+_+_+_=n;unfold Zan.f;have hn:zaa (k=2\/k=5\/k=7\/k=8\/k=9)=zad:=by simp;omega
  have h10:zaa (k=10)=zad:=by simp;omega
  simp only[iU,hn,NE];rw[U (by simp),Y (by decide),h10,Y (by simp)];unfold Zan.j4 Zan.j12;simp only[dt];rw[zP h,NE,Y (by omega),Y (by omega),Y (by omega),Y (by omega)]
 |@ins1 k o a b c u t h hk ht=>
  unfold Ab Zan.g;generalize 1000+_+_+_+_+_+_+_=n;unfold Zan.f;have hn:zaa (k=2\/k=5\/k=7\/k=8\/k=9)=zab:=by simp;omega
  have h10:zaa (k=10)=zad:=by simp;omega
  simp only[iU,hn,NE,hp,hw t ht];rw[U (by simp),U (by decide),U (by decide),h10,Y (by simp)];unfold Zan.j4 Zan.j12;simp only[dt];rw[zP h,NE,Y (by omega),Y (by omega),Y (by omega),Y (by omega)]
 |@load a t ha ht=>
  unfold Ab Zan.g;simp_all [Zan.f,iU,Zan.j4,vR,Ng,rn]
 |@word t ht=>
  unfold Ab Zan.g;generalize 1000+_+_+_+_+_+_+_=n;unfold Zan.f;simp only[iU,NE,hp,hw t ht];rw[U (by simp),U (by decide),U (by decide),Y (by simp)];rfl
 |@exp nm hn=>
  have hne:nm≠[]:=by rintro rfl;exact absurd hn (by decide)
  simp_all [Zan.g,Zan.f,iU,Zan.j4,qN]
end Rv
namespace Rv
open Go
theorem mq{s:Sm}{t:zaf Tr}(h:GoodS s t):s.e.length<=64/\s.e=postO t/\(∀x,t=Z x->il x):=by
 cases h with
 |none=>exact⟨by simp,rfl,λx h=>by cases h⟩
 |ins0 _ _=>exact⟨by simp,rfl,λx h=>by cases h⟩
 |ins1 _ _ ht=>exact⟨ht.2.2.2,rfl,λx h=>by obtain rfl:=NF h;exact ht⟩
 |load _ ht=>exact⟨ht.2.2.2,rfl,λx h=>by obtain rfl:=NF h;exact ht⟩
 |word ht=>exact⟨ht.2.2.2,rfl,λx h=>by obtain rfl:=NF h;exact ht⟩
 |exp _=>exact⟨by simp,rfl,λx h=>by cases h⟩
end Rv
namespace Rv
open Go
end Rv
namespace Rv
open Go
end Rv
namespace Rv
open Go
end Rv
namespace Rv
open Go
end Rv
namespace Rv
open Go
section
variable(t:D I)(lb:D Sym)(q:D Val)(fr wd:I)
end
end Rv
namespace Rv
open Go
section
variable(lb:D Sym)(q:D Val)(fr wd:I)(t:D I)
end
end Rv
namespace Rv
open Go
section
variable(lb:D Sym)(q:D Val)(fr wd:I)(t:D I)
end
end Rv
namespace Rv
open Go
section
variable(lb:D Sym)(q:D Val)(fr wd:I)
end
structure Nl (ws ss:D I) (ys lb:D Sym):Prop where
 pl:∀x∈plR ws ss,yQ (nmR x) lb=Z x
 nm:∀z∈ys,yQ z.1 lb=Z z.2.1
theorem Lf:((List.range 1025).all λk=>aF (nmR (4*(k:I)))&&zaa ((nmR (4*(k:I))).length=5)&&zaa ((nmR (4*(k:I))).getD 0 0=95) &&
  zaa (((nmR (4*(k:I))).drop 1).foldl (λ(a:G) (b:UInt8)=>a*16+(if b.toNat<=57 then b.toNat-48 else b.toNat-55)) 0=4*k))=zab:=by decide +kernel
theorem Ev{k:G}(h:k<=1024):aF (nmR (4*(k:I)))=zab/\(nmR (4*(k:I))).length=5/\(nmR (4*(k:I))).getD 0 0=95:=by
 have:=Oa.1 Lf k (by simp;omega)
 grind
theorem Gc{s:Str}(h:aF s=zab):aJ ((2:I),0,s,())=(0,zab):=by
 simp_all [aJ]
section
variable{ws ss:D I}{ys lb:D Sym}(O:OkO ws ss ys)(B:Nl ws ss ys lb)
include O B
end
end Rv
namespace Rv
open Go
section
variable(ws ss:D I)(ys:D Sym)
def AY(i:G):D Ln:=L.linS (4*(i:I)) ys++(if 4*(i:I)∈plR ws ss then[(nmR (4*(i:I)),L.st0 0 [],())] else[])++(if i<ws.length then[([],jm ws ss i,())] else[])
def gV:G->G->D Ln
 |0,_=>[]
 |k+1,i=>AY ws ss ys i++gV k (i+1)
def qO:D Ln:=gV ws ss ys (ws.length+1) 0++L.linX ys
end
theorem qP(x:I):∀(ys:D Sym),∀y∈L.linS x ys,y.2.1.1=0/\∃z∈ys,z.2.1=x/\y=(z.1,L.st0 0 [],())
 |[],y,h=>by cases h
 |s::r,y,h=>by
  rw[L.linS] at h;split at h
  ·rename_i hs;rcases NT.1 h with rfl|h
   ·exact⟨rfl,s,by simp,hs,rfl⟩
   ·obtain⟨h1,z,hz,h2⟩:=qP x r y h
    grind
  ·obtain⟨h1,z,hz,h2⟩:=qP x r y h
   grind
theorem zY:∀(ys:D Sym),∀y∈L.linX ys,y.1=[]/\∃z∈ys,y=([],L.st0 10 z.1,())
 |[],y,h=>by cases h
 |s::r,y,h=>by
  rcases NT.1 h with rfl|h;·grind
  ·obtain⟨h1,z,hz,h2⟩:=zY r y h
   grind
section
variable{ws ss:D I}{ys:D Sym}(O:OkO ws ss ys)
include O
end
end Rv
namespace Rv
open Go
inductive Od
 |A|B|C|E|Q|N
def Od.rd:Od->Fn
 | .A=>K.rdA | .B=>K.rdB | .C=>K.rdC | .E=>K.rdE | .Q=>K.rdQ | .N=>K.rdN
def Od.wr:Od->Fn
 | .A=>K.wrA | .B=>K.wrB | .C=>K.wrC | .E=>K.wrE | .Q=>K.wrQ | .N=>K.wrN
def odL(k o:I):D Od:=
 if k=1 then(if o=0 then[.A,.C] else[.A,.B,.C]) else
 if k=2 then(if o=0 then[.A,.E] else[.A,.B,.E]) else
 if k=3\/k=4 then[.A] else
 if k=5 then[.A,.B,.E] else
 if k=6 then[.C] else
 if k=7\/k=9 then[.E] else
 if k=8 then[.A,.Q] else
 if k=10 then[.N] else[]
abbrev odF(d:Od):Fn×Fn×zai:=(d.rd,d.wr,())
theorem CW(k o:I):L.opsR k o=(odL k o).map odF:=by
 unfold L.opsR odL;split;·split<;>rfl
 ·split
  ·split<;>rfl
  ·repeat' split
   all_goals rfl
theorem sj(k o:I):(odL k o).length<=3:=by
 grind [odL]
theorem nP{o:I}(h:0<o):odL 1 o=[.A,.B,.C]:=by unfold odL;grind
theorem CU{o:I}(h:0<o):odL 2 o=[.A,.B,.E]:=by unfold odL;grind
theorem vU(n:G):∀(m:G) (s:Str),s.length<m->s.length<=1000000->Zcf.l1 n m s 32=Z (s.dropWhile (· == 32),())
 |0,_,h,_=>by omega
 |m+1,[],_,_=>by rw[Zcf.l1];rfl
 |m+1,b::s,h,hs=>by
  rw[Zcf.l1];simp only[dt];have hb:bt (b::s) 0=(b.toNat:I):=rfl;have h32:((b.toNat:I)=32)=(b=32):=kV b 32 (by omega);rw[U (by simp),U (by simp),hb,List.dropWhile_cons];by_cases e:b=32
  ·rw[U (h32.mpr e),U (by simp;omega),U (by simp[e])];have:((b::s).take ((((b::s).length:G):I)).toNat).drop ((1:I)).toNat=s:=by
    simp_all
   rw[this];exact vU n m s (by grind) (by grind)
  grind
theorem Bp(s:Str)(hs:s.length<=1000000):Zdc.g s [32]=Z (s.dropWhile (· == 32),()):=by
 unfold Zdc.g Zdc.f;simp only[dt,df];by_cases h:s=[]
 ·subst h;rfl
 ·rw[U h,Y (by decide),U (by decide),U (by decide),U (by decide),U (by decide)];have hb:bt [32] 0=32:=rfl
  grind [Zcf.g,Zcf.f,vU]
theorem F5(n:I)(h:0<=n):∃c r,Lib.itoa n=c::r/\c≠32:=by
 obtain⟨m,rfl⟩:∃m:G,n=m:=⟨n.toNat,by omega⟩
 have hi:Lib.itoa (m:I)=Lib.decDigits m:=by simp_all [Lib.itoa]
 obtain⟨h1,h2⟩:=KG m;rw[hi];cases hd:Lib.decDigits m with
 |nil=>grind
 |cons c r=>
  refine⟨c,r,rfl,?_⟩;rintro rfl
  grind [isD]
theorem Fv(b:zah){s:Str}(h:∃c r,s=c::r/\c≠32):∃c r,bI b s=c::r/\c≠32:=by
 unfold bI
 grind
theorem Bu:∀t:Tr,t.ok->∃c r,t.txt=c::r/\c≠32
 | .num n,h=>F5 n h.1
 | .nam s,h=>by
  have h:aF s=zab:=h;cases s with
  |nil=>exact absurd h (by decide)
  |cons c r=>
   refine⟨c,r,rfl,?_⟩;rintro rfl;unfold aF at h;simp only[NJ,Oy] at h;exact absurd h.1.2.1 (by decide)
 | .neg x,_=>⟨_,_,rfl,by decide⟩
 | .br x,_=>⟨_,_,rfl,by decide⟩
 | .bin o a b,h=>by
  obtain⟨c,r,h1,h2⟩:=Fv (zaa (a.tight<o.tight)) (Bu a h.1);exact⟨c,_,by show bI _ _++_=_;rw[h1];rfl,h2⟩
def et:zaf Tr->Str
 |none=>[]
 |some t=>t.txt
def wtx(s:Sm)(t:zaf Tr):Od->Str
 | .A=>rn s.a | .B=>rn s.b | .C=>rn s.c | .E=>et t | .Q=>61::32::et t | .N=>s.nm
def Jn(s:Sm)(t:zaf Tr):Od->Prop
 | .A=>rg s.a | .B=>rg s.b | .C=>rg s.c | .E=>∃x,t=Z x/\il x/\s.e=x.post | .Q=>∃x,t=Z x/\il x/\s.e=x.post | .N=>bG s.nm=zab
theorem wH{s:Sm}{t:zaf Tr}(h:GoodS s t):∀d∈odL s.k s.o,Jn s t d:=by
 cases h with
 |none=>grind [odL]
 |ins0 h hk=>
  cases h with
  |reg h1 h2 ha hb hc hu=>
   intro d hd;dsimp only at hd;rw[nP h1] at hd;simp only[NT,List.not_mem_nil,or_false] at hd;rcases hd with rfl|rfl|rfl;·exact ha
   ·exact hb
   ·exact hc
  |mov ha hc=>
   intro d hd;simp only[odL,if_true,NT,List.not_mem_nil,or_false] at hd;rcases hd with rfl|rfl;·exact ha
   ·exact hc
  |hi ha=>intro d hd;simp[odL] at hd;subst hd;exact ha
  |fl ha=>intro d hd;simp[odL] at hd;subst hd;exact ha
  |br ho hc=>intro d hd;simp[odL] at hd;subst hd;exact hc
  |imm=>simp at hk
  |movi=>simp at hk
  |mem=>simp at hk
  |jmp=>simp at hk
 |ins1 h hk ht=>
  cases h with
  |imm h1 h2 ha hb hu=>
   intro d hd;dsimp only at hd;rw[CU h1] at hd;simp only[NT,List.not_mem_nil,or_false] at hd;rcases hd with rfl|rfl|rfl;·exact ha
   ·exact hb
   ·exact⟨_,rfl,ht,rfl⟩
  |movi ha=>
   intro d hd;simp[odL] at hd;rcases hd with rfl|rfl;·exact ha
   ·exact⟨_,rfl,ht,rfl⟩
  |mem h1 h2 ha hb=>
   intro d hd;simp[odL] at hd;rcases hd with rfl|rfl|rfl;·exact ha
   ·exact hb
   ·exact⟨_,rfl,ht,rfl⟩
  |jmp ho=>intro d hd;simp[odL] at hd;subst hd;exact⟨_,rfl,ht,rfl⟩
  |reg=>simp at hk
  |mov=>simp at hk
  |hi=>simp at hk
  |fl=>simp at hk
  |br=>simp at hk
 |load ha ht=>
  intro d hd;simp[odL] at hd;rcases hd with rfl|rfl;·exact ha
  ·exact⟨_,rfl,ht,rfl⟩
 |word ht=>intro d hd;simp[odL] at hd;subst hd;exact⟨_,rfl,ht,rfl⟩
 |exp hn=>intro d hd;simp[odL] at hd;subst hd;exact hn
theorem Aw(k:G):(iN k).length<=3:=by grind [iN]
theorem DC{s:Sm}{t:zaf Tr}{d:Od}(h:Jn s t d):(wtx s t d).length<=1300:=by
 have r:∀a:I,(rn a).length<=1300:=λa=>Og (Aw _) (by decide)
 have e:(∃x,t=Z x/\il x/\s.e=x.post)->(et t).length<=1280:=by
  rintro⟨x,rfl,hx,_⟩;have:=dV x hx.1 hx.2.1;have:=hx.2.2.2;show x.txt.length<=1280;omega
 cases d with
 |A=>exact r _
 |B=>exact r _
 |C=>exact r _
 |E=>exact Og (e h) (by decide)
 |Q=>have:=e h;show(61::32::et t).length<=1300;simp;omega
 |N=>
  have h:bG s.nm=zab:=h;unfold bG at h;simp only[NJ,NH] at h;show s.nm.length<=1300
  grind
theorem CR{s:Sm}{t:zaf Tr}(h:∃x,t=Z x/\il x/\s.e=x.post)(q:Str)(hq:q=[]\/q=[61]) :
  Zdn.g s.k s.o s.a s.b s.c s.u s.e s.nm q=Z (if q=[] then et t else 61::32::et t,()):=by
 obtain⟨x,rfl,hx,he⟩:=h;have hl:=dV x hx.1 hx.2.1;have hl2:=hx.2.2.2;unfold Zdn.g Zdn.f;rw[he,FP hx.1 hx.2.1 hx.2.2.1 hx.2.2.2,NE];dsimp only;obtain⟨c,r,h1,h2⟩:=Bu x hx.1;rcases hq with rfl|rfl;·rw[U (by decide),U (by simp;omega),Bp _ (by simp;omega),NE,U rfl];show Z ((([]++[32])++x.txt).dropWhile (· == 32),())=Z (x.txt,());simp_all
 ·rw[U (by decide),U (by simp;omega),Bp _ (by simp;omega),NE,Y (by decide)];rfl
theorem Ff(s:Sm)(t:zaf Tr)(out:D Str)(mn:Str)(n:G)(ods:D Od)(ho:∀d∈ods,Jn s t d)(hl:ods.length<=3):∀(m i:G) (l:D Str),i<=ods.length->ods.length-i<m->l.length=i ->
  Zaf.l12 n m out mn l (ods.map odF) (ods.length:I) (i:I) s.k s.o s.a s.b s.c s.u s.e s.nm=Zaf.l12 n 1 out mn (l++(ods.drop i).map (wtx s t)) (ods.map odF) (ods.length:I) (ods.length:I) s.k s.o s.a s.b s.c s.u s.e s.nm:=by
 intro m
 induction m with
 |zero=>grind
 |succ m ih=>
  intro i l hi hm hli;by_cases h:i<ods.length
  ·have hd:ods.drop i=ods[i]::ods.drop (i+1):=Oe h;have hg:(ods.map odF).getD ((i:I)).toNat (((0,[]):Fn),(((0,[]):Fn),()))=odF ods[i]:=by
    grind
   have hok:=ho ods[i] (Oo h);have next:=λx:Str=>ih (i+1) (l++[x]) (by omega) (by omega) (by simp[hli])
   rw[Zaf.l12,U (by simp;omega),U (by simp;omega),hg,hd,NY];have W1:zac.wrap ((i:I)+1)=((i+1:G):I):=by grind [w64]
   have fin:∀x:Str,(if(l.length+([x]:D Str).length)*16<=140737488355328/\0<16/\0<1 then(Zaf.j15 n (Zaf.l12 n m) out mn (l++([x]:D Str)) (ods.map odF) (ods.length:I) (i:I) s.k s.o s.a s.b s.c s.u s.e s.nm) else zaj) =
     Zaf.l12 n 1 out mn (l++x::(ods.drop (i+1)).map (wtx s t)) (ods.map odF) (ods.length:I) (ods.length:I) s.k s.o s.a s.b s.c s.u s.e s.nm:=λx=>by
    rw[U (by simp;omega)]
    grind [Zaf.j15]
   generalize hx:ods[i]=d at hok⊢;cases d with
   |A=>
    show(if K.wrA=K.wrA then _ else _)=_;rw[U rfl];unfold Zca.g Zca.f Zeg.g Zeg.f;rw[U rfl,NE];dsimp only;rw[vR hok,NE,NE];exact fin _
   |B=>
    show(if K.wrB=K.wrA then _ else if K.wrB=K.wrB then _ else _)=_;rw[Y (by decide),U rfl];unfold Zca.g Zca.f Zeh.g Zeh.f;rw[Y (by decide),U rfl,NE];dsimp only;rw[vR hok,NE,NE];exact fin _
   |C=>
    show(if K.wrC=K.wrA then _ else if K.wrC=K.wrB then _ else if K.wrC=K.wrC then _ else _)=_;rw[Y (by decide),Y (by decide),U rfl];unfold Zca.g Zca.f Zei.g Zei.f;rw[Y (by decide),Y (by decide),U rfl,NE];dsimp only;rw[vR hok,NE,NE];exact fin _
   |E=>
    show(if K.wrE=K.wrA then _ else if K.wrE=K.wrB then _ else if K.wrE=K.wrC then _ else if K.wrE=K.wrE then _ else _)=_;rw[Y (by decide),Y (by decide),Y (by decide),U rfl,CR hok [] (.inl rfl),NE];exact fin _
   |Q=>
    show(if K.wrQ=K.wrA then _ else if K.wrQ=K.wrB then _ else if K.wrQ=K.wrC then _ else if K.wrQ=K.wrE then _ else if K.wrQ=K.wrQ then _ else _)=_;rw[Y (by decide),Y (by decide),Y (by decide),Y (by decide),U rfl,CR hok [61] (.inr rfl),NE];exact fin _
   |N=>
    show(if K.wrN=K.wrA then _ else if K.wrN=K.wrB then _ else if K.wrN=K.wrC then _ else if K.wrN=K.wrE then _ else if K.wrN=K.wrQ then _ else if K.wrN=K.wrN then _ else _)=_;rw[Y (by decide),Y (by decide),Y (by decide),Y (by decide),Y (by decide),U rfl];unfold Zej.g Zej.f;rw[NE];exact fin _
  ·have hi':i=ods.length:=by omega
   simp_all [Zaf.l12]
def hk(k:I):I:=if k=2 then 1 else if k=6 then 7 else k
def mtx(s:Sm):Str:=(if s.k=9\/s.k=10 then[46] else[])++L.mnemR (hk s.k) s.o s.u
def stx(s:Sm)(t:zaf Tr):Str:=if s.k=0 then[] else mtx s++32::L.sjoinR [44,32] ((odL s.k s.o).map (wtx s t))
def ltx(lb:Str)(s:Sm)(t:zaf Tr):Str:=if lb=[] then stx s t else lb++58::(if s.k=0 then[] else 32::stx s t)
theorem MG:∀e∈L.nameTbl,e.2.2.length<=6:=by decide +kernel
theorem lH(k o:I)(u:zah):(L.mnemR k o u).length<=6:=by
 by_cases h:L.mnemR k o u=[]
 ·rw[h];simp
 ·obtain⟨e,he,_,h2⟩:=Ac h
  grind [MG]
theorem zF(sep:Str)(b:G):∀(l:D Str),(∀x∈l,x.length<=b)->((l.map (sep++·)).flatten).length<=(b+sep.length)*l.length
 |[],_=>by simp
 |y::r,h=>by
  have h1:=h y (by simp);have h2:=zF sep b r λz hz=>h z (by simp[hz])
  rw[NY,List.flatten_cons,NP,NP,N7,Nat.mul_add,Nat.mul_one];omega
theorem rJ(sep:Str)(b:G)(l:D Str)(h:∀x∈l,x.length<=b):(L.sjoinR sep l).length<=(b+sep.length)*l.length:=by
 cases l with
 |nil=>simp[L.sjoinR]
 |cons x r=>
  have h1:=h x (by simp);have h2:=zF sep b r λz hz=>h z (by simp[hz])
  rw[show L.sjoinR sep (x::r)=x++(r.map (sep++·)).flatten from rfl,NP,N7,Nat.mul_add,Nat.mul_one];omega
theorem IY{k:I}(h:0<=k)(h2:k<=10):-9223372036854775808<=hk k/\hk k<=9223372036854775807:=by grind [hk]
theorem IX(k:I):Zea.g k=Z (hk k,()):=by
 unfold Zea.g Zea.f hk
 grind
theorem FL(k:I):Zeb.g k=Z (zaa (k=9\/k=10),()):=by
 unfold Zeb.g Zeb.f
 grind
abbrev fG(lb:Str)(s:Sm):zaf (Str×I×zai):=Zaf.g lb s.k s.o s.a s.b s.c s.u s.e s.nm
theorem wG{s:Sm}{t:zaf Tr}(h:GoodS s t):0<=s.k/\s.k<=10/\0<=s.o/\s.o<=15:=by
 cases h with
 |none=>decide
 |ins0 h hk=>obtain⟨h1,h2,h3,h4⟩:=lD h;grind
 |ins1 h hk ht=>obtain⟨h1,h2,h3,h4⟩:=lD h;grind
 |load ha ht=>grind
 |word ht=>grind
 |exp hn=>grind
theorem EC{s:Sm}{t:zaf Tr}(h:GoodS s t){lb:Str}(hlb:lb=[]\/aF lb=zab):fG lb s=Z (ltx lb s t,0,()):=by
 have hod:=wH h;have hkr:=wG h;have hl3:=sj s.k s.o;have hll:lb.length<=12:=by
  rcases hlb with rfl|hlb;·simp
  simp_all [aF]
 have hbody:(L.sjoinR [44,32] ((odL s.k s.o).map (wtx s t))).length<=4000:=by
  have:=rJ [44,32] 1300 ((odL s.k s.o).map (wtx s t)) (λx hx=>by
   obtain⟨d,hd,rfl⟩:=N8.1 hx;exact DC (hod d hd))
  grind
 have hmt:(mtx s).length<=7:=by
  grind [mtx,lH]
 have hm:L.mnemO (hk s.k) s.o s.u=Z (L.mnemR (hk s.k) s.o s.u,()):=Jh s.u (IY hkr.1 hkr.2.1) (by omega);have J17:∀(n:G) (out:D Str),(L.sjoinR [32] out).length<=10000->out.length<=10->Zaf.j17 n out=Z (L.sjoinR [32] out,0,()):=λn out h1 h2=>by
  unfold Zaf.j17 L.sjoinO
  grind
 have J10:∀(n:G) (out:D Str),10<=n->out.length<=1->(∀x∈out,x.length<=13)->Zaf.j10 n out (mtx s) s.k s.o s.a s.b s.c s.u s.e s.nm=Z (L.sjoinR [32] (out++[mtx s,L.sjoinR [44,32] ((odL s.k s.o).map (wtx s t))]),0,()):=λn out hn ho hx=>by
  unfold Zaf.j10;have hlen:((L.opsR s.k s.o).length:I)=((odL s.k s.o).length:I):=by rw[CW,Ow]
  rw[hlen,CW];have:=Ff s t out (mtx s) n (odL s.k s.o) hod hl3 n 0 [] (by omega) (by omega) rfl;rw[show((0:G):I)=0 from rfl] at this;rw[this,Om,Oc,Zaf.l12];simp only[dt];rw[Y (by omega)];unfold L.sjoinO;rw[U ⟨by omega,by grind⟩,NE];dsimp only;rw[U (by simp;omega)];refine J17 n _ ?_ (by simp;omega);generalize L.sjoinR [44,32] ((odL s.k s.o).map (wtx s t))=B at hbody;generalize mtx s=M at hmt
  match out,ho with
  |[],_=>simp[L.sjoinR];omega
  |[x],_=>grind [L.sjoinR]
 have J6:∀(n:G) (out:D Str),10<=n->out.length<=1->(∀x∈out,x.length<=13)->Zaf.j6 n out s.k s.o s.a s.b s.c s.u s.e s.nm=Z (L.sjoinR [32] (out++(if s.k=0 then[] else[mtx s,L.sjoinR [44,32] ((odL s.k s.o).map (wtx s t))])),0,()):=λn out hn ho hx=>by
  unfold Zaf.j6;simp only[dt,IX,NE,hm,FL];by_cases h0:s.k=0
  ·rw[Y (by simp[h0]),U h0,N9];refine J17 n out ?_ (by omega)
   match out,ho with
   |[],_=>simp[L.sjoinR]
   |[x],_=>grind [L.sjoinR]
  ·rw[U h0,Y h0,<- J10 n out hn ho hx];unfold mtx;by_cases hd:s.k=9\/s.k=10
   ·rw[U hd,U (by grind [lH]),U hd]
   grind
 have J3:∀n,10<=n->Zaf.j3 n lb s.k s.o s.a s.b s.c s.u s.e s.nm=Z (ltx lb s t,0,()):=λn hn=>by
  unfold Zaf.j3 ltx stx;by_cases hl:lb=[]
  ·subst hl;rw[Y (by decide),J6 n [] hn (by simp) (by simp),U rfl];by_cases h0:s.k=0
   ·rw[U h0,U h0];rfl
   simp_all [L.sjoinR]
  ·rw[U (by simp[hl]),U (by simp;omega),U (by simp),J6 n _ hn (by simp) (by simp;omega),Y hl];by_cases h0:s.k=0
   ·simp_all [L.sjoinR]
   simp_all [L.sjoinR]
 unfold fG Zaf.g;have hN:10<=1000+lb.length+s.k.toNat+s.o.toNat+s.a.toNat+s.b.toNat+s.c.toNat+s.e.length+s.nm.length:=by omega
 generalize 1000+lb.length+s.k.toNat+s.o.toNat+s.a.toNat+s.b.toNat+s.c.toNat+s.e.length+s.nm.length=n at hN;unfold Zaf.f;have hmay:Zan.g s.k s.o s.a s.b s.c s.u s.e s.nm=Z (zab,()):=Jf h;rw[hmay,J3 n hN,zU]
 grind
end Rv
namespace Rv
open Go
theorem Eu{s:Str}(h:bG s=zab):aF s=zab:=by
 unfold bG at h;simp only[NJ,NH,Bool.not_eq_true'] at h;unfold aF;simp only[NJ,NH,Bool.not_eq_true']
 grind [isA,isD]
def ek:zaf Tr->D Bt
 |none=>[]
 |some t=>t.toks
theorem LZ{s:Sm}{t:zaf Tr}(h:GoodS s t):(stx s t).length<=4100:=by
 unfold stx;split;·simp
 ·have:=rJ [44,32] 1300 ((odL s.k s.o).map (wtx s t)) (λx hx=>by
   obtain⟨d,hd,rfl⟩:=N8.1 hx;exact DC (wH h d hd))
  rw[Ow] at this;have h2:(1300+([44,32]:Str).length)*(odL s.k s.o).length<=1302*3:=Nat.mul_le_mul (by decide) (sj _ _)
  grind [mtx,lH]
theorem K8{s:Sm}{t:zaf Tr}(h:GoodS s t){lb:Str}(hlb:lb=[]\/aF lb=zab):(ltx lb s t).length<=5000:=by
 have h1:=LZ h;have hll:lb.length<=12:=by
  rcases hlb with rfl|hlb;·simp
  simp_all [aF]
 grind [ltx]
end Rv
namespace Rv
open Go
def oZ(l:D bn)(p:G)(c:UInt8):zah:=zaa (p<l.length)&&zaa ((l.getD p dX).1=3)&&zaa ((l.getD p dX).2.2.1=[c])
abbrev XR:=Except I (D Item×G)
def xF(l:D bn)(S F:G->XR)(p:G):XR:=
 if oZ l p 45=zab then(match F (p+1) with | .error e=>.error e | .ok r=>.ok (r.1++[(3,0,[],())],r.2))
 else if oZ l p 40=zab then(match S (p+1) with | .error e=>.error e | .ok r=>if oZ l r.2 41=zab then .ok (r.1,r.2+1) else .error 23)
 else if p<l.length/\(l.getD p dX).1=2 then .ok ([(1,(l.getD p dX).2.2.2.1,[],())],p+1)
 else if p<l.length/\(l.getD p dX).1=1/\aF (l.getD p dX).2.2.1=zab then .ok ([(2,0,(l.getD p dX).2.2.1,())],p+1)
 else .error 23
def lT(l:D bn)(F:G->XR):G->D Item->G->XR
 |0,it,p=>.ok (it,p)
 |m+1,it,p=>if oZ l p 42=zab then(match F (p+1) with | .error e=>.error e | .ok r=>lT l F m (it++r.1++[(6,0,[],())]) r.2) else .ok (it,p)
def xT(l:D bn)(F:G->XR)(p:G):XR:=match F p with | .error e=>.error e | .ok r=>lT l F (l.length+1) r.1 r.2
def lS(l:D bn)(T:G->XR):G->D Item->G->XR
 |0,it,p=>.ok (it,p)
 |m+1,it,p=>if oZ l p 43=zab then(match T (p+1) with | .error e=>.error e | .ok r=>lS l T m (it++r.1++[(4,0,[],())]) r.2)
  else if oZ l p 45=zab then(match T (p+1) with | .error e=>.error e | .ok r=>lS l T m (it++r.1++[(5,0,[],())]) r.2) else .ok (it,p)
def xS(l:D bn)(F:G->XR)(p:G):XR:=match xT l F p with | .error e=>.error e | .ok r=>lS l (xT l F) (l.length+1) r.1 r.2
def pF(l:D bn):G->G->XR
 |0,_=>.error 24
 |q+1,p=>xF l (xS l (pF l q)) (pF l q) p
def kC(l:D bn)(p:G):D Item×I×I×zai:=
 match xS l (pF l 9) p with
 | .error e=>([],0,e,())
 | .ok r=>if 64<r.1.length then([],0,24,()) else(r.1,(r.2:I),0,())
structure OkX (l:D bn) (p:G) (it:D Item) (p':G):Prop where
 lt:p<p'
 le:p'<=l.length
 len:it.length<=p'-p
 well:iK it
 good:(∀t∈l,0<=t.2.2.2.1/\t.2.2.2.1<=4294967295)->∀x∈it,uf x
def iV(l:D bn)(p:G):XR->Prop
 | .error e=>e=23\/e=24
 | .ok r=>OkX l p r.1 r.2
theorem KW{l:D bn}{p:G}{c:UInt8}(h:oZ l p c=zab):p<l.length:=by
 simp_all [oZ]
theorem FV{l:D bn}{p:G}(h:p<l.length):l.getD p dX∈l:=by
 grind
theorem KU{l:D bn}{S F:G->XR}(hS:∀p,iV l p (S p))(hF:∀p,iV l p (F p))(p:G):iV l p (xF l S F p):=by
 unfold xF;split
 ·rename_i h;have:=hF (p+1);cases hr:F (p+1) with
  |error e=>rw[hr] at this;exact this
  |ok r=>
   rw[hr] at this;have h1:=this.lt;have h2:=this.len;have h3:=this.le;refine⟨by grind,h3,by simp;omega,J9 this.well _ rfl,λht x hx=>?_⟩;simp only[NV,Ob] at hx;rcases hx with hx|rfl;·exact this.good ht x hx
   ·exact⟨by decide,by decide,rfl⟩
 ·split
  ·have:=hS (p+1);cases hr:S (p+1) with
   |error e=>rw[hr] at this;exact this
   |ok r=>
    rw[hr] at this;dsimp only;split;·rename_i h;have h0:=KW h;have h1:=this.lt;have h2:=this.len;have h3:=this.le;exact⟨by grind,by grind,by grind,this.well,this.good⟩
    ·exact .inl rfl
  ·split
   ·rename_i h;refine⟨by grind,by grind,by simp,rfl,λht x hx=>?_⟩;simp only[Ob] at hx;subst hx;have:=ht _ (FV h.1);exact⟨this.1,this.2,rfl⟩
   ·split
    ·rename_i h;have hn:aJ (2,0,(l.getD p dX).2.2.1,())=(0,zab):=by
      generalize (l.getD p dX).2.2.1=tx at h
      grind [aJ]
     refine⟨by grind,by grind,by simp,?_,λht x hx=>?_⟩;·show enough 0 [((2,0,(l.getD p dX).2.2.1,()):Item)]=Z 1;simp_all [enough]
     ·simp only[Ob] at hx;subst hx;exact⟨by grind,by grind,by rw[hn]⟩
    ·exact .inl rfl
theorem qI{l:D bn}{a b c:G}{A B:D Item}(ha:OkX l a A b)(hb:OkX l (b+1) B c)(x:Item)(hx:aJ x=(2,zab))(h0:x.2.1=0):OkX l a (A++B++[x]) c:=by
 have h1:=ha.lt;have h2:=ha.len;have h3:=hb.lt;have h4:=hb.len;refine⟨by omega,hb.le,by simp;omega,Ka ha.well hb.well x hx,λht y hy=>?_⟩;simp only[NV,Ob] at hy;rcases hy with(hy|hy)|rfl;·exact ha.good ht y hy
 ·exact hb.good ht y hy
 ·exact⟨by rw[h0];decide,by rw[h0];decide,by rw[hx]⟩
theorem zK{l:D bn}{F:G->XR}(hF:∀p,iV l p (F p))(a:G):∀(m:G) (it:D Item) (p:G),OkX l a it p->iV l a (lT l F m it p)
 |0,it,p,h=>h
 |m+1,it,p,h=>by
  rw[lT];split
  ·have:=hF (p+1);cases hr:F (p+1) with
   |error e=>rw[hr] at this;exact this
   |ok r=>
    rw[hr] at this;exact zK hF a m _ _ (qI h this _ rfl rfl)
  ·exact h
theorem CB{l:D bn}{F:G->XR}(hF:∀p,iV l p (F p))(p:G):iV l p (xT l F p):=by
 unfold xT;have:=hF p;cases hr:F p with
 |error e=>grind
 |ok r=>rw[hr] at this;exact zK hF p _ _ _ this
theorem ug{l:D bn}{F:G->XR}(hF:∀p,iV l p (F p))(a:G):∀(m:G) (it:D Item) (p:G),OkX l a it p->iV l a (lS l F m it p)
 |0,it,p,h=>h
 |m+1,it,p,h=>by
  rw[lS];split
  ·have:=hF (p+1);cases hr:F (p+1) with
   |error e=>rw[hr] at this;exact this
   |ok r=>
    rw[hr] at this;exact ug hF a m _ _ (qI h this _ rfl rfl)
  ·split
   ·have:=hF (p+1);cases hr:F (p+1) with
    |error e=>rw[hr] at this;exact this
    |ok r=>
     rw[hr] at this;exact ug hF a m _ _ (qI h this _ rfl rfl)
   ·exact h
theorem wF{l:D bn}{F:G->XR}(hF:∀p,iV l p (F p))(p:G):iV l p (xS l F p):=by
 unfold xS;have:=CB hF p;cases hr:xT l F p with
 |error e=>grind
 |ok r=>rw[hr] at this;exact ug (CB hF) p _ _ _ this
theorem oU(l:D bn):∀(q p:G),iV l p (pF l q p)
 |0,_=>.inr rfl
 |q+1,p=>KU (wF (oU l q)) (oU l q) p
end Rv
namespace Rv
open Go
def pk(kd:I)(l:D bn)(p:G)(e:I):Str:=if e=0/\p<l.length/\(l.getD p dX).1=kd then(l.getD p dX).2.2.1 else[]
def chk(ok:zah)(e:I):I:=if ok=zad/\e=0 then 22 else e
def chK(l:D bn)(p:G)(e:I)(s:Sm):I:=
 if s.k=1/\((jy (pk 1 l p e)).2=zad\/(s.u=zab/\s.o=0)) then 2 else if s.k=7/\(jy (pk 1 l p e)).2=zab then 6 else s.k
def rdE(l:D bn)(p:G)(e:I)(s:Sm):G×I×Sm:=if e=0 then((kC l p).2.1.toNat,(kC l p).2.2.1,{ s with e:=(kC l p).1 }) else(p,e,s)
def rd(l:D bn)(p:G)(e:I)(s:Sm):Od->G×I×Sm
 | .A=>(p+1,chk (jy (pk 1 l p e)).2 e,{ s with a:=(jy (pk 1 l p e)).1 })
 | .B=>(p+1,chk (jy (pk 1 l p e)).2 e,{ s with b:=(jy (pk 1 l p e)).1 })
 | .C=>(p+1,chk (jy (pk 1 l p e)).2 e,{ s with c:=(jy (pk 1 l p e)).1 })
 | .E=>rdE l p e s
 | .Q=>rdE l (p+1) (chk (zaa (pk 3 l p e=[61])) e) s
 | .N=>(p+1,chk (bG (pk 1 l p e)) e,{ s with nm:=pk 1 l p e })
section
variable{l:D bn}(hl0:l.length<=1000000)(hl:∀t∈l,t.2.2.1.length<=1000000)
def aY(l:D bn)(op:I)(many i p:G)(e:I)(s:Sm):G×I×Sm:=
 let p1:=if 0<i then p+1 else p
 let e1:=if 0<i then chk (zaa (pk 3 l p e=[44])) e else e
 let s1:=if i+1=many then { s with k:=chK l p1 e1 s } else s
 match (odL s1.k op)[i]? with
 |some d=>rd l p1 e1 s1 d
 |none=>(p1,e1,s1)
def fZ(l:D bn)(op:I)(many:G):G->G->G×I×Sm->G×I×Sm
 |0,_,r=>r
 |m+1,i,r=>fZ l op many m (i+1) (aY l op many i r.1 r.2.1 r.2.2)
abbrev PR:=Str×I×I×I×I×I×zah×D Item×Str×I×zai
def Ez(lb:Str)(e:I)(s:Sm):PR:=if e≠0 then([],0,0,0,0,0,zad,[],[],e,()) else(lb,s.k,s.o,s.a,s.b,s.c,s.u,s.e,s.nm,0,())
def Eb(l:D bn)(lb:Str)(r:G×I×Sm):PR:=Ez lb (chk (zaa (l.length<=r.1)) r.2.1) r.2.2
theorem Cr(p:G)(e:I)(s:Sm)(op:I):(odL (chK l p e s) op).length=(odL s.k op).length:=by
 unfold chK;split;·grind [odL]
 ·split
  ·rename_i h;rw[h.1];rfl
  ·rfl
def vg(l:D bn)(lb:Str)(p:G)(e:I):PR:=
 if e=0/\p<l.length then
  let t:=l.getD p dX
  let w:=L.ofR t.2.2.1
  let ok:=w.2.2.2.1&&(zaa (t.1=4) == zaa (w.1=9\/w.1=10))&&(zaa (t.1=4)||zaa (t.1=1))
  Eb l lb (fZ l w.2.1 (odL w.1 w.2.1).length (odL w.1 w.2.1).length 0 (p+1,chk ok e,⟨w.1,w.2.1,0,0,0,w.2.2.1,[],[]⟩))
 else Ez lb e ⟨0,0,0,0,0,zad,[],[]⟩
def vF(l:D bn):PR:=
 if 1<l.length/\(l.getD 0 dX).1=1/\oZ l 1 58=zab then vg l (l.getD 0 dX).2.2.1 2 (chk (aF (l.getD 0 dX).2.2.1) 0) else vg l [] 0 0
end
end Rv
namespace Rv
open Go
theorem JY{l:D bn}{op:I}{many p:G}{s:Sm}{d:Od}(hm:many≠1)(hd:(odL s.k op)[0]?=Z d):aY l op many 0 p 0 s=rd l p 0 s d:=by
 unfold aY
 grind
theorem LY{l:D bn}{op:I}{many p:G}{s:Sm}{d:Od}{K:I}(hm:many=1)(hK:chK l p 0 s=K)(hd:(odL K op)[0]?=Z d):aY l op many 0 p 0 s=rd l p 0 { s with k:=K } d:=by
 simp_all [aY]
theorem jG{l:D bn}{p:G}{e:I}{s:Sm}(h1:s.k≠1)(h7:s.k≠7):chK l p e s=s.k:=by
 simp_all [chK]
end Rv
namespace Rv
open Go
def smP(lb:Str)(s:Sm):PR:=(lb,s.k,s.o,s.a,s.b,s.c,s.u,s.e,s.nm,0,())
def noP(e:I):PR:=([],0,0,0,0,0,zad,[],[],e,())
def FD(t:zaf Tr):Prop:=∀x,t=Z x->x.dep<=8
end Rv
namespace Rv
open Go
def jo:Str->D Str
 |[]=>[]
 |b::s=>if b=10 then[]::jo s else match jo s with
  |[]=>[[b]]
  |l::r=>(b::l)::r
theorem ul:∀s:Str,(jo s).length<=s.length/\∀l∈jo s,l.length<=s.length
 |[]=>⟨NL _,λl h=>by cases h⟩
 |b::s=>by
  obtain⟨h1,h2⟩:=ul s;rw[jo];split
  ·refine⟨by simp;omega,λl hl=>?_⟩;rcases NT.1 hl with rfl|hl
   ·simp
   ·have:=h2 l hl;simp;omega
  ·split
   ·refine⟨by simp,λl hl=>?_⟩;rw[Ob] at hl;subst hl;simp
   ·rename_i x r hx;rw[hx] at h1 h2;refine⟨by simp at h1⊢;omega,λl hl=>?_⟩;rcases NT.1 hl with rfl|hl
    ·have:=h2 x (OB ..);simp;omega
    ·have:=h2 l (NU _ hl);simp;omega
def uu(s:Str):PR:=let y:=si [] (iD 0 s);if y.2.1≠0 then noP y.2.1 else vF y.1
abbrev D9(p:PR):I:=p.2.2.2.2.2.2.2.2.2.1
abbrev lnP(p:PR):Ln:=(p.1,(p.2.1,p.2.2.1,p.2.2.2.1,p.2.2.2.2.1,p.2.2.2.2.2.1,p.2.2.2.2.2.2.1,p.2.2.2.2.2.2.2.1,p.2.2.2.2.2.2.2.2.1,()),())
def iX:G->D Str->Except (G×I) (D Ln)
 |_,[]=>.ok []
 |i,s::r=>if D9 (uu s)≠0 then .error (i+1,D9 (uu s)) else match iX (i+1) r with
  | .error x=>.error x
  | .ok l=>.ok (lnP (uu s)::l)
def Jq(out:D Ln):Except (G×I) (D Ln)->D Ln×I×I×zai
 | .ok l=>(out++l,0,0,())
 | .error x=>([],(x.1:I),x.2,())
def vG(s:Str):D Ln×I×I×zai:=
 if 262144<s.length then([],0,2,()) else if 4096<(jo s).length then([],0,2,()) else Jq [] (iX 0 (jo s))
theorem zA:∀(l:D Str) (i:G) (r:D Ln),iX i l=.ok r->r.length=l.length
 |[],i,r,h=>by rw[iX] at h;cases h;rfl
 |s::l,i,r,h=>by
  rw[iX] at h;split at h;·cases h
  ·cases hr:iX (i+1) l with
   |error x=>rw[hr] at h;cases h
   |ok q=>rw[hr] at h;cases h;simp[zA l (i+1) q hr]
def Bb(x:Ln):Prop:=x.2.1.2.2.2.2.2.2.1.length<=64
theorem Aj{s:Str}(hs:s.length<=4096):vG s=Jq [] (iX 0 (jo s)):=by
 unfold vG;have:=(ul s).1;rw[Y (by omega),Y (by omega)]
end Rv
namespace Rv
open Go
section
variable{l l':D bn}(hl:l.length=l'.length)(hb:∀p,bare (l.getD p dX)=bare (l'.getD p dX))
end
end Rv
namespace Rv
open Go
structure GLn where
 lb:Str
 s:Sm
 t:zaf Tr
 hl:lb=[]\/aF lb=zab
 hg:GoodS s t
abbrev lnS(lb:Str)(s:Sm):Ln:=(lb,(s.k,s.o,s.a,s.b,s.c,s.u,s.e,s.nm,()),())
abbrev GLn.ln(x:GLn):Ln:=lnS x.lb x.s
abbrev GLn.tx(x:GLn):Str:=ltx x.lb x.s x.t
end Rv
namespace Rv
open Go
theorem dW{b:zah}{e:I}(h:chk b e=0):e=0/\b=zab:=by
 unfold chk at h;split at h;·exact absurd h (by decide)
 ·rename_i g;refine⟨h,?_⟩;cases b
  ·exact absurd ⟨rfl,h⟩ g
  ·rfl
def gT(e:I):Prop:=e=0\/e=22\/e=23\/e=24
theorem fK{b:zah}{e:I}(h:gT e):gT (chk b e):=by
 unfold chk;split;·exact .inr (.inl rfl)
 ·exact h
theorem uC{s:Str}(h:(jy s).2=zab):rg (jy s).1:=by
 unfold jy at h⊢;cases hf:(List.range 16).find? (λk=>iN k == s) with
 |none=>rw[hf] at h;cases h
 |some k=>have:=(EI hf).1;exact⟨by dsimp only;omega,by dsimp only;omega⟩
section
variable{l:D bn}(hw:∀t∈l,0<=t.2.2.2.1/\t.2.2.2.1<=4294967295)
theorem EB(p:G):gT (kC l p).2.2.1:=by
 unfold kC;have hg:=wF (oU l 9) p;cases hx:xS l (pF l 9) p with
 |error e=>rw[hx] at hg;rcases hg with rfl|rfl;exact .inr (.inr (.inl rfl));exact .inr (.inr (.inr rfl))
 |ok r=>dsimp only;split;exact .inr (.inr (.inr rfl));exact .inl rfl
include hw in
theorem BV{p:G}(h:(kC l p).2.2.1=0):∃t,il t/\(kC l p).1=t.post:=by
 unfold kC at h⊢;have hg:=wF (oU l 9) p;cases hx:xS l (pF l 9) p with
 |error e=>
  rw[hx] at h hg;have h:e=0:=h;rcases hg with rfl|rfl<;>cases h
 |ok r=>
  rw[hx] at h hg;dsimp only at h⊢;split at h;·cases h
  ·rename_i h64;rw[Y h64];obtain⟨t,h1,h2,h3⟩:=Ma hg.well (hg.good hw);exact⟨t,⟨h2,h3,by rw[h1];exact hg.well,by rw[h1];omega⟩,h1.symm⟩
theorem Aq{p:G}{e:I}{s:Sm}{d:Od}(h:(rd l p e s d).2.1=0):e=0:=by
 have hE:∀p e,(rdE l p e s).2.1=0->e=0:=λp e h=>by
  unfold rdE at h;split at h;·assumption
  ·exact h
 cases d with
 |A=>exact(dW h).1
 |B=>exact(dW h).1
 |C=>exact(dW h).1
 |N=>exact(dW h).1
 |E=>exact hE _ _ h
 |Q=>exact(dW (hE _ _ h)).1
theorem Nc{p:G}{e:I}{s:Sm}{d:Od}(h:gT e):gT (rd l p e s d).2.1:=by
 have hE:∀p e,gT e->gT (rdE l p e s).2.1:=λp e h=>by
  unfold rdE;split;·exact EB p
  ·exact h
 cases d with
 |A=>exact fK h
 |B=>exact fK h
 |C=>exact fK h
 |N=>exact fK h
 |E=>exact hE _ _ h
 |Q=>exact hE _ _ (fK h)
theorem step_ok{op:I}{many i p:G}{e:I}{s:Sm}(h:gT e):gT (aY l op many i p e s).2.1:=by
 unfold aY;dsimp only;have h1:gT (if 0<i then chk (zaa (pk 3 l p e=[44])) e else e):=by split;exact fK h;exact h
 split;·exact Nc h1
 ·exact h1
theorem wN{op:I}{many:G}:∀(m i:G) (r:G×I×Sm),gT r.2.1->gT (fZ l op many m i r).2.1
 |0,_,_,h=>h
 |m+1,i,r,h=>wN m (i+1) _ (step_ok h)
theorem bB{op:I}{many i p:G}{e:I}{s:Sm}(h:(aY l op many i p e s).2.1=0):e=0:=by
 unfold aY at h;dsimp only at h;have h1:(if 0<i then chk (zaa (pk 3 l p e=[44])) e else e)=0->e=0:=λh=>by
  split at h;·exact(dW h).1
  ·exact h
 split at h;·exact h1 (Aq h)
 ·exact h1 h
theorem nT{p:G}{s:Sm}(h:(rd l p 0 s .A).2.1=0):∃a,rg a/\(rd l p 0 s .A).2.2={ s with a:=a }:=⟨_,uC (dW h).2,rfl⟩
theorem Gy{p:G}{s:Sm}(h:(rd l p 0 s .B).2.1=0):∃a,rg a/\(rd l p 0 s .B).2.2={ s with b:=a }:=⟨_,uC (dW h).2,rfl⟩
theorem Ap{p:G}{e:I}{s:Sm}(h:(rd l p e s .C).2.1=0):∃a,rg a/\(rd l p e s .C).2.2={ s with c:=a }:=⟨_,uC (dW h).2,rfl⟩
theorem MJ{p:G}{s:Sm}(h:(rd l p 0 s .N).2.1=0):∃a,bG a=zab/\(rd l p 0 s .N).2.2={ s with nm:=a }:=⟨_,(dW h).2,rfl⟩
include hw in
theorem nU{p:G}{e:I}{s:Sm}(h:(rdE l p e s).2.1=0):∃t,il t/\(rdE l p e s).2.2={ s with e:=t.post }:=by
 unfold rdE at h⊢;split at h;·rename_i he;rw[U he];obtain⟨t,h1,h2⟩:=BV hw h;exact⟨t,h1,by dsimp only;rw[h2]⟩
 ·rename_i he;exact absurd h he
theorem pU{op:I}{many p:G}{s:Sm}{d:Od}(hm:many≠1)(hd:(odL s.k op)[0]?=Z d):aY l op many 0 p 0 s=rd l p 0 s d:=JY hm hd
theorem G8{op:I}{many i p:G}{s:Sm}{d:Od}(h0:0<i)(hm:i+1≠many)(hd:(odL s.k op)[i]?=Z d)(h:(aY l op many i p 0 s).2.1=0):aY l op many i p 0 s=rd l (p+1) 0 s d:=by
 have key:aY l op many i p 0 s=rd l (p+1) (chk (zaa (pk 3 l p 0=[44])) 0) s d:=by
  unfold aY;dsimp only;rw[U h0,U h0,Y hm,hd]
 rw[key] at h⊢;rw[Aq h]
theorem sH{op:I}{many i p:G}{s:Sm}(h0:0<i)(hm:i+1=many)(hl:i<(odL s.k op).length)(h:(aY l op many i p 0 s).2.1=0):∃K d,chK l (p+1) 0 s=K/\(odL K op)[i]?=Z d/\aY l op many i p 0 s=rd l (p+1) 0 { s with k:=K } d:=by
 obtain⟨d,hd⟩:∃d,(odL (chK l (p+1) (chk (zaa (pk 3 l p 0=[44])) 0) s) op)[i]?=Z d:=⟨_,NQ (by rw[Cr];exact hl)⟩
 have key:aY l op many i p 0 s=rd l (p+1) (chk (zaa (pk 3 l p 0=[44])) 0) { s with k:=chK l (p+1) (chk (zaa (pk 3 l p 0=[44])) 0) s } d:=by
  unfold aY;dsimp only;rw[U h0,U h0,U hm];dsimp only;rw[hd]
 have he:chk (zaa (pk 3 l p 0=[44])) 0=0:=by rw[key] at h;exact Aq h
 rw[he] at key hd;exact⟨_,d,rfl,hd,key⟩
theorem nZ{op:I}{p:G}{s:Sm}(hl:0<(odL s.k op).length):∃K d,chK l p 0 s=K/\(odL K op)[0]?=Z d/\aY l op 1 0 p 0 s=rd l p 0 { s with k:=K } d:=by
 obtain⟨d,hd⟩:∃d,(odL (chK l p 0 s) op)[0]?=Z d:=⟨_,NQ (by rw[Cr];exact hl)⟩
 exact⟨_,d,rfl,hd,LY rfl rfl hd⟩
theorem Cs{p:G}{s:Sm}(h:s.k=1):chK l p 0 s=2\/(chK l p 0 s=1/\¬(s.u=zab/\s.o=0)):=by
 unfold chK;split;·exact .inl rfl
 ·rename_i g;rw[Y (λq=>by omega)];exact .inr ⟨h,λq=>g ⟨h,.inr q⟩⟩
theorem Fz{p:G}{s:Sm}(h:s.k=7):chK l p 0 s=6\/chK l p 0 s=7:=by
 unfold chK;rw[Y (λq=>by omega)];split;·exact .inl rfl
 ·exact .inr h
theorem Lg:∀e∈L.nameTbl,(e.2.1.1=1/\0<=e.2.1.2.1/\e.2.1.2.1<12/\(e.2.1.2.2=zab->e.2.1.2.1=0\/8<=e.2.1.2.1/\e.2.1.2.1<=10))\/((e.2.1.1=3\/e.2.1.1=4\/e.2.1.1=8\/e.2.1.1=9\/e.2.1.1=10)/\e.2.1.2.1=0/\e.2.1.2.2=zad)\/(e.2.1.1=5/\0<=e.2.1.2.1/\e.2.1.2.1<4/\e.2.1.2.2=zad)\/(e.2.1.1=7/\0<=e.2.1.2.1/\e.2.1.2.1<16):=by decide +kernel
theorem Jm{s:Str}(h:(L.ofR s).2.2.2.1=zab):∃k o u,L.ofR s=(k,o,u,zab,())/\((k=1/\0<=o/\o<12/\(u=zab->o=0\/8<=o/\o<=10))\/((k=3\/k=4\/k=8\/k=9\/k=10)/\o=0/\u=zad)\/(k=5/\0<=o/\o<4/\u=zad)\/(k=7/\0<=o/\o<16)):=by
 unfold L.ofR at h⊢;cases hf:L.nameTbl.find? λe=>e.2.2 == s with
 |none=>rw[hf] at h;cases h
 |some e=>exact⟨e.2.1.1,e.2.1.2.1,e.2.1.2.2,rfl,Lg e (List.mem_of_find?_eq_some hf)⟩
include hw in
theorem Fa{k o:I}{u:zah}(hk:(k=1/\0<=o/\o<12/\(u=zab->o=0\/8<=o/\o<=10))\/((k=3\/k=4\/k=8\/k=9\/k=10)/\o=0/\u=zad)\/(k=5/\0<=o/\o<4/\u=zad)\/(k=7/\0<=o/\o<16))(p:G){e:I}
  (h:(fZ l o (odL k o).length (odL k o).length 0 (p,e,⟨k,o,0,0,0,u,[],[]⟩)).2.1=0):∃t,GoodS (fZ l o (odL k o).length (odL k o).length 0 (p,e,⟨k,o,0,0,0,u,[],[]⟩)).2.2 t:=by
 have hnil:∀{α:Type}{x:α}{i:G},([]:D α)[i]?=Z x->False:=λh=>by simp at h
 rcases hk with⟨rfl,ho,ho2,hu⟩|⟨hk,rfl,rfl⟩|⟨rfl,ho,ho2,rfl⟩|⟨rfl,ho,ho2⟩
 ·by_cases h0:o=0
  ·subst h0;have e1:(odL 1 0).length=2:=rfl;rw[e1] at h⊢;simp only[fZ] at h⊢;generalize hr0:aY l 0 2 0 p e ⟨1,0,0,0,0,u,[],[]⟩=r0 at h⊢;generalize hr1:aY l 0 2 1 r0.1 r0.2.1 r0.2.2=r1 at h⊢;have z0:r0.2.1=0:=by rw[<- hr1] at h;exact bB h
   have ze:e=0:=by rw[<- hr0] at z0;exact bB z0
   subst ze;rw[pU (d:=.A) (by decide) rfl] at hr0;obtain⟨a,ha,hs⟩:=nT (l:=l) (p:=p) (s:=⟨1,0,0,0,0,u,[],[]⟩) (by rw[hr0];exact z0);rw[hr0] at hs;rw[z0,hs] at hr1;obtain⟨K,d,hK,hd,hst⟩:=sH (l:=l) (op:=0) (many:=2) (i:=1) (p:=r0.1) (s:=⟨1,0,a,0,0,u,[],[]⟩) (by decide) rfl (by show 1<2;decide) (by rw[hr1];exact h);rw[hst] at hr1;rcases Cs (l:=l) (p:=r0.1+1) (s:=⟨1,0,a,0,0,u,[],[]⟩) rfl with c|⟨c,hn⟩
   ·rw[hK] at c;subst c;obtain rfl:d=.E:=by have hd:Z Od.E=Z d:=hd;exact(NF hd).symm
    obtain⟨t,ht,hs2⟩:=nU hw (p:=r0.1+1) (e:=0) (s:=⟨2,0,a,0,0,u,[],[]⟩) (by show(rd l (r0.1+1) 0 _ .E).2.1=0;rw[hr1];exact h);have hs2:(rd l (r0.1+1) 0 ⟨2,0,a,0,0,u,[],[]⟩ .E).2.2=_:=hs2;rw[hr1] at hs2;rw[hs2];exact⟨Z t,.ins1 (.movi ha) (.inl rfl) ht⟩
   ·rw[hK] at c;subst c;obtain rfl:d=.C:=by have hd:Z Od.C=Z d:=hd;exact(NF hd).symm
    obtain⟨c,hc,hs2⟩:=Ap (l:=l) (p:=r0.1+1) (e:=0) (s:=⟨1,0,a,0,0,u,[],[]⟩) (by rw[hr1];exact h);rw[hr1] at hs2;rw[hs2];have:u=zad:=by cases u;rfl;exact absurd ⟨rfl,rfl⟩ hn
    subst this;exact⟨zaj,.ins0 (.mov ha hc) (.inl rfl)⟩
  ·have hop:0<o:=by omega
   have e1:(odL 1 o).length=3:=by rw[nP hop];rfl
   rw[e1] at h⊢;simp only[fZ] at h⊢;generalize hr0:aY l o 3 0 p e ⟨1,o,0,0,0,u,[],[]⟩=r0 at h⊢;generalize hr1:aY l o 3 1 r0.1 r0.2.1 r0.2.2=r1 at h⊢;generalize hr2:aY l o 3 2 r1.1 r1.2.1 r1.2.2=r2 at h⊢;have z1:r1.2.1=0:=by rw[<- hr2] at h;exact bB h
   have z0:r0.2.1=0:=by rw[<- hr1] at z1;exact bB z1
   have ze:e=0:=by rw[<- hr0] at z0;exact bB z0
   subst ze;rw[pU (d:=.A) (by decide) (by rw[nP hop];rfl)] at hr0;obtain⟨a,ha,hs⟩:=nT (l:=l) (p:=p) (s:=⟨1,o,0,0,0,u,[],[]⟩) (by rw[hr0];exact z0);rw[hr0] at hs;rw[z0,hs] at hr1;rw[G8 (d:=.B) (by decide) (by decide) (by rw[nP hop];rfl) (by rw[hr1];exact z1)] at hr1;obtain⟨b,hb,hs1⟩:=Gy (l:=l) (p:=r0.1+1) (s:=⟨1,o,a,0,0,u,[],[]⟩) (by rw[hr1];exact z1);rw[hr1] at hs1;rw[z1,hs1] at hr2;obtain⟨K,d,hK,hd,hst⟩:=sH (l:=l) (op:=o) (many:=3) (i:=2) (p:=r1.1) (s:=⟨1,o,a,b,0,u,[],[]⟩) (by decide) rfl (by show 2<(odL 1 o).length;rw[e1];decide) (by rw[hr2];exact h);rw[hst] at hr2;have hu':u=zab->8<=o/\o<=10:=λq=>(hu q).resolve_left h0
   rcases Cs (l:=l) (p:=r1.1+1) (s:=⟨1,o,a,b,0,u,[],[]⟩) rfl with c|⟨c,hn⟩
   ·rw[hK] at c;subst c;rw[CU hop] at hd;obtain rfl:d=.E:=by have hd:Z Od.E=Z d:=hd;exact(NF hd).symm
    obtain⟨t,ht,hs2⟩:=nU hw (p:=r1.1+1) (e:=0) (s:=⟨2,o,a,b,0,u,[],[]⟩) (by show(rd l (r1.1+1) 0 _ .E).2.1=0;rw[hr2];exact h);have hs2:(rd l (r1.1+1) 0 ⟨2,o,a,b,0,u,[],[]⟩ .E).2.2=_:=hs2;rw[hr2] at hs2;rw[hs2];exact⟨Z t,.ins1 (.imm hop ho2 ha hb hu') (.inl rfl) ht⟩
   ·rw[hK] at c;subst c;rw[nP hop] at hd;obtain rfl:d=.C:=by have hd:Z Od.C=Z d:=hd;exact(NF hd).symm
    obtain⟨c,hc,hs2⟩:=Ap (l:=l) (p:=r1.1+1) (e:=0) (s:=⟨1,o,a,b,0,u,[],[]⟩) (by rw[hr2];exact h);rw[hr2] at hs2;rw[hs2];exact⟨zaj,.ins0 (.reg hop ho2 ha hb hc hu') (.inl rfl)⟩
 ·rcases hk with rfl|rfl|rfl|rfl|rfl
  ·have e1:(odL 3 0).length=1:=rfl;rw[e1] at h⊢;simp only[fZ] at h⊢;have ze:e=0:=bB h;subst ze;obtain⟨K,d,hK,hd,hst⟩:=nZ (l:=l) (op:=0) (p:=p) (s:=⟨3,0,0,0,0,zad,[],[]⟩) (by show 0<1;decide);rw[jG (show(3:I)≠1 by decide) (show(3:I)≠7 by decide)] at hK;have hK:3=K:=hK;subst hK;obtain rfl:d=.A:=by have hd:Z Od.A=Z d:=hd;exact(NF hd).symm
   rw[hst] at h⊢;obtain⟨a,ha,hs⟩:=nT h;rw[hs];exact⟨zaj,.ins0 (.hi ha) (.inr (.inl rfl))⟩
  ·have e1:(odL 4 0).length=1:=rfl;rw[e1] at h⊢;simp only[fZ] at h⊢;have ze:e=0:=bB h;subst ze;obtain⟨K,d,hK,hd,hst⟩:=nZ (l:=l) (op:=0) (p:=p) (s:=⟨4,0,0,0,0,zad,[],[]⟩) (by show 0<1;decide);rw[jG (show(4:I)≠1 by decide) (show(4:I)≠7 by decide)] at hK;have hK:4=K:=hK;subst hK;obtain rfl:d=.A:=by have hd:Z Od.A=Z d:=hd;exact(NF hd).symm
   rw[hst] at h⊢;obtain⟨a,ha,hs⟩:=nT h;rw[hs];exact⟨zaj,.ins0 (.fl ha) (.inr (.inr (.inl rfl)))⟩
  ·have e1:(odL 8 0).length=2:=rfl;rw[e1] at h⊢;simp only[fZ] at h⊢;generalize hr0:aY l 0 2 0 p e ⟨8,0,0,0,0,zad,[],[]⟩=r0 at h⊢;generalize hr1:aY l 0 2 1 r0.1 r0.2.1 r0.2.2=r1 at h⊢;have z0:r0.2.1=0:=by rw[<- hr1] at h;exact bB h
   have ze:e=0:=by rw[<- hr0] at z0;exact bB z0
   subst ze;rw[pU (d:=.A) (by decide) rfl] at hr0;obtain⟨a,ha,hs⟩:=nT (l:=l) (p:=p) (s:=⟨8,0,0,0,0,zad,[],[]⟩) (by rw[hr0];exact z0);rw[hr0] at hs;rw[z0,hs] at hr1;obtain⟨K,d,hK,hd,hst⟩:=sH (l:=l) (op:=0) (many:=2) (i:=1) (p:=r0.1) (s:=⟨8,0,a,0,0,zad,[],[]⟩) (by decide) rfl (by show 1<2;decide) (by rw[hr1];exact h);rw[hst] at hr1;rw[jG (show(8:I)≠1 by decide) (show(8:I)≠7 by decide)] at hK;have hK:8=K:=hK;subst hK;obtain rfl:d=.Q:=by have hd:Z Od.Q=Z d:=hd;exact(NF hd).symm
   obtain⟨t,ht,hs2⟩:=nU hw (p:=r0.1+1+1) (e:=chk (zaa (pk 3 l (r0.1+1) 0=[61])) 0) (s:=⟨8,0,a,0,0,zad,[],[]⟩) (by show(rd l (r0.1+1) 0 _ .Q).2.1=0;rw[hr1];exact h);have hs2:(rd l (r0.1+1) 0 ⟨8,0,a,0,0,zad,[],[]⟩ .Q).2.2=_:=hs2;rw[hr1] at hs2;rw[hs2];exact⟨Z t,.load ha ht⟩
  ·have e1:(odL 9 0).length=1:=rfl;rw[e1] at h⊢;simp only[fZ] at h⊢;have ze:e=0:=bB h;subst ze;obtain⟨K,d,hK,hd,hst⟩:=nZ (l:=l) (op:=0) (p:=p) (s:=⟨9,0,0,0,0,zad,[],[]⟩) (by show 0<1;decide);rw[jG (show(9:I)≠1 by decide) (show(9:I)≠7 by decide)] at hK;have hK:9=K:=hK;subst hK;obtain rfl:d=.E:=by have hd:Z Od.E=Z d:=hd;exact(NF hd).symm
   rw[hst] at h⊢;obtain⟨t,ht,hs⟩:=nU hw (p:=p) (e:=0) (s:=⟨9,0,0,0,0,zad,[],[]⟩) h;have hs:(rd l p 0 ⟨9,0,0,0,0,zad,[],[]⟩ .E).2.2=_:=hs;rw[hs];exact⟨Z t,.word ht⟩
  ·have e1:(odL 10 0).length=1:=rfl;rw[e1] at h⊢;simp only[fZ] at h⊢;have ze:e=0:=bB h;subst ze;obtain⟨K,d,hK,hd,hst⟩:=nZ (l:=l) (op:=0) (p:=p) (s:=⟨10,0,0,0,0,zad,[],[]⟩) (by show 0<1;decide);rw[jG (show(10:I)≠1 by decide) (show(10:I)≠7 by decide)] at hK;have hK:10=K:=hK;subst hK;obtain rfl:d=.N:=by have hd:Z Od.N=Z d:=hd;exact(NF hd).symm
   rw[hst] at h⊢;obtain⟨a,ha,hs⟩:=MJ h;rw[hs];exact⟨zaj,.exp ha⟩
 ·have e1:(odL 5 o).length=3:=rfl;rw[e1] at h⊢;simp only[fZ] at h⊢;generalize hr0:aY l o 3 0 p e ⟨5,o,0,0,0,zad,[],[]⟩=r0 at h⊢;generalize hr1:aY l o 3 1 r0.1 r0.2.1 r0.2.2=r1 at h⊢;generalize hr2:aY l o 3 2 r1.1 r1.2.1 r1.2.2=r2 at h⊢;have z1:r1.2.1=0:=by rw[<- hr2] at h;exact bB h
  have z0:r0.2.1=0:=by rw[<- hr1] at z1;exact bB z1
  have ze:e=0:=by rw[<- hr0] at z0;exact bB z0
  subst ze;rw[pU (d:=.A) (by decide) rfl] at hr0;obtain⟨a,ha,hs⟩:=nT (l:=l) (p:=p) (s:=⟨5,o,0,0,0,zad,[],[]⟩) (by rw[hr0];exact z0);rw[hr0] at hs;rw[z0,hs] at hr1;rw[G8 (d:=.B) (by decide) (by decide) rfl (by rw[hr1];exact z1)] at hr1;obtain⟨b,hb,hs1⟩:=Gy (l:=l) (p:=r0.1+1) (s:=⟨5,o,a,0,0,zad,[],[]⟩) (by rw[hr1];exact z1);rw[hr1] at hs1;rw[z1,hs1] at hr2;obtain⟨K,d,hK,hd,hst⟩:=sH (l:=l) (op:=o) (many:=3) (i:=2) (p:=r1.1) (s:=⟨5,o,a,b,0,zad,[],[]⟩) (by decide) rfl (by show 2<(odL 5 o).length;rw[e1];decide) (by rw[hr2];exact h);rw[hst] at hr2;rw[jG (show(5:I)≠1 by decide) (show(5:I)≠7 by decide)] at hK;have hK:5=K:=hK;subst hK;obtain rfl:d=.E:=by have hd:Z Od.E=Z d:=hd;exact(NF hd).symm
  obtain⟨t,ht,hs2⟩:=nU hw (p:=r1.1+1) (e:=0) (s:=⟨5,o,a,b,0,zad,[],[]⟩) (by show(rd l (r1.1+1) 0 _ .E).2.1=0;rw[hr2];exact h);have hs2:(rd l (r1.1+1) 0 ⟨5,o,a,b,0,zad,[],[]⟩ .E).2.2=_:=hs2;rw[hr2] at hs2;rw[hs2];exact⟨Z t,.ins1 (.mem ho ho2 ha hb) (.inr (.inl rfl)) ht⟩
 ·have e1:(odL 7 o).length=1:=rfl;rw[e1] at h⊢;simp only[fZ] at h⊢;have ze:e=0:=bB h;subst ze;obtain⟨K,d,hK,hd,hst⟩:=nZ (l:=l) (op:=o) (p:=p) (s:=⟨7,o,0,0,0,u,[],[]⟩) (by show 0<1;decide);rw[hst] at h⊢;rcases Fz (l:=l) (p:=p) (s:=⟨7,o,0,0,0,u,[],[]⟩) rfl with c|c
  ·rw[hK] at c;subst c;obtain rfl:d=.C:=by have hd:Z Od.C=Z d:=hd;exact(NF hd).symm
   obtain⟨c,hc,hs⟩:=Ap h;rw[hs];exact⟨zaj,.ins0 (.br ⟨ho,ho2⟩ hc) (.inr (.inr (.inr rfl)))⟩
  ·rw[hK] at c;subst c;obtain rfl:d=.E:=by have hd:Z Od.E=Z d:=hd;exact(NF hd).symm
   obtain⟨t,ht,hs⟩:=nU hw (p:=p) (e:=0) (s:=⟨7,o,0,0,0,u,[],[]⟩) h;have hs:(rd l p 0 ⟨7,o,0,0,0,u,[],[]⟩ .E).2.2=_:=hs;rw[hs];exact⟨Z t,.ins1 (.jmp ⟨ho,ho2⟩) (.inr (.inr rfl)) ht⟩
end
end Rv
namespace Rv
open Go
abbrev wfT(l:D bn):Prop:=∀t∈l,0<=t.2.2.2.1/\t.2.2.2.1<=4294967295
theorem xy{l:D bn}{lb:Str}{r:G×I×Sm}(he:gT r.2.1):(∃e,(e=22\/e=23\/e=24)/\Eb l lb r=noP e)\/(r.2.1=0/\Eb l lb r=smP lb r.2.2):=by
 unfold Eb Ez;have h:=fK (b:=zaa (l.length<=r.1)) he;generalize hx:chk (zaa (l.length<=r.1)) r.2.1=e' at h;by_cases h0:e'=0;·subst h0;rw[Y (by decide)];exact .inr ⟨(dW hx).1,rfl⟩
 ·rw[U h0];exact .inl ⟨e',h.resolve_left h0,rfl⟩
theorem oW{l:D bn}(hw:wfT l){lb:Str}{p:G}{e:I}(he:e=0\/e=22):(∃x,(x=22\/x=23\/x=24)/\vg l lb p e=noP x)\/(e=0/\∃s t,GoodS s t/\vg l lb p e=smP lb s):=by
 unfold vg;by_cases h:e=0/\p<l.length
 ·rw[U h];obtain⟨rfl,hp⟩:=h;dsimp only;generalize l.getD p dX=t;by_cases hf:(L.ofR t.2.2.1).2.2.2.1=zab
  ·obtain⟨k,o,u,e1,hk⟩:=Jm hf;rw[e1];dsimp only;generalize hq:chk (zab&&(zaa (t.1=4) == zaa (k=9\/k=10))&&(zaa (t.1=4)||zaa (t.1=1))) 0=q;have hqe:gT q:=by rw[<- hq];exact fK (.inl rfl)
   rcases xy (l:=l) (lb:=lb) (wN (l:=l) (op:=o) (many:=(odL k o).length) (odL k o).length 0 (p+1,q,⟨k,o,0,0,0,u,[],[]⟩) hqe) with h|⟨h1,h2⟩;·exact .inl h
   ·obtain⟨t',ht⟩:=Fa hw hk (p+1) h1;exact .inr ⟨rfl,_,t',ht,h2⟩
  ·have hf:(L.ofR t.2.2.1).2.2.2.1=zad:=by simpa using hf
   rw[hf];have hq:chk (zad&&(zaa (t.1=4) == zaa ((L.ofR t.2.2.1).1=9\/(L.ofR t.2.2.1).1=10))&&(zaa (t.1=4)||zaa (t.1=1))) 0=22:=rfl;rw[hq];rcases xy (l:=l) (lb:=lb) (wN (l:=l) (op:=(L.ofR t.2.2.1).2.1) (many:=(odL (L.ofR t.2.2.1).1 (L.ofR t.2.2.1).2.1).length) (odL (L.ofR t.2.2.1).1 (L.ofR t.2.2.1).2.1).length 0 (p+1,22,⟨(L.ofR t.2.2.1).1,(L.ofR t.2.2.1).2.1,0,0,0,(L.ofR t.2.2.1).2.2.1,[],[]⟩) (.inr (.inl rfl))) with h|⟨h1,_⟩;·exact .inl h
   ·exfalso;have sticky:∀(m i:G) (r:G×I×Sm) (op:I) (many:G),(fZ l op many m i r).2.1=0->r.2.1=0:=by
     intro m
     induction m with
     |zero=>intro i r op many h;exact h
     |succ m ih=>intro i r op many h;exact bB (ih (i+1) _ op many h)
    have h9:(22:I)=0:=sticky _ _ _ _ _ h1;exact absurd h9 (by decide)
 ·rw[Y h];unfold Ez;rcases he with rfl|rfl
  ·rw[Y (by decide)];exact .inr ⟨rfl,_,_,.none,rfl⟩
  ·rw[U (by decide)];exact .inl ⟨22,.inl rfl,rfl⟩
theorem BX{l:D bn}(hw:wfT l):(∃e,(e=22\/e=23\/e=24)/\vF l=noP e)\/(∃lb s t,(lb=[]\/aF lb=zab)/\GoodS s t/\vF l=smP lb s):=by
 unfold vF;split
 ·cases hL:aF (l.getD 0 dX).2.2.1 with
  |true=>
   rcases oW hw (lb:=(l.getD 0 dX).2.2.1) (p:=2) (e:=chk zab 0) (.inl rfl) with h|⟨_,s,t,h1,h2⟩;·exact .inl h
   ·exact .inr ⟨_,s,t,.inr hL,h1,h2⟩
  |false=>
   rcases oW hw (lb:=(l.getD 0 dX).2.2.1) (p:=2) (e:=chk zad 0) (.inr rfl) with h|⟨h,_⟩;·exact .inl h
   ·exact absurd h (by decide)
 ·rcases oW hw (lb:=[]) (p:=0) (e:=0) (.inl rfl) with h|⟨_,s,t,h1,h2⟩
  ·exact .inl h
  ·exact .inr ⟨_,s,t,.inl rfl,h1,h2⟩
end Rv
namespace Rv
open Go
theorem Hq{c:UInt8}{r:Str}{d:G}{q:I}{t:Str}{v:I}(h:yX c r=.ok (d,q,t,v)):0<=v/\v<=4294967295:=by
 unfold yX at h;split at h;·cases h;exact⟨by decide,by decide⟩
 ·split at h
  ·split at h
   ·rename_i v' hv;cases h;have:=MH hv;exact⟨by omega,by omega⟩
   ·cases h
  ·split at h
   ·cases h;exact⟨by decide,by decide⟩
   ·split at h
    ·cases h;exact⟨by decide,by decide⟩
    ·cases h
theorem qQ:∀(n:G) (k:I) (s:Str) (l:D Tok),s.length<=n->iD k s=.ok l->wfT l
 |_,k,[],l,_,h=>by rw[Gf] at h;cases h;intro t ht;cases ht
 |0,k,c::r,l,hn,_=>by simp at hn
 |n+1,k,c::r,l,hn,h=>by
  simp only[N7] at hn;rw[Er] at h;split at h;·cases h;intro t ht;cases ht
  ·split at h
   ·exact qQ n (k+1) r l (by omega) h
   ·split at h
    ·cases h
    ·rename_i d q tx v hT;have hv:=Hq hT;split at h
     ·cases h
     ·rename_i l' hl;cases h;intro t ht;rcases NT.1 ht with rfl|ht
      ·exact hv
      ·exact qQ n _ _ l' (by simp;omega) hl t ht
theorem BL(s:Str):wfT (si [] (iD 0 s)).1:=by
 cases h:iD 0 s with
 |error e=>intro t ht;cases ht
 |ok l=>intro t ht;exact qQ s.length 0 s l (NL _) h t (by simpa[si] using ht)
theorem Gr(s:Str)(h:D9 (uu s)=0):∃lb m t,(lb=[]\/aF lb=zab)/\GoodS m t/\uu s=smP lb m:=by
 unfold uu at h⊢;dsimp only at h⊢;by_cases hy:(si [] (iD 0 s)).2.1≠0;·rw[U hy] at h;exact absurd h hy
 ·rw[Y hy] at h⊢;rcases BX (BL s) with⟨e,he,hp⟩|hp
  ·rw[hp] at h;have h:e=0:=h;omega
  ·exact hp
def FX(x:Ln):Prop:=(x.1=[]\/aF x.1=zab)/\∃t,GoodS ⟨x.2.1.1,x.2.1.2.1,x.2.1.2.2.1,x.2.1.2.2.2.1,x.2.1.2.2.2.2.1,x.2.1.2.2.2.2.2.1,x.2.1.2.2.2.2.2.2.1,x.2.1.2.2.2.2.2.2.2.1⟩ t
theorem uP:∀(l:D Str) (i:G) (r:D Ln),iX i l=.ok r->∀x∈r,FX x
 |[],i,r,h=>by rw[iX] at h;cases h;intro x hx;cases hx
 |s::l,i,r,h=>by
  rw[iX] at h;split at h;·cases h
  ·rename_i he;have he:D9 (uu s)=0:=by simpa using he
   cases hr:iX (i+1) l with
   |error x=>rw[hr] at h;cases h
   |ok q=>
    rw[hr] at h;cases h;intro x hx;rcases NT.1 hx with rfl|hx;·obtain⟨lb,m,t,h1,h2,h3⟩:=Gr s he;rw[h3];exact⟨h1,t,h2⟩
    ·exact uP l (i+1) q hr x hx
end Rv
namespace Rv
open Go
set_option maxRecDepth 100000
end Rv
namespace Rv
open Go
end Rv
namespace Rv
open Go
theorem KV{s:Sm}{t:zaf Tr}(h:GoodS s t):s.nm.length<=12:=by
 cases h with
 |exp hn=>
  unfold bG at hn;simp only[NJ,NH] at hn;exact hn.1.1.1.2
 |_=>exact Nat.zero_le _
theorem parsed(s:Str)(hs:s.length<=4096):(vG s).1.length<=s.length/\∀x∈(vG s).1,FX x:=by
 rw[Aj hs];have hl:=(ul s).1;cases h:iX 0 (jo s) with
 |error e=>exact⟨Nat.zero_le _,λx hx=>by cases hx⟩
 |ok l=>
  have:=zA _ _ _ h;refine⟨by show([]++l).length<=_;rw[Oc];omega,λx hx=>uP _ _ _ h x (by simpa[Jq] using hx)⟩
end Rv
namespace Rv
open Go
def ut(v:I):Tr:=if v<0 then .neg (.num (H.wrap (-v))) else .num (H.wrap v)
theorem xR(v:I):(ut v).post=gm v:=by
 unfold ut gm;split<;>rfl
theorem pW(v:I):(Tr.num (H.wrap v)).ok:=by
 show 0<=H.wrap v/\H.wrap v<=4294967295;rw[IntKind.wrap_u32];omega
theorem CS(v:I):il (ut v):=by
 unfold ut;split;·exact⟨pW _,trivial,rfl,by show 2<=64;decide⟩
 ·exact⟨pW _,trivial,rfl,by show 1<=64;decide⟩
theorem wP{v:I}(h:(Tr.num v).ok):(Tr.num v).txt.length<=20:=dV (.num v) h trivial
theorem xQ(v:I):(ut v).txt.length<=28/\(ut v).dep<=8:=by
 unfold ut;split
 ·have:=wP (pW (-v));refine⟨?_,by show 1+(0+if(2:G)<2 then 1 else 0)<=8;decide⟩;show(45::bI (zaa ((2:G)<2)) (Tr.num (H.wrap (-v))).txt).length<=28;have e:bI (zaa ((2:G)<2)) (Tr.num (H.wrap (-v))).txt=(Tr.num (H.wrap (-v))).txt:=rfl
  grind
 ·have:=wP (pW v);exact⟨by omega,Nat.zero_le _⟩
theorem Gl{k:G}(hk:k<=1024):il (.nam (nmR (4*(k:I))))/\(Tr.nam (nmR (4*(k:I)))).txt.length<=28/\(Tr.nam (nmR (4*(k:I)))).dep<=8:=by
 obtain⟨h1,h2,_⟩:=Ev hk;refine⟨⟨h1,trivial,?_,by show 1<=64;decide⟩,?_,Nat.zero_le _⟩
 ·show enough 0 [((2:I),0,nmR (4*(k:I)),())]=Z 1
  grind [enough,Gc]
 ·show(nmR (4*(k:I))).length<=28;omega
def Af(v:I):Tr:=.bin .add (.nam (nmR 0)) (.num v)
theorem Li{v:I}(h:0<=v/\v<=4294967295):il (Af v)/\(Af v).txt.length<=28/\(Af v).dep<=8:=by
 obtain⟨h1,h2,_⟩:=Ev (k:=0) (by decide);have h1:aF (nmR 0)=zab:=h1;have h2:(nmR 0).length=5:=h2;have h3:=wP (v:=v) h;refine⟨⟨⟨h1,h⟩,⟨trivial,trivial⟩,?_,by show 3<=64;decide⟩,?_,by show max (0+if(2:G)<0 then 1 else 0) (0+if(2:G)<0+1 then 1 else 0)<=8;decide⟩
 ·show enough 0 [((2:I),0,nmR 0,()),((1:I),v,[],()),((4:I),0,[],())]=Z 1;unfold enough;rw[Gc h1];rfl
 ·have e:(Af v).txt=nmR 0++(32::43::32::(Tr.num v).txt):=rfl
  grind
structure lm (x:Snt) (s:Sm) (t:zaf Tr):Prop where
 eq:x=(s.k,s.o,s.a,s.b,s.c,s.u,s.e,s.nm,())
 good:GoodS s t
 deep:FD t
 len:∀d∈odL s.k s.o,(wtx s t d).length<=28
theorem nX{a:I}(_:rg a):(rn a).length<=28:=Og (Aw _) (by decide)
theorem Dp{k o a b c:I}{u:zah}{t:Tr}(h:aP k o a b c u)(hk:k=2\/k=5\/k=7)(ht:il t)(hl:t.txt.length<=28)(hd:t.dep<=8):lm (k,o,a,b,c,u,t.post,[],()) ⟨k,o,a,b,c,u,t.post,[]⟩ (Z t):=by
 obtain⟨ha,hb,hc⟩:=kN h;refine⟨rfl,.ins1 h hk ht,λx hx=>(by grind),λd hdm=>?_⟩;cases d with
 |A=>exact nX ha
 |B=>exact nX hb
 |C=>exact nX hc
 |E=>exact hl
 |Q=>exfalso;revert hdm;unfold odL;grind
 |N=>exact Nat.zero_le _
theorem LU{k o a b c:I}{u:zah}(h:aP k o a b c u)(hk:k=1\/k=3\/k=4\/k=6):lm (k,o,a,b,c,u,[],[],()) ⟨k,o,a,b,c,u,[],[]⟩ zaj:=by
 obtain⟨ha,hb,hc⟩:=kN h;refine⟨rfl,.ins0 h hk,λx hx=>(by cases hx),λd hdm=>?_⟩;cases d with
 |A=>exact nX ha
 |B=>exact nX hb
 |C=>exact nX hc
 |E=>exact Nat.zero_le _
 |Q=>show 2<=28;decide
 |N=>exact Nat.zero_le _
theorem wX{t:Tr}(ht:il t)(hl:t.txt.length<=28)(hd:t.dep<=8):lm (stN 9 t.post) ⟨9,0,0,0,0,zad,t.post,[]⟩ (Z t):=by
 refine⟨rfl,.word ht,λx hx=>(by grind),λd hdm=>?_⟩;have e:odL 9 0=[.E]:=rfl;have hdm:d∈odL 9 0:=hdm;rw[e,Ob] at hdm;subst hdm;exact hl
section
variable{ws ss:D I}{ys:D Sym}(O:OkO ws ss ys)
include O
theorem FJ{i:G}(hi:i<ws.length):∃s t,lm (jm ws ss i) s t:=by
 have hlw:=O.lw;have hat:=O.ok.at hi;have num:∃s t,lm (stN 9 (gm (ws.getD i 0))) s t:=by
  rw[<- xR]
  grind [wX,CS,xQ]
 have nam:∀k:G,nmE (4*(k:I))=(Tr.nam (nmR (4*(k:I)))).post:=λk=>rfl
 unfold jm;rw[Y (by omega)];by_cases hm:(i:I)∈ss
 ·rw[U hm];obtain⟨_,h2,h3⟩:=O.site hm;rw[NM] at h2 h3;by_cases h4:ws.getD i 0 % 4=0
  ·have hk:ws.getD i 0=4*(((ws.getD i 0) / 4).toNat:I):=by omega
   have⟨g1,g2,g3⟩:=Gl (k:=((ws.getD i 0) / 4).toNat) (by omega);rw[U h4,hk,nam]
   grind [wX]
  ·have⟨g1,g2,g3⟩:=Li hat
   have e:nmE 0++gm (ws.getD i 0)++[((4:I),0,[],())]=(Af (ws.getD i 0)).post:=by rw[KL hat];rfl
   rw[Y h4,e]
   grind [wX]
 ·rw[Y hm];rcases(kw hat).2 with e|⟨k,o,a,b,c,m,u,e,g1,g2,g3⟩
  ·grind
  ·have hj:bY ws ss i=if k=7/\0<=(i:I)+1+m/\(i:I)+1+m<=ws.length then(4*((i:I)+1+m),zab,()) else(0,zad,()):=by
    unfold bY
    grind
   have hk:=lD g1;rw[e];dsimp only;rw[Y (by decide)];by_cases k7:k=7
   ·rw[U k7,hj];by_cases hc:k=7/\0<=(i:I)+1+m/\(i:I)+1+m<=ws.length
    ·rw[U hc];dsimp only;rw[U rfl];obtain⟨t,ht⟩:∃t:G,(i:I)+1+m=(t:I):=⟨((i:I)+1+m).toNat,by omega⟩
     have⟨h1,h2,h3⟩:=Gl (k:=t) (by omega)
     grind [Dp]
    grind
   ·rw[Y k7];by_cases k2:k=2\/k=5
    ·rw[U k2,<- xR]
     grind [Dp,CS,xQ]
    ·rw[Y k2]
     grind [LU]
def zg(x:Ln):Prop:=∃g:GLn,g.ln=x/\FD g.t/\g.tx.length<=98
omit O in
theorem ym{x:Snt}{s:Sm}{t:zaf Tr}(h:lm x s t):(stx s t).length<=98:=by
 unfold stx;split;·simp
 ·have:=rJ [44,32] 28 ((odL s.k s.o).map (wtx s t)) (λx hx=>by
   obtain⟨d,hd,rfl⟩:=N8.1 hx;exact h.len d hd)
  rw[Ow] at this;have h2:(28+([44,32]:Str).length)*(odL s.k s.o).length<=30*3:=Nat.mul_le_mul (by decide) (sj _ _)
  grind [mtx,lH]
omit O in
theorem yl{l:Str}(h:aF l=zab):zg (l,L.st0 0 [],()):=by
 refine⟨⟨l,⟨0,0,0,0,0,zad,[],[]⟩,zaj,.inr h,.none⟩,rfl,λx hx=>(by cases hx),?_⟩;unfold aF at h;simp only[NJ,NH] at h;have hl:=h.1.1.1.2;show(ltx l ⟨0,0,0,0,0,zad,[],[]⟩ zaj).length<=98;unfold ltx
 grind
theorem yj:∀x∈qO ws ss ys,zg x:=by
 have hlw:=O.lw;have hsec:∀(k i:G),i+k<=ws.length+1->∀x∈gV ws ss ys k i,zg x:=by
  intro k
  induction k with
  |zero=>intro i _ x hx;cases hx
  |succ k ih=>
   intro i h x hx;rcases NV.1 hx with hx|hx
   ·rcases NV.1 hx with hx|hx
    ·rcases NV.1 hx with hx|hx
     ·obtain⟨_,z,hz,_,rfl⟩:=qP _ ys x hx;exact yl (Eu (O.nm z hz))
     grind [yl,Ev]
    ·split at hx
     ·rename_i hi;rw[Ob.1 hx];obtain⟨s,t,hs⟩:=FJ O hi;refine⟨⟨[],s,t,.inl rfl,hs.good⟩,?_,hs.deep,?_⟩
      ·show([],(s.k,s.o,s.a,s.b,s.c,s.u,s.e,s.nm,()),())=_;rw[<- hs.eq]
      ·show(ltx [] s t).length<=98;unfold ltx;rw[U rfl];exact ym hs
     ·cases hx
   grind
 intro x hx;rcases NV.1 hx with hx|hx;·grind
 ·obtain⟨_,z,hz,rfl⟩:=zY ys x hx;have hn:=O.nm z hz;have hs:lm (L.st0 10 z.1) ⟨10,0,0,0,0,zad,[],z.1⟩ zaj:=by
   refine⟨rfl,.exp hn,λx hx=>(by cases hx),λd hdm=>?_⟩;have e:odL 10 0=[.N]:=rfl;have hdm:d∈odL 10 0:=hdm;rw[e,Ob] at hdm;subst hdm;have:=Et hn;show z.1.length<=28;omega
  refine⟨⟨[],_,zaj,.inl rfl,hs.good⟩,rfl,hs.deep,?_⟩;show(ltx [] _ zaj).length<=98;unfold ltx;rw[U rfl];exact ym hs
theorem IQ(a b:I)(h:a<b)(y:D Sym):(y.filter λz=>zaa (z.2.1=a)).length+(y.filter λz=>zaa (b<=z.2.1)).length<=(y.filter λz=>zaa (a<=z.2.1)).length:=by
 induction y with
 |nil=>grind
 |cons z y ih=>
  grind
omit O in
theorem o7(x:I):∀y:D Sym,(L.linS x y).length=(y.filter λz=>zaa (z.2.1=x)).length
 |[]=>rfl
 |s::r=>by
  rw[L.linS];by_cases h:s.2.1=x;·rw[U h,List.filter_cons_of_pos (by simpa using h),N7,N7,o7 x r]
  ·rw[Y h,List.filter_cons_of_neg (by simpa using h),o7 x r]
omit O in
theorem zX:∀y:D Sym,(L.linX y).length=y.length
 |[]=>rfl
 |s::r=>by rw[L.linX,N7,N7,zX r]
theorem AZ:∀k i:G,(gV ws ss ys k i).length<=(ys.filter λz=>zaa (4*(i:I)<=z.2.1)).length+2*k
 |0,i=>Nat.zero_le _
 |k+1,i=>by
  have h1:=AZ k (i+1);have h2:=IQ O (4*(i:I)) (4*((i+1:G):I)) (by omega) ys;rw[gV,NP];unfold AY;rw[NP,NP,o7]
  grind
theorem zV:(qO ws ss ys).length<=2*ws.length+130:=by
 have hly:=O.ly;have h1:=AZ O (ws.length+1) 0;have h2:=List.length_filter_le (λz:Sym=>zaa (4*((0:G):I)<=z.2.1)) ys
 grind [qO,zX]
end
end Rv
namespace Rv
open Go
theorem IZ(y:D I)(s:I)(hy:y.Pairwise (· < ·))(hl:y.length<=1000000)(n:G):∀(m i j:G),i<=j->j<=y.length->j-i<m->(∀t,t<i->y.getD t 0<s)->(∀t,j<=t->t<y.length->¬y.getD t 0<s) ->
  ∃k,Zbo.l3 n m y s (y.length:I) (i:I) (j:I)=Z (k,zaa (s∈y),()):=by
 intro m
 induction m with
 |zero=>intro i j _ _ h;omega
 |succ m ih=>
  intro i j hij hj hm h1 h2;rw[Zbo.l3];have hmid:zac.wrap ((zak.wrap (zac.wrap ((i:I)+(j:I)))).fdiv (2 ^ (min (1:I).toNat zak.bits)))=(((i+j) / 2:G):I):=by
   show zac.wrap ((zak.wrap (zac.wrap ((i:I)+(j:I)))).fdiv 2)=_;rw[w64 (x:=(i:I)+(j:I)) (by omega),Int.fdiv_eq_ediv_of_nonneg _ (by decide),Hr (by omega),w64 (by omega)];omega
  have get:∀t,t<y.length->y.getD t 0∈y:=λt ht=>by rw[NN,NQ ht];exact Oo ht
  have ord:∀a b,a<b->b<y.length->y.getD a 0<y.getD b 0:=λa b hab hb=>by
   have:=List.pairwise_iff_getElem.1 hy a b (by omega) hb hab;rw[NN,NQ (by omega),NN,NQ hb];exact this
  rw[hmid];by_cases h:i<j
  ·rw[U (by simpa using h),U ⟨by omega,by omega⟩,NM];generalize hq:(i+j) / 2=q;have hless:Zdq.g (y.getD q 0) s=Z (zaa (y.getD q 0<s),()):=by
    unfold Zdq.g Zdq.f Zdp.g Zdp.f;rw[NE];dsimp only;rw[Y (by simp)]
   rw[hless,NE];dsimp only;by_cases hlt:y.getD q 0<s
   ·rw[U (decide_eq_true hlt),w64 (by omega),show(q:I)+1=((q+1:G):I) by omega];refine ih (q+1) j (by omega) hj (by omega) (λt ht=>?_) h2;by_cases e:t=q
    ·rw[e];exact hlt
    ·have:=ord t q (by omega) (by omega);omega
   ·rw[Y (by simpa using hlt)];refine ih i q (by omega) (by omega) (by omega) h1 λt ht htl=>?_
    by_cases e:t=q;·rw[e];exact hlt
    ·have:=ord q t (by omega) htl;omega
  ·obtain rfl:i=j:=by omega
   have hmem:s∈y↔i<y.length/\y.getD i 0=s:=by
    constructor
    ·intro hs;obtain⟨t,ht,e⟩:=List.getElem_of_mem hs;have e':y.getD t 0=s:=by rw[NN,NQ ht];exact e
     rcases Nat.lt_trichotomy t i with hti|rfl|hti;·have:=h1 t hti;omega
     ·exact⟨ht,e'⟩
     ·have a1:=h2 i (NL _) (by omega);have a2:=ord i t hti ht;omega
    ·rintro⟨hi,e⟩;rw[<- e];exact get i hi
   rw[Y (by simp)];by_cases hl2:i<y.length
   ·rw[U (by simpa using hl2),U ⟨by omega,by omega⟩,NM];by_cases e:y.getD i 0=s
    ·rw[Y (by simpa using e),decide_eq_true (hmem.2 ⟨hl2,e⟩)];exact⟨_,rfl⟩
    ·rw[U (by simpa using e),U ⟨by omega,by omega⟩];unfold Zdr.g Zdr.f;rw[NE,NE];dsimp only;rw[Y (by simp),decide_eq_false (λh=>e (hmem.1 h).2)];exact⟨_,rfl⟩
   ·rw[Y (by simpa using hl2),decide_eq_false (λh=>hl2 (hmem.1 h).1)];exact⟨_,rfl⟩
theorem Ms(y:D I)(s:I)(hy:y.Pairwise (· < ·))(hl:y.length<=1000000):∃k,Zbo.g y s=Z (k,zaa (s∈y),()):=by
 unfold Zbo.g Zbo.f;exact IZ y s hy hl _ _ 0 y.length (by omega) (by omega) (by omega) (λt h=>by omega) (λt h h2=>by omega)
theorem JF{B:I}:∀{l:D I},l.Pairwise (· < ·)->(∀x∈l,0<=x/\x<B)->(l.length:I)<=B\/l=[]
 |[],_,_=>.inr rfl
 |x::l,h,hb=>by
  refine .inl ?_;have key:∀(l:D I) (a:I),(a::l).Pairwise (· < ·)->(∀x∈a::l,x<B)->(l.length:I)+a<B:=by
   intro l
   induction l with
   |nil=>intro a _ hb;have:=hb a (by simp);simp;omega
   |cons y l ih=>
    intro a h hb;have h':=List.pairwise_cons.1 h;have h1:=h'.1 y (by simp);have h2:=ih y h'.2 λx hx=>hb x (by simp[hx])
    rw[N7];omega
  have h1:=key l x h λy hy=>(hb y hy).2
  have h2:=(hb x (by simp)).1;rw[N7];omega
section
variable{ws ss:D I}{ys:D Sym}(O:OkO ws ss ys)
include O
theorem CK:∀(k i:G) (acc:D Ln),i+k<=ws.length+1->L.linI (Zbo.g (plR ws ss)) Zbd.g (Zal.g ws ss ys) ys ws.length k (i:I) acc=Z (acc++gV ws ss ys k i)
 |0,i,acc,_=>by rw[L.linI,gV,N9]
 |k+1,i,acc,h=>by
  have hlw:=O.lw;have hpl:(plR ws ss).length<=1000000:=by
   rcases JF (B:=5000) (C8 ws ss) λx hx=>(by obtain⟨k,rfl,hk⟩:=vI O hx;omega) with h|h
   ·omega
   ·rw[h];simp
  obtain⟨y,hy⟩:=Ms (plR ws ss) (4*(i:I)) (C8 ws ss) hpl;rw[L.linI,hy];dsimp only;rw[FK];have e1:(if zaa (4*(i:I)∈plR ws ss)=zab then Z [(nmR (4*(i:I)),L.st0 0 [],())] else Z []:zaf (D Ln))=Z (if 4*(i:I)∈plR ws ss then[(nmR (4*(i:I)),L.st0 0 [],())] else[]):=by
   by_cases hm:4*(i:I)∈plR ws ss;·rw[U (decide_eq_true hm),U hm]
   ·rw[Y (by simpa using hm),Y hm]
  have e2:(if(i:I)<(ws.length:I) then Z [([],jm ws ss i,())] else Z []:zaf (D Ln))=Z (if i<ws.length then[([],jm ws ss i,())] else[]):=by
   by_cases hm:i<ws.length;·rw[U (by omega),U hm]
   ·rw[Y (by omega),Y hm]
  dsimp only;rw[e1];dsimp only;rw[zy O.ok ys i (by omega)];dsimp only;rw[e2];dsimp only;rw[show(i:I)+1=((i+1:G):I) by omega,CK k (i+1) _ (by omega),gV];unfold AY;simp only[NW]
theorem FI:Zcm.g ws ss ys=Z (qO ws ss ys,0,()):=by
 have hlw:=O.lw;have hly:=O.ly;have hll:=zV O;unfold Zcm.g L.linesO;rw[wQ O];dsimp only;rw[U rfl,FH O];dsimp only;rw[U rfl,U ⟨by omega,by omega⟩,show(0:I)=((0:G):I) from rfl,CK O (ws.length+1) 0 [] (by omega)];dsimp only;rw[Oc];show(if(qO ws ss ys).length<=1000000 then Z (qO ws ss ys,_,()) else zaj)=_;rw[U (by omega)]
end
end Rv
namespace Rv
open Go
theorem ve(W:W32){k n:G}(hn:n<=32):Gn W k n=((W.toNat / 2 ^ k % 2 ^ n:G):I):=by
 unfold Gn;congr 1;refine Nat.eq_of_testBit_eq λj=>?_
 rw[Nat.testBit_mod_two_pow,Nat.testBit_div_two_pow];by_cases hj:j<32;·have:=dK W (a:=k) hn hj;rw[Nat.add_comm] at this;exact this
 ·have h1:(dn W k n).toNat.testBit j=zad:=BitVec.getLsbD_of_ge _ _ (by omega);rw[h1,decide_eq_false (by omega),Bool.false_and]
theorem tY(x k:G):(x:I).fdiv (2 ^ k)=((x / 2 ^ k:G):I):=by
 rw[Int.fdiv_eq_ediv_of_nonneg _ (by exact Int.le_of_lt (Int.pow_pos (by decide))),Int.natCast_ediv,Int.natCast_pow];rfl
theorem ny(W:W32){k n:G}(hn:n<=32)(m:I)(hm:m=((2 ^ n-1:G):I))(hn2:n<=31):ai .and .u32 ((W.toNat:I).fdiv (2 ^ k)) m=Gn W k n:=by
 have hlt:=W.isLt;have hd:W.toNat / 2 ^ k<2 ^ 32:=Nat.lt_of_le_of_lt (Nat.div_le_self _ _) hlt;have e:ai .and .u32 ((W.toNat:I).fdiv (2 ^ k)) m=H.wrap ((BitVec.ofInt 32 ((W.toNat:I).fdiv (2 ^ k)) &&& BitVec.ofInt 32 m).toNat:I):=rfl;have hp:2 ^ n<=2 ^ 31:=Nat.pow_le_pow_right (by decide) hn2;have e1:(BitVec.ofInt 32 (((W.toNat / 2 ^ k:G)):I)).toNat=W.toNat / 2 ^ k:=by
  rw[BitVec.toNat_ofInt];generalize W.toNat / 2 ^ k=x at hd;omega
 have e2:(BitVec.ofInt 32 m).toNat=2 ^ n-1:=by rw[hm,BitVec.toNat_ofInt];omega
 rw[e,tY,BitVec.toNat_and,e1,e2,Nat.and_two_pow_sub_one_eq_mod,ve W hn,IntKind.wrap_u32];have:W.toNat / 2 ^ k % 2 ^ n<=W.toNat / 2 ^ k:=Nat.mod_le _ _;generalize W.toNat / 2 ^ k % 2 ^ n=y at this;generalize W.toNat / 2 ^ k=x at this hd;omega
theorem Cm(W:W32){n:G}(hn2:n<=31)(m:I)(hm:m=((2 ^ n-1:G):I)):ai .and .u32 (W.toNat:I) m=Gn W 0 n:=by
 have:=ny W (k:=0) (n:=n) (by omega) m hm hn2;rw[tY] at this;simpa using this
theorem MO(W:W32):Zci.g (W.toNat:I) 20=Z (sgV W 20,())/\Zci.g (W.toNat:I) 24=Z (sgV W 24,()):=by
 have hlt:=W.isLt;have m20:mn (mx (20:I) 1) 32=20:=by decide
 have m24:mn (mx (24:I) 1) 32=24:=by decide
 have a1:zac.wrap ((1:I)*2 ^ (min (20:I).toNat zac.bits))=1048576:=by decide +kernel
 have a2:zac.wrap ((1:I)*2 ^ (min (zac.wrap ((20:I)-1)).toNat zac.bits))=524288:=by decide +kernel
 have a3:zac.wrap ((1:I)*2 ^ (min (24:I).toNat zac.bits))=16777216:=by decide +kernel
 have a4:zac.wrap ((1:I)*2 ^ (min (zac.wrap ((24:I)-1)).toNat zac.bits))=8388608:=by decide +kernel
 have b1:¬zac.wrap ((20:I)-1)<0:=by decide +kernel
 have b2:¬zac.wrap ((24:I)-1)<0:=by decide +kernel
 have g20:=ve W (k:=0) (n:=20) (by decide);have g24:=ve W (k:=0) (n:=24) (by decide);rw[Nat.pow_zero,Nat.div_one] at g20 g24;have p20:(2:G) ^ 20=1048576:=rfl;have p24:(2:G) ^ 24=16777216:=rfl;rw[p20] at g20;rw[p24] at g24;constructor
 ·unfold Zci.g Zci.f;rw[m20,a1,a2,Y (by decide),Y (by decide),Y b1,w64 (x:=(W.toNat:I)) (by omega),Oj (by omega),JS,g20];by_cases h:524288<=(W.toNat:I) % 1048576
  ·rw[U (by simpa using h),Y (by decide),Y (by omega),w64 (by omega)];congr 2
  ·rw[Y (by simpa using h),U (by omega)];congr 2
 ·unfold Zci.g Zci.f;rw[m24,a3,a4,Y (by decide),Y (by decide),Y b2,w64 (x:=(W.toNat:I)) (by omega),Oj (by omega),JU,g24];by_cases h:8388608<=(W.toNat:I) % 16777216
  ·rw[U (by simpa using h),Y (by decide),Y (by omega),w64 (by omega)];congr 2
  ·rw[Y (by simpa using h),U (by omega)];congr 2
theorem IW(W:W32):Zbb.g (W.toNat:I)=Z (bu W):=by
 unfold Zbb.g;generalize 1000+(W.toNat:I).toNat=n;unfold Zbb.f;have hlt:=W.isLt;have r1:ai .and .u32 ((W.toNat:I).fdiv (2 ^ (min (29:I).toNat H.bits))) 1=Gn W 29 1:=ny W (k:=29) (n:=1) (by decide) 1 rfl (by decide);have r2:ai .and .u32 ((W.toNat:I).fdiv (2 ^ (min (28:I).toNat H.bits))) 1=Gn W 28 1:=ny W (k:=28) (n:=1) (by decide) 1 rfl (by decide);have r3:ai .and .u32 ((W.toNat:I).fdiv (2 ^ (min (24:I).toNat H.bits))) 15=Gn W 24 4:=ny W (k:=24) (n:=4) (by decide) 15 rfl (by decide);have r4:ai .and .u32 ((W.toNat:I).fdiv (2 ^ (min (20:I).toNat H.bits))) 15=Gn W 20 4:=ny W (k:=20) (n:=4) (by decide) 15 rfl (by decide);have r5:ai .and .u32 ((W.toNat:I).fdiv (2 ^ (min (16:I).toNat H.bits))) 15=Gn W 16 4:=ny W (k:=16) (n:=4) (by decide) 15 rfl (by decide);have r6:(W.toNat:I).fdiv (2 ^ (min (30:I).toNat H.bits))=Gn W 30 2:=by
  show(W.toNat:I).fdiv (2 ^ 30)=_;rw[tY,ve W (by decide)];have:W.toNat / 2 ^ 30<4:=by omega
  omega
 have r7:ai .and .u32 (W.toNat:I) 15=Gn W 0 4:=Cm W (n:=4) (by decide) 15 rfl;have r8:ai .and .u32 (W.toNat:I) 65535=Gn W 0 16:=Cm W (n:=16) (by decide) 65535 rfl;obtain⟨s1,s2⟩:=MO W;have b1:=bF W 29 (n:=1) (by decide);have b2:=bF W 28 (n:=1) (by decide);have b3:=bF W 24 (n:=4) (by decide);have b4:=bF W 20 (n:=4) (by decide);have b5:=bF W 16 (n:=4) (by decide);have b7:=bF W 0 (n:=4) (by decide);have b8:=bF W 0 (n:=16) (by decide);rw[r1,r2,r3,r4,r5,r6,r8,s1,s2];unfold Zbb.j10 Zbb.j12 Zbb.j17;rw[r7];simp only[uA,NE,dt,df,NH];unfold bu;rw[w64 (x:=Gn W 24 4) (by omega),w64 (x:=Gn W 20 4) (by omega),w64 (x:=Gn W 16 4) (by omega),w64 (x:=Gn W 0 4) (by omega),w64 (x:=Gn W 0 16) (by omega)];by_cases h1:Gn W 30 2=0
 ·rw[U h1,U h1];by_cases h2:Gn W 29 1=1
  ·rw[U h2];by_cases h3:Gn W 16 4=0
   ·rw[U h3];by_cases h4:Gn W 28 1=1
    ·rw[U h4,U ⟨h2,h3⟩,h4];rfl
    ·rw[Y h4,U h2,U h3,U ⟨h2,h3⟩,show Gn W 28 1=0 by omega];rfl
   ·rw[Y h3,U h2,Y h3,Y (λh=>h3 h.2)]
  ·rw[Y h2,Y h2,Y (λh=>h2 h.1)]
 ·rw[Y h1,Y h1];by_cases h2:Gn W 30 2=1
  ·rw[U h2,U h2];by_cases h4:Gn W 28 1=1
   ·rw[U h4,h4,w64 (by omega)];rfl
   ·rw[Y h4,show Gn W 28 1=0 by omega];simp
  ·rw[Y h2,Y h2];by_cases h3:Gn W 30 2=2
   ·rw[U h3,U h3];have e:∀x:I,0<=x/\x<2->zac.wrap (if x=1 then(1:I) else 0)=x:=λx hx=>by
     split;·rename_i h;rw[h];rfl
     ·rw[w64 (by omega)];omega
    rw[e _ (by omega),e _ (by omega),w64 (x:=2*Gn W 29 1) (by omega),w64 (by omega),Int.mul_comm]
   ·rw[Y h3,Y h3];by_cases h4:Gn W 29 1=1
    ·rw[U h4,U h4]
    ·rw[Y h4,Y h4]
theorem vO{v:I}(h:0<=v/\v<=4294967295):Zdd.g v=Z (fT v):=by
 rw[<- (kw h).1];obtain⟨W,rfl⟩:∃W:W32,v=(W.toNat:I):=⟨BitVec.ofInt 32 v,by rw[BitVec.toNat_ofInt];omega⟩
 unfold Zdd.g Zdd.f Zbt.g Zbt.f;rw[IW,NE,jM,NE];obtain⟨k,o,a,b,c,i,u,z⟩:=bu W;dsimp only;rw[LC,NE];obtain⟨r,hr,_⟩:=xI k o a b c i u;rw[hr,NE];dsimp only;cases r with
 |true=>
  obtain⟨g1,g2⟩:=xH hr;have e:wB k o a b c i u=(((aG k o a b c i u).toNat:I),0,()):=by
   unfold wB;rw[U ((oV k o a b c i u).1 ⟨g1,g2⟩)]
  rw[e,jN,NE];dsimp only;by_cases hw:(((aG k o a b c i u).toNat:I))=(W.toNat:I)
  ·rw[U (by simp),Y (by simpa using hw),U (by simp)]
  ·rw[U (by simp),U (by simpa using hw),U (by simp)]
 |false=>
  have e:wB k o a b c i u=(0,1,()):=by
   unfold wB;rw[Y];intro g;obtain⟨g1,g2⟩:=(oV k o a b c i u).2 g;rw[F4 g1 g2] at hr;cases hr
  rw[e];dsimp only;rw[Y (by simp),Y (by simp)]
theorem yo(ws:D I)(ss:D I)(ys:D Sym)(d:I)(hl:ss.length<=1000000)(n:G):∀(m i:G),i<=ss.length->ss.length-i<m->Zbk.l2 n m d (i:I) ws ss ys=Z (zaa (d∈ss.drop i),())
 |0,i,_,h=>by omega
 |m+1,i,hi,h=>by
  rw[Zbk.l2];by_cases hlt:i<ss.length
  ·have hd:ss.drop i=ss.getD i 0::ss.drop (i+1):=by
    rw[Oe hlt];simp[List.getD,hlt]
   rw[U (by simpa using hlt),U ⟨by omega,by omega⟩,NM,hd];by_cases he:ss.getD i 0=d;·rw[U (by simpa using he),decide_eq_true (by rw[he];simp)]
   ·rw[Y (by simpa using he),w64 (by omega)];have:=yo ws ss ys d hl n m (i+1) (by omega) (by omega);refine this.trans ?_;congr 2;refine decide_eq_decide.2 ?_;rw[NT];exact⟨.inr,λh=>h.resolve_left λe=>he e.symm⟩
  ·rw[Y (by simpa using hlt),List.drop_eq_nil_of_le (by omega)];rfl
theorem uF(ws:D I){ss:D I}(ys:D Sym)(d:I)(hl:ss.length<=1000000):Zbk.g ws ss ys d=Z (zaa (d∈ss),()):=by
 unfold Zbk.g Zbk.f;have:=yo ws ss ys d hl (1000+ws.length+ss.length+ys.length+d.toNat) (1000+ws.length+ss.length+ys.length+d.toNat) 0 (Nat.zero_le _) (by omega);rw[Om] at this;exact this
theorem AL{ws ss:D I}(h:oo ws ss)(ys:D Sym)(i:G)(hi:i<=9223372036854775800):Zdf.g ws ss ys (i:I)=Z (bY ws ss i):=by
 unfold Zdf.g Zdf.f bY;have hss:=h.s;have hws:=h.w;rw[U (by simp)];by_cases hlt:i<ws.length
 ·rw[U (by simp;omega),uF ws ys _ (by omega),NE];dsimp only;by_cases hm:(i:I)∈ss
  ·rw[U (by simpa using hm),Y (by intro h;exact h.2.1 hm)]
  ·rw[Y (by simpa using hm),U ⟨by omega,by omega⟩,NM,vO (h.at hlt),NE];have hsm:=mf (h.at hlt);generalize fT (ws.getD i 0)=r at hsm⊢;obtain⟨k,o,a,b,c,j,u,okk,z⟩:=r;dsimp only at hsm⊢;have e4:zac.wrap (zac.wrap (zac.wrap (4*(i:I))+4)+zac.wrap (4*j))=4*((i:I)+1+j):=by
    rw[w64 (x:=4*(i:I)) (by omega),w64 (x:=4*(i:I)+4) (by omega),w64 (x:=4*j) (by omega),w64 (by omega)];omega
   rw[e4,w64 (x:=4*(ws.length:I)) (by omega)];cases okk with
   |false=>rw[Y (by decide),Y (by simp)]
   |true=>
    rw[U (by decide)];by_cases hk:k=7
    ·rw[U (by simpa using hk)];by_cases h0:4*((i:I)+1+j)<0
     ·rw[Y (by simpa using h0),Y (by omega)]
     ·rw[U (by simpa using h0)];by_cases h1:4*(ws.length:I)<4*((i:I)+1+j)
      ·rw[U (by simpa using h1),Y (by omega)]
      ·rw[Y (by simpa using h1),U ⟨hlt,hm,rfl,hk,by omega,by omega⟩]
    ·rw[Y (by simpa using hk),Y (by intro h;exact hk h.2.2.2.1)]
 ·rw[Y (by simp;omega),Y (by intro h;exact hlt h.1)]
def dgB(k:I):UInt8:=UInt8.ofNat (bt qJ k).toNat
theorem KH:((List.range 16).all λk=>zaa (((qJ.take (k+1)).drop k)=[dgB (k:I)]))=zab:=by decide +kernel
theorem ib(n m:G){x:I}(hx:0<=x/\x<=4294967295)(c:Str)(hc:c.length<=100){d:G}(hd:d<8):Zbq.l4 n (m+1) x qJ c (d:I)=Zbq.l4 n m (x / 16) qJ (dgB (x % 16)::c) ((d+1:G):I):=by
 rw[Zbq.l4];have e1:zac.wrap (Int.tmod x 16)=(((x % 16).toNat:G):I):=by rw[Oj hx.1,w64 (by omega)];omega
 have e2:zac.wrap ((((x % 16).toNat:G):I)+1)=(((x % 16).toNat+1:G):I):=by rw[w64 (by omega)];omega
 have e3:H.wrap (Int.tdiv x 16)=x / 16:=by rw[Int.tdiv_eq_ediv_of_nonneg hx.1,IntKind.wrap_u32];omega
 have hk:(x % 16).toNat<16:=by omega
 have hf:=Oa.1 KH (x % 16).toNat (by simpa using hk)
 rw[NH] at hf;have hl:qJ.length=16:=rfl;rw[U (by simp;omega),e1,e2,U ⟨by omega,by rw[hl];omega⟩,U ⟨by omega,by omega⟩,NM,NM,hf,U (by simp;omega),e3,w64 (by omega),show(((x % 16).toNat:G):I)=x % 16 by omega];rfl
theorem GL{a:I}(ha:0<=a/\a<=4294967295):Zdg.g a=Z (nmR a,()):=by
 have e0:ai .and .i64 a 65535=a % 65536:=by
  have e:ai .and .i64 a 65535=zac.wrap ((BitVec.ofInt 64 a &&& BitVec.ofInt 64 65535).toNat:I):=rfl;have e2:(BitVec.ofInt 64 65535).toNat=2 ^ 16-1:=by decide
  rw[e,BitVec.toNat_and,e2,Nat.and_two_pow_sub_one_eq_mod,BitVec.toNat_ofInt,w64 (by omega)];omega
 have hx:0<=a % 65536/\a % 65536<65536:=by omega
 have hh:Zbq.g (a % 65536)=Z ([dgB (a % 65536 / 16 / 16 / 16 / 16 / 16 / 16 / 16 % 16),dgB (a % 65536 / 16 / 16 / 16 / 16 / 16 / 16 % 16),dgB (a % 65536 / 16 / 16 / 16 / 16 / 16 % 16),dgB (a % 65536 / 16 / 16 / 16 / 16 % 16),dgB (a % 65536 / 16 / 16 / 16 % 16),dgB (a % 65536 / 16 / 16 % 16),dgB (a % 65536 / 16 % 16),dgB (a % 65536 % 16)],()):=by
  generalize a % 65536=x at hx;unfold Zbq.g Zbq.f;obtain⟨m,hm⟩:∃m,1000+x.toNat=m+9:=⟨991+x.toNat,by omega⟩
  rw[hm];show Zbq.l4 (m+9) (m+8+1) x qJ [] ((0:G):I)=_;rw[ib _ (m+8) (by omega) _ (by simp) (by decide),ib _ (m+7) (by omega) _ (by simp) (by decide),ib _ (m+6) (by omega) _ (by simp) (by decide),ib _ (m+5) (by omega) _ (by simp) (by decide),
   ib _ (m+4) (by omega) _ (by simp) (by decide),ib _ (m+3) (by omega) _ (by simp) (by decide),ib _ (m+2) (by omega) _ (by simp) (by decide),ib _ (m+1) (by omega) _ (by simp) (by decide),Zbq.l4,Y (by decide)]
 unfold Zdg.g Zdg.f;rw[e0,IntKind.wrap_u32,show a % 65536 % 4294967296=a % 65536 by omega,hh,NE];dsimp only;rw[U (by simp),U (by simp)];have f:∀k:G,nmD a k=bt qJ (a / 2 ^ k % 16):=λk=>by
  unfold nmD;rw[Int.fdiv_eq_ediv_of_nonneg _ (by exact Int.le_of_lt (Int.pow_pos (by decide)))]
 unfold nmR;rw[f,f,f,f];have a3:a % 65536 / 16 / 16 / 16 % 16=a / 2 ^ 12 % 16:=by have:(2:I) ^ 12=4096:=rfl;rw[this];omega
 have a2:a % 65536 / 16 / 16 % 16=a / 2 ^ 8 % 16:=by have:(2:I) ^ 8=256:=rfl;rw[this];omega
 have a1:a % 65536 / 16 % 16=a / 2 ^ 4 % 16:=by have:(2:I) ^ 4=16:=rfl;rw[this];omega
 have a0:a % 65536 % 16=a / 2 ^ 0 % 16:=by have:(2:I) ^ 0=1:=rfl;rw[this];omega
 rw[a3,a2,a1,a0];rfl
theorem rG{a:I}(ha:0<=a/\a<=4294967295):Zdh.g a=Z (nmE a,()):=by
 unfold Zdh.g Zdh.f;rw[GL ha,NE];rfl
theorem iR{a:I}(h:-9223372036854775808<a/\a<=9223372036854775807):Zcn.g a=Z (gm a,()):=by
 unfold Zcn.g Zcn.f gm;by_cases hn:a<0;·rw[U (by simpa using hn),U hn,w64 (by omega),Int.zero_sub]
 ·rw[Y (by simpa using hn),Y hn]
theorem xq{ws ss:D I}(h:oo ws ss)(ys:D Sym)(i:G)(hi:i<=9223372036854775800):Zam.g ws ss ys (i:I)=Z (jm ws ss i):=by
 unfold Zam.g Zam.f jm;have hss:=h.s;have hws:=h.w;rw[U (by simp)];by_cases hge:ws.length<=i;·rw[U (by simp;omega),U hge];rfl
 ·have hlt:i<ws.length:=by omega
  have hat:=h.at hlt;rw[Y (by simp;omega),Y hge,U ⟨by omega,by omega⟩,NM,w64 (by omega),uF ws ys _ (by omega),NE];dsimp only;by_cases hm:(i:I)∈ss
  ·rw[U (by simpa using hm),U hm];by_cases h4:ws.getD i 0 % 4=0
   ·have ht:Int.tmod (ws.getD i 0) 4=0:=by rw[Oj hat.1];exact h4
    rw[U (by simpa using ht),U h4,rG hat,NE];rfl
   ·have ht:¬Int.tmod (ws.getD i 0) 4=0:=by rw[Oj hat.1];exact h4
    have hn:=uq (ws.getD i 0);rw[Y (by simpa using ht),Y h4,rG (by decide),NE,iR (by omega),NE];dsimp only;generalize gm (ws.getD i 0)=z at hn⊢;have h1:(nmE 0).length=1:=rfl;rw[U (by rw[h1];omega),U (by rw[NP,h1];simp;omega)];rfl
  ·rw[Y (by simpa using hm),Y hm,U ⟨by omega,by omega⟩,vO hat,NE,AL h ys i hi,NE];have hsm:=mf hat
   have hto:(bY ws ss i).2.1=zab->0<=(bY ws ss i).1/\(bY ws ss i).1<=4294967295:=λg=>by
    unfold bY at g⊢;split at g;·rename_i hc;rw[U hc];dsimp only;omega
    ·cases g
   generalize fT (ws.getD i 0)=r at hsm⊢;obtain⟨k,o,a,b,c,j,u,okk,z⟩:=r;dsimp only at hsm⊢;cases okk with
   |false=>
    rw[Y (by decide),U rfl,iR (by omega),NE];rfl
   |true=>
    rw[U (show(!zab)=zad by decide),Y (show ¬(zab=zad) by decide)];generalize bY ws ss i=q at hto;obtain⟨dst,iz,zz⟩:=q;dsimp only at hto⊢;unfold Zam.j12 Zam.j19;by_cases hk:k=7
    ·rw[U (by simpa using hk),U hk];cases iz with
     |false=>rw[U (by decide),iR (by omega),NE,Y (by decide)];rfl
     |true=>rw[Y (by decide),U (by simpa using hk),rG (hto rfl),NE,U rfl]
    ·rw[Y (by simpa using hk),Y (by simpa using hk),Y hk];by_cases h2:k=2
     ·rw[U (by simpa using h2),U (by simpa using h2),iR (by omega),NE,U (.inl h2)]
     ·rw[Y (by simpa using h2)];by_cases h5:k=5
      ·rw[U (by simpa using h5),iR (by omega),NE,U (.inr h5)]
      ·rw[Y (by simpa using h5),Y (by omega)]
end Rv
namespace Rv
open Go
section
variable(ws ss:D I)(ys:D Sym)
def pQ(j:G):Prop:=(0<=ss.getD j 0/\ss.getD j 0<(ws.length:I)/\ss.getD j 0<=65534)/\(0<j->ss.getD (j-1) 0<ss.getD j 0)
def dz:Prop:=∀j,j<ss.length->pQ ws ss j
def Ib(j:G):Prop:=ws.getD (ss.getD j 0).toNat 0<=4*(ws.length:I)
def kG:Prop:=∀j,j<ss.length->Ib ws ss j
def uo(j:G):Prop:=bG (ys.getD j zSy).1=zab/\(0<j->less (ys.getD (j-1) zSy).1 (ys.getD j zSy).1=zab)
def NmP:Prop:=∀j,j<ys.length->uo ys j
def atJ(j:G):Prop:=0<=(ys.getD j zSy).2.1/\(ys.getD j zSy).2.1<=4*(ws.length:I)/\(ys.getD j zSy).2.1 % 4=0
def AtP:Prop:=∀j,j<ys.length->atJ ws ys j
def jB:Prop:=1024<ws.length\/64<ys.length
structure kJ (e:I):Prop where
 big:jB ws ys->e=2
 rise:¬jB ws ys->¬dz ws ss->e=7
 bey:¬jB ws ys->dz ws ss->¬kG ws ss->e=8
 nm:¬jB ws ys->dz ws ss->kG ws ss->¬NmP ys->e=9
 at_:¬jB ws ys->dz ws ss->kG ws ss->NmP ys->¬AtP ws ys->e=8
 ok:¬jB ws ys->dz ws ss->kG ws ss->NmP ys->AtP ws ys->e=0
end
theorem r9{a b:Str}:¬((Op.bytesLess a b||zaa (a=b))=zab)↔less b a=zab:=by
 rw[Bool.or_eq_true,NH];constructor;·intro h;exact Ep (by cases hl:less a b with|false=>rfl|true=>exact absurd (.inl hl) h) λe=>h (.inr e)
 ·rintro h (hh|rfl)
  ·have:=kP h hh;rw[jW] at this;cases this
  ·rw[jW] at h;cases h
section
variable{ws ss:D I}{ys:D Sym}
theorem kJ.uniq{e f:I}(h:kJ ws ss ys e)(g:kJ ws ss ys f):e=f:=by
 by_cases h1:jB ws ys;·rw[h.big h1,g.big h1]
 by_cases h2:dz ws ss
 ·by_cases h3:kG ws ss
  ·by_cases h4:NmP ys
   ·by_cases h5:AtP ws ys
    ·rw[h.ok h1 h2 h3 h4 h5,g.ok h1 h2 h3 h4 h5]
    ·rw[h.at_ h1 h2 h3 h4 h5,g.at_ h1 h2 h3 h4 h5]
   ·rw[h.nm h1 h2 h3 h4,g.nm h1 h2 h3 h4]
  ·rw[h.bey h1 h2 h3,g.bey h1 h2 h3]
 ·rw[h.rise h1 h2,g.rise h1 h2]
theorem LD(R:dz ws ss):∀i j,i<j->j<ss.length->ss.getD i 0<ss.getD j 0:=by
 intro i j hij hj
 induction j with
 |zero=>omega
 |succ j ih=>
  have h1:=(R (j+1) hj).2 (by omega);rcases Nat.lt_or_ge i j with h|h;·have:=ih h (by omega);simp only[Nat.add_sub_cancel] at h1;omega
  ·obtain rfl:i=j:=by omega
   simpa using h1
theorem He(h:NmP ys):wY ys:=by
 unfold wY;rw[List.pairwise_iff_getElem];have key:∀i j,i<j->j<ys.length->less (ys.getD i zSy).1 (ys.getD j zSy).1=zab:=by
  intro i j hij hj
  induction j with
  |zero=>omega
  |succ j ih=>
   have h1:=(h (j+1) hj).2 (by omega);simp only[Nat.add_sub_cancel] at h1;rcases Nat.lt_or_ge i j with hh|hh;·exact kP (ih hh (by omega)) h1
   ·obtain rfl:i=j:=by omega
    exact h1
 intro i j hi hj hij;have:=key i j hij hj;rw[NN,NQ hi,NN,NQ hj] at this;exact this
theorem kJ.okO{e:I}(h:kJ ws ss ys e)(he:e=0)(hr:∀x∈ws,0<=x/\x<=4294967295):OkO ws ss ys:=by
 subst he;have h1:¬jB ws ys:=λg=>absurd (h.big g) (by decide)
 have h2:dz ws ss:=Classical.byContradiction λg=>absurd (h.rise h1 g) (by decide)
 have h3:kG ws ss:=Classical.byContradiction λg=>absurd (h.bey h1 h2 g) (by decide)
 have h4:NmP ys:=Classical.byContradiction λg=>absurd (h.nm h1 h2 h3 g) (by decide)
 have h5:AtP ws ys:=Classical.byContradiction λg=>absurd (h.at_ h1 h2 h3 h4 g) (by decide)
 unfold jB at h1;have idx:∀z∈ys,∃j,j<ys.length/\z=ys.getD j zSy:=λz hz=>by
  obtain⟨j,hj,e⟩:=List.getElem_of_mem hz;exact⟨j,hj,by rw[NN,NQ hj];exact e.symm⟩
 exact {
  lw:=by omega
  wr:=hr
  lt:=LD h2
  at_:=λi hi=>⟨(h2 i hi).1.1,(h2 i hi).1.2.1⟩
  low:=λi hi=>by have:ws.getD (ss.getD i 0).toNat 0<=4*(ws.length:I):=h3 i hi;omega
  bey:=h3
  nm:=λz hz=>by obtain⟨j,hj,rfl⟩:=idx z hz;exact(h4 j hj).1
  srt:=He h4
  sat_:=λz hz=>by obtain⟨j,hj,rfl⟩:=idx z hz;exact h5 j hj
  ly:=by omega }
section
variable(hw:ws.length<=100000)(hs:ss.length<=100000)(hy:ys.length<=100000)(hr:∀x∈ws,0<=x/\x<=4294967295)
include hw hs
theorem xO(R:dz ws ss)(n:G):∀(m i:G) (b:I) (a:D I),i<=ss.length->ss.length-i<m->a.length=ws.length->∃r,Zar.l12 n m a b ss (ss.length:I) (i:I)=Z r/\r.2.2.1≠7
 |0,i,b,a,_,h,_=>by omega
 |m+1,i,b,a,hi,h,ha=>by
  rw[Zar.l12];by_cases h1:i<ss.length
  ·have hR:=(R i h1).1;rw[U (by simpa using h1),U ⟨by omega,by omega⟩,NM];rw[U ⟨by omega,by omega⟩];split
   ·exact⟨_,rfl,by decide⟩
   ·rw[U ⟨by omega,by omega⟩,U ⟨by omega,by omega⟩,w64 (x:=(i:I)+1) (by omega)];exact xO R n m (i+1) _ _ (by omega) (by omega) (by rw[List.length_set];exact ha)
  ·rw[Y (by simpa using h1)];exact⟨_,rfl,by show(0:I)≠7;decide⟩
theorem Ad(n:G)(hn:ss.length<n):∀(m i:G) (c:I),i<=ss.length->ss.length-i<m->(∀j,j<i->pQ ws ss j)->(c=if i=0 then -1 else ss.getD (i-1) 0)->∃r,Zar.l3 n m ws ss c ss (ss.length:I) (i:I)=Z r/\(r.2.2.1=7↔¬dz ws ss)
 |0,i,c,_,h,_,_=>by omega
 |m+1,i,c,hi,h,hb,hc=>by
  rw[Zar.l3];have bad:¬pQ ws ss i->i<ss.length->∃r,(Z (([]:D I),(0:I),(7:I),()):zaf (D I×I×I×zai))=Z r/\(r.2.2.1=7↔¬dz ws ss):=λhb hi=>⟨_,rfl,λ_ R=>hb (R i hi),λ_=>rfl⟩
  by_cases h1:i<ss.length
  ·rw[U (by simpa using h1),U ⟨by omega,by omega⟩,NM];by_cases h2:ss.getD i 0<=c
   ·rw[Y (by simpa using h2)];refine bad (λg=>?_) h1;split at hc
    ·have:=g.1.1;omega
    ·have:=g.2 (by omega);omega
   ·rw[U (by simpa using h2)];by_cases h3:(ws.length:I)<=ss.getD i 0
    ·rw[Y (by simpa using h3)];exact bad (λg=>by have:=g.1.2.1;omega) h1
    ·rw[U (by simpa using h3)];by_cases h4:65534<ss.getD i 0
     ·rw[U (by simpa using h4)];exact bad (λg=>by have:=g.1.2.2;omega) h1
     ·have h0:pQ ws ss i:=by
       refine⟨⟨?_,by omega,by omega⟩,λhp=>?_⟩
       ·by_cases hz:i=0
        ·rw[U hz] at hc;omega
        ·rw[Y hz] at hc;have:=(hb (i-1) (by omega)).1.1;omega
       ·rw[Y (by omega)] at hc;omega
      rw[Y (by simpa using h4),w64 (x:=(i:I)+1) (by omega)];refine Ad n hn m (i+1) _ (by omega) (by omega) (λj hj=>?_) (by rw[Y (by omega)];simp);rcases Nat.lt_or_ge j i with h5|h5;·exact hb j h5
      ·obtain rfl:j=i:=by omega
       exact h0
  ·have R:dz ws ss:=λj hj=>hb j (by omega)
   rw[Y (by simpa using h1)];unfold L.cloneO;rw[U (by omega),NE];obtain⟨r,h2,h3⟩:=xO hw hs R n n 0 0 ws (Nat.zero_le _) (by omega) rfl;rw[show((0:G):I)=0 from rfl] at h2;exact⟨r,h2,λh=>absurd h h3,λh=>absurd R h⟩
theorem Dj(n:G):∀(m i:G),i<=ss.length->ss.length-i<m->(∀j,j<i->pQ ws ss j)->∃r,Zbc.l2 n m ss (ws.length:I) (i:I)=Z (r,())/\(r=zab↔dz ws ss)
 |0,i,_,h,_=>by omega
 |m+1,i,hi,h,hb=>by
  rw[Zbc.l2];have bad:¬pQ ws ss i->i<ss.length->∃r,(Z (zad,()):zaf (zah×zai))=Z (r,())/\(r=zab↔dz ws ss):=λhb hi=>⟨_,rfl,λh=>(by cases h),λR=>absurd (R i hi) hb⟩
  by_cases h1:i<ss.length
  ·have next:pQ ws ss i->∃r,Zbc.j3 n (Zbc.l2 n m) ss (ws.length:I) (i:I)=Z (r,())/\(r=zab↔dz ws ss):=λh0=>by
    unfold Zbc.j3;rw[w64 (by omega)];refine Dj n m (i+1) (by omega) (by omega) λj hj=>?_
    rcases Nat.lt_or_ge j i with h5|h5;·exact hb j h5
    ·obtain rfl:j=i:=by omega
     exact h0
   rw[U (by simpa using h1),U ⟨by omega,by omega⟩,NM];by_cases h2:ss.getD i 0<0;·rw[Y (by simpa using h2)];exact bad (λg=>by have:=g.1.1;omega) h1
   ·rw[U (by simpa using h2),U ⟨by omega,by omega⟩];by_cases h3:(ws.length:I)<=ss.getD i 0
    ·rw[Y (by simpa using h3)];exact bad (λg=>by have:=g.1.2.1;omega) h1
    ·rw[U (by simpa using h3),U ⟨by omega,by omega⟩];by_cases h4:65534<ss.getD i 0
     ·rw[Y (by simpa using h4)];exact bad (λg=>by have:=g.1.2.2;omega) h1
     ·rw[U (by simpa using h4)];by_cases h5:0<i
      ·rw[U (by simpa using h5),U ⟨by omega,by omega⟩,w64 (by omega),show(i:I)-1=((i-1:G):I) by omega,NM,U ⟨by omega,by omega⟩];by_cases h6:ss.getD i 0<=ss.getD (i-1) 0
       ·rw[U (by simpa using h6)];exact bad (λg=>by have:=g.2 h5;omega) h1
       ·rw[Y (by simpa using h6)];exact next ⟨⟨by omega,by omega,by omega⟩,λ_=>by omega⟩
      ·rw[Y (by simpa using h5)];exact next ⟨⟨by omega,by omega,by omega⟩,λh=>absurd h h5⟩
  ·rw[Y (by simpa using h1)];exact⟨zab,rfl,λ_ j hj=>hb j (by omega),λ_=>rfl⟩
include hr
theorem MW{s:I}(h:0<=s/\s<(ws.length:I)):0<=ws.getD s.toNat 0/\ws.getD s.toNat 0<=4294967295:=by
 rw[NN,NQ (by omega)];exact hr _ (Oo _)
theorem Fq(R:dz ws ss)(n:G):∀(m i:G),i<=ss.length->ss.length-i<m->(∀j,j<i->Ib ws ss j)->∃k,Zbl.l2 n m ss (ss.length:I) (i:I) ws ss ys (4*(ws.length:I))=Z (k,ws,ss,ys,4*(ws.length:I),())/\(0<=k↔¬kG ws ss)
 |0,i,_,h,_=>by omega
 |m+1,i,hi,h,hb=>by
  rw[Zbl.l2];by_cases h1:i<ss.length
  ·have hR:=(R i h1).1;have hg:=MW hw hs hr (s:=ss.getD i 0) ⟨hR.1,hR.2.1⟩;rw[U (by simpa using h1),U ⟨by omega,by omega⟩,NM];unfold Zdj.g Zdj.f;rw[U ⟨by omega,by omega⟩,w64 (x:=ws.getD (ss.getD i 0).toNat 0) (by omega),NE];dsimp only;by_cases h2:4*(ws.length:I)<ws.getD (ss.getD i 0).toNat 0
   ·rw[U (by simpa using h2)];exact⟨_,rfl,λ_ g=>by have:ws.getD (ss.getD i 0).toNat 0<=4*(ws.length:I):=g i h1;omega,λ_=>by omega⟩
   ·rw[Y (by simpa using h2),w64 (by omega)];refine Fq R n m (i+1) (by omega) (by omega) λj hj=>?_
    rcases Nat.lt_or_ge j i with h5|h5;·exact hb j h5
    ·obtain rfl:j=i:=by omega
     show ws.getD (ss.getD j 0).toNat 0<=4*(ws.length:I);omega
  ·rw[Y (by simpa using h1)];exact⟨-1,rfl,λh=>absurd h (by decide),λh=>absurd (λj hj=>hb j (by omega)) h⟩
theorem Dg(R:dz ws ss)(n:G):∀(m i:G),i<=ss.length->ss.length-i<m->(∀j,j<i->Ib ws ss j)->(kG ws ss->Zaj.l7 n m (ws.length:I) (i:I) ws ss ys=Zaj.l12 n n (ws.length:I) 0 ws ss ys)/\(¬kG ws ss->Zaj.l7 n m (ws.length:I) (i:I) ws ss ys=Z (8,()))
 |0,i,_,h,_=>by omega
 |m+1,i,hi,h,hb=>by
  rw[Zaj.l7];by_cases h1:i<ss.length
  ·have hR:=(R i h1).1;have hg:=MW hw hs hr (s:=ss.getD i 0) ⟨hR.1,hR.2.1⟩;rw[U (by simpa using h1),U ⟨by omega,by omega⟩,NM,U ⟨by omega,by omega⟩,w64 (x:=ws.getD (ss.getD i 0).toNat 0) (by omega),w64 (x:=4*(ws.length:I)) (by omega)];by_cases h2:4*(ws.length:I)<ws.getD (ss.getD i 0).toNat 0
   ·rw[U (by simpa using h2)];exact⟨λg=>by have:ws.getD (ss.getD i 0).toNat 0<=4*(ws.length:I):=g i h1;omega,λ_=>rfl⟩
   ·rw[Y (by simpa using h2),w64 (by omega)];refine Dg R n m (i+1) (by omega) (by omega) λj hj=>?_
    rcases Nat.lt_or_ge j i with h5|h5;·exact hb j h5
    ·obtain rfl:j=i:=by omega
     show ws.getD (ss.getD j 0).toNat 0<=4*(ws.length:I);omega
  ·rw[Y (by simpa using h1)];exact⟨λ_=>rfl,λh=>absurd (λj hj=>hb j (by omega)) h⟩
omit hr hs
include hy
theorem Kj(n:G):∀(m i:G),i<=ys.length->ys.length-i<m->(∀j,j<i->uo ys j)->∃r,Zaq.l2 n m ys (ys.length:I) (i:I) ws ss ys=Z (r,ws,ss,ys,())/\(r=zab↔NmP ys)
 |0,i,_,h,_=>by omega
 |m+1,i,hi,h,hb=>by
  rw[Zaq.l2];have bad:¬uo ys i->i<ys.length->∃r,(Z (zad,ws,ss,ys,()):zaf (zah×D I×D I×D Sym×zai))=Z (r,ws,ss,ys,())/\(r=zab↔NmP ys):=λhb hi=>⟨_,rfl,λh=>(by cases h),λR=>absurd (R i hi) hb⟩
  by_cases h1:i<ys.length
  ·have next:uo ys i->∃r,Zaq.j6 n (Zaq.l2 n m) ys (ys.length:I) (i:I) ws ss ys=Z (r,ws,ss,ys,())/\(r=zab↔NmP ys):=λh0=>by
    unfold Zaq.j6;rw[w64 (by omega)];refine Kj n m (i+1) (by omega) (by omega) λj hj=>?_
    rcases Nat.lt_or_ge j i with h5|h5;·exact hb j h5
    ·obtain rfl:j=i:=by omega
     exact h0
   rw[U (by simpa using h1),U ⟨by omega,by omega⟩,NM,qN,NE];dsimp only;by_cases h2:bG (ys.getD i zSy).1=zab
   ·rw[h2,U (by decide)];by_cases h3:0<i
    ·rw[U (by simpa using h3),w64 (by omega),show(i:I)-1=((i-1:G):I) by omega,NM,U ⟨by omega,by omega⟩];by_cases h4:(Op.bytesLess (ys.getD i zSy).1 (ys.getD (i-1) zSy).1||zaa ((ys.getD i zSy).1=(ys.getD (i-1) zSy).1))=zab
     ·rw[U h4];exact bad (λg=>r9.2 (g.2 h3) h4) h1
     ·rw[Y h4];exact next ⟨h2,λ_=>r9.1 h4⟩
    ·rw[Y (by simpa using h3)];exact next ⟨h2,λh=>absurd h h3⟩
   ·rw[Y (by simpa using h2)];exact bad (λg=>h2 g.1) h1
  ·rw[Y (by simpa using h1)];exact⟨zab,rfl,λ_ j hj=>hb j (by omega),λ_=>rfl⟩
theorem Ke(n:G):∀(m i:G),i<=ys.length->ys.length-i<m->(∀j,j<i->atJ ws ys j)->∃k,Zbm.l2 n m ys (ys.length:I) (i:I) (4*(ws.length:I))=Z (k,4*(ws.length:I),())/\(0<=k↔¬AtP ws ys)
 |0,i,_,h,_=>by omega
 |m+1,i,hi,h,hb=>by
  rw[Zbm.l2];by_cases h1:i<ys.length
  ·rw[U (by simpa using h1),U ⟨by omega,by omega⟩,NM];have hm:∃b,Zcz.g (ys.getD i zSy).1 (ys.getD i zSy).2.1 (4*(ws.length:I))=Z (b,4*(ws.length:I),())/\(b=zab↔¬atJ ws ys i):=by
    unfold Zcz.g Zcz.f atJ;generalize (ys.getD i zSy).2.1=v;by_cases a1:v<0;·rw[Y (by simpa using a1)];exact⟨_,rfl,λ_ g=>by omega,λ_=>rfl⟩
    ·rw[U (by simpa using a1)];by_cases a2:4*(ws.length:I)<v
     ·rw[Y (by simpa using a2)];exact⟨_,rfl,λ_ g=>by omega,λ_=>rfl⟩
     ·rw[U (by simpa using a2),Oj (by omega)];refine⟨_,rfl,?_⟩;rw[NH];exact⟨λg h=>g h.2.2,λg h=>g ⟨by omega,by omega,h⟩⟩
   obtain⟨b,hb1,hb2⟩:=hm;rw[hb1,NE];dsimp only;by_cases h2:b=zab;·rw[U h2];exact⟨_,rfl,λ_ g=>hb2.1 h2 (g i h1),λ_=>by omega⟩
   ·rw[Y h2,w64 (by omega)];refine Ke n m (i+1) (by omega) (by omega) λj hj=>?_
    rcases Nat.lt_or_ge j i with h5|h5;·exact hb j h5
    ·obtain rfl:j=i:=by omega
     exact Classical.byContradiction λg=>h2 (hb2.2 g)
  ·rw[Y (by simpa using h1)];exact⟨-1,rfl,λh=>absurd h (by decide),λh=>absurd (λj hj=>hb j (by omega)) h⟩
theorem Df(n:G):∀(m i:G),i<=ys.length->ys.length-i<m->(∀j,j<i->atJ ws ys j)->(AtP ws ys->Zaj.l17 n m (ws.length:I) (i:I) ws ss ys=Z (0,()))/\(¬AtP ws ys->Zaj.l17 n m (ws.length:I) (i:I) ws ss ys=Z (8,()))
 |0,i,_,h,_=>by omega
 |m+1,i,hi,h,hb=>by
  rw[Zaj.l17];by_cases h1:i<ys.length
  ·have bad:¬atJ ws ys i->(AtP ws ys->(Z (8,()):zaf (I×zai))=Z (0,()))/\(¬AtP ws ys->(Z (8,()):zaf (I×zai))=Z (8,())):=λg=>⟨λR=>absurd (R i h1) g,λ_=>rfl⟩
   rw[U (by simpa using h1),U ⟨by omega,by omega⟩,NM,w64 (x:=4*(ws.length:I)) (by omega)];by_cases a1:(ys.getD i zSy).2.1<0;·rw[Y (by simpa using a1)];exact bad λg=>by have:=g.1;omega
   ·rw[U (by simpa using a1)];by_cases a2:4*(ws.length:I)<(ys.getD i zSy).2.1
    ·rw[Y (by simpa using a2)];exact bad λg=>by have:=g.2.1;omega
    ·rw[U (by simpa using a2),Oj (a:=(ys.getD i zSy).2.1) (by omega)];by_cases a3:(ys.getD i zSy).2.1 % 4=0
     ·rw[Y (by simpa using a3),w64 (by omega)];refine Df n m (i+1) (by omega) (by omega) λj hj=>?_
      rcases Nat.lt_or_ge j i with h5|h5;·exact hb j h5
      ·obtain rfl:j=i:=by omega
       exact⟨by omega,by omega,a3⟩
     ·rw[U (by simpa using a3)];exact bad λg=>a3 g.2.2
  ·rw[Y (by simpa using h1)];exact⟨λ_=>rfl,λh=>absurd (λj hj=>hb j (by omega)) h⟩
theorem Dk(hn:∀z∈ys,z.1.length<=1000000)(n:G):∀(m i:G),i<=ys.length->ys.length-i<m->(∀j,j<i->uo ys j)->(NmP ys->Zaj.l12 n m (ws.length:I) (i:I) ws ss ys=Zaj.l17 n n (ws.length:I) 0 ws ss ys)/\(¬NmP ys->Zaj.l12 n m (ws.length:I) (i:I) ws ss ys=Z (9,()))
 |0,i,_,h,_=>by omega
 |m+1,i,hi,h,hb=>by
  rw[Zaj.l12];by_cases h1:i<ys.length
  ·have bad:¬uo ys i->(NmP ys->(Z (9,()):zaf (I×zai))=Zaj.l17 n n (ws.length:I) 0 ws ss ys)/\(¬NmP ys->(Z (9,()):zaf (I×zai))=Z (9,())):=λg=>⟨λR=>absurd (R i h1) g,λ_=>rfl⟩
   have next:uo ys i->(NmP ys->Zaj.j13 n (Zaj.l12 n m) (ws.length:I) (i:I) ws ss ys=Zaj.l17 n n (ws.length:I) 0 ws ss ys)/\(¬NmP ys->Zaj.j13 n (Zaj.l12 n m) (ws.length:I) (i:I) ws ss ys=Z (9,())):=λh0=>by
    unfold Zaj.j13;rw[w64 (by omega)];refine Dk hn n m (i+1) (by omega) (by omega) λj hj=>?_
    rcases Nat.lt_or_ge j i with h5|h5;·exact hb j h5
    ·obtain rfl:j=i:=by omega
     exact h0
   rw[U (by simpa using h1),U ⟨by omega,by omega⟩,NM,kE _ (hn _ (yT h1)),NE];dsimp only;by_cases h2:bG (ys.getD i zSy).1=zab
   ·rw[h2,U (by decide)];by_cases h3:0<i
    ·rw[U (by simpa using h3),U ⟨by omega,by omega⟩,w64 (by omega),show(i:I)-1=((i-1:G):I) by omega,NM,U ⟨by omega,by omega⟩];by_cases h4:(Op.bytesLess (ys.getD i zSy).1 (ys.getD (i-1) zSy).1||zaa ((ys.getD i zSy).1=(ys.getD (i-1) zSy).1))=zab
     ·rw[U h4];exact bad λg=>r9.2 (g.2 h3) h4
     ·rw[Y h4];exact next ⟨h2,λ_=>r9.1 h4⟩
    ·rw[Y (by simpa using h3)];exact next ⟨h2,λh=>absurd h h3⟩
   ·rw[Y (by simpa using h2)];exact bad λg=>h2 g.1
  ·rw[Y (by simpa using h1)];exact⟨λ_=>rfl,λh=>absurd (λj hj=>hb j (by omega)) h⟩
include hs hr
theorem CL:∃e,Zbn.g ws ss ys=Z (e,())/\kJ ws ss ys e:=by
 unfold Zbn.g Zbn.f;have hbig:∀{A:zaf (I×zai)},jB ws ys->A=Z (2,())->∃e,A=Z (e,())/\kJ ws ss ys e:=λhB hA=>⟨2,hA,λ_=>rfl,λh=>absurd hB h,λh=>absurd hB h,λh=>absurd hB h,λh=>absurd hB h,λh=>absurd hB h⟩
 by_cases b1:1024<ws.length;·rw[Y (by simp;omega)];exact hbig (.inl b1) rfl
 rw[U (by simp;omega)];by_cases b2:64<ys.length;·rw[U (by simp;omega)];exact hbig (.inr b2) rfl
 rw[Y (by simp;omega)];have nb:¬jB ws ys:=λh=>h.elim b1 b2
 have hp:∃r,Zar.g ws ss=Z r/\(r.2.2.1=7↔¬dz ws ss):=by
  unfold Zar.g Zar.f;exact Ad hw hs _ (by omega) _ 0 (-1) (Nat.zero_le _) (by omega) (λj hj=>by omega) (by rw[U rfl])
 obtain⟨r,hr1,hr2⟩:=hp;rw[hr1,NE];by_cases h7:r.2.2.1=7;·have nR:=hr2.1 h7;rw[U (by simpa using h7),h7];exact⟨7,rfl,λh=>absurd h nb,λ_ _=>rfl,λ_ h=>absurd h nR,λ_ h=>absurd h nR,λ_ h=>absurd h nR,λ_ h=>absurd h nR⟩
 have R:dz ws ss:=Classical.byContradiction λg=>h7 (hr2.2 g)
 rw[Y (by simpa using h7),w64 (by omega)];have hc:∃b,Zco.g ss ws ss ys (4*(ws.length:I))=Z (b,ws,ss,ys,4*(ws.length:I),())/\(b=zab↔¬kG ws ss):=by
  unfold Zco.g Zco.f Zbl.g Zbl.f;obtain⟨k,h1,h2⟩:=Fq (ys:=ys) hw hs hr R (1000+ss.length+ws.length+ss.length+ys.length+(4*(ws.length:I)).toNat) (1000+ss.length+ws.length+ss.length+ys.length+(4*(ws.length:I)).toNat) 0 (Nat.zero_le _) (by omega) λj hj=>by omega
  rw[show((0:G):I)=0 from rfl] at h1;rw[h1,NE];exact⟨_,rfl,by rw[NH];exact h2⟩
 obtain⟨b,hb1,hb2⟩:=hc;rw[hb1,NE];dsimp only;by_cases h8:b=zab;·have nB:=hb2.1 h8;rw[U h8];exact⟨8,rfl,λh=>absurd h nb,λ_ h=>absurd R h,λ_ _ _=>rfl,λ_ _ h=>absurd h nB,λ_ _ h=>absurd h nB,λ_ _ h=>absurd h nB⟩
 have B:kG ws ss:=Classical.byContradiction λg=>h8 (hb2.2 g)
 rw[Y h8];have hn3:∃b,Zaq.g ws ss ys=Z (b,ws,ss,ys,())/\(b=zab↔NmP ys):=by
  unfold Zaq.g Zaq.f;exact Kj hw hy _ _ 0 (Nat.zero_le _) (by omega) λj hj=>by omega
 obtain⟨c,hc1,hc2⟩:=hn3;rw[hc1,NE];dsimp only;by_cases h9:c=zab
 ·have N:=hc2.1 h9;rw[h9,Y (by decide)];have ha:∃b,Zcp.g ys (4*(ws.length:I))=Z (b,4*(ws.length:I),())/\(b=zab↔¬AtP ws ys):=by
   unfold Zcp.g Zcp.f Zbm.g Zbm.f;obtain⟨k,h1,h2⟩:=Ke (ws:=ws) hw hy (1000+ys.length+(4*(ws.length:I)).toNat) (1000+ys.length+(4*(ws.length:I)).toNat) 0 (Nat.zero_le _) (by omega) λj hj=>by omega
   rw[show((0:G):I)=0 from rfl] at h1;rw[h1,NE];exact⟨_,rfl,by rw[NH];exact h2⟩
  obtain⟨d,hd1,hd2⟩:=ha;rw[hd1,NE];dsimp only;by_cases h0:d=zab;·have nA:=hd2.1 h0;rw[U h0];exact⟨8,rfl,λh=>absurd h nb,λ_ h=>absurd R h,λ_ _ h=>absurd B h,λ_ _ _ h=>absurd N h,λ_ _ _ _ _=>rfl,λ_ _ _ _ h=>absurd h nA⟩
  ·have A:AtP ws ys:=Classical.byContradiction λg=>h0 (hd2.2 g)
   rw[Y h0];exact⟨0,rfl,λh=>absurd h nb,λ_ h=>absurd R h,λ_ _ h=>absurd B h,λ_ _ _ h=>absurd N h,λ_ _ _ _ h=>absurd A h,λ_ _ _ _ _=>rfl⟩
 ·have nN:¬NmP ys:=λg=>h9 (hc2.2 g)
  rw[U (by simpa using h9)];exact⟨9,rfl,λh=>absurd h nb,λ_ h=>absurd R h,λ_ _ h=>absurd B h,λ_ _ _ _=>rfl,λ_ _ _ h=>absurd h nN,λ_ _ _ h=>absurd h nN⟩
theorem AO(hn:∀z∈ys,z.1.length<=1000000):∃e,Zaj.g ws ss ys=Z (e,())/\kJ ws ss ys e:=by
 unfold Zaj.g;generalize hN:1000+ws.length+ss.length+ys.length=n;unfold Zaj.f;have hbig:∀{A:zaf (I×zai)},jB ws ys->A=Z (2,())->∃e,A=Z (e,())/\kJ ws ss ys e:=λhB hA=>⟨2,hA,λ_=>rfl,λh=>absurd hB h,λh=>absurd hB h,λh=>absurd hB h,λh=>absurd hB h,λh=>absurd hB h⟩
 by_cases b1:1024<ws.length;·rw[Y (by simp;omega)];exact hbig (.inl b1) rfl
 rw[U (by simp;omega)];by_cases b2:64<ys.length;·rw[U (by simp;omega)];exact hbig (.inr b2) rfl
 rw[Y (by simp;omega)];have nb:¬jB ws ys:=λh=>h.elim b1 b2
 have hp:∃r,Zbc.g ss (ws.length:I)=Z (r,())/\(r=zab↔dz ws ss):=by
  unfold Zbc.g Zbc.f;exact Dj hw hs _ _ 0 (Nat.zero_le _) (by omega) λj hj=>by omega
 obtain⟨r,hr1,hr2⟩:=hp;rw[hr1,NE];dsimp only;by_cases h7:r=zab
 ·have R:=hr2.1 h7;rw[h7,Y (by decide)];obtain⟨k1,k2⟩:=Dg (ys:=ys) hw hs hr R n n 0 (Nat.zero_le _) (by omega) λj hj=>by omega
  rw[show((0:G):I)=0 from rfl] at k1 k2;by_cases B:kG ws ss
  ·rw[k1 B];obtain⟨k1,k2⟩:=Dk (ws:=ws) (ss:=ss) hw hy hn n n 0 (Nat.zero_le _) (by omega) λj hj=>by omega
   rw[show((0:G):I)=0 from rfl] at k1 k2;by_cases N:NmP ys
   ·rw[k1 N];obtain⟨k1,k2⟩:=Df (ws:=ws) (ss:=ss) hw hy n n 0 (Nat.zero_le _) (by omega) λj hj=>by omega
    rw[show((0:G):I)=0 from rfl] at k1 k2;by_cases A:AtP ws ys;·exact⟨0,k1 A,λh=>absurd h nb,λ_ h=>absurd R h,λ_ _ h=>absurd B h,λ_ _ _ h=>absurd N h,λ_ _ _ _ h=>absurd A h,λ_ _ _ _ _=>rfl⟩
    ·exact⟨8,k2 A,λh=>absurd h nb,λ_ h=>absurd R h,λ_ _ h=>absurd B h,λ_ _ _ h=>absurd N h,λ_ _ _ _ _=>rfl,λ_ _ _ _ h=>absurd h A⟩
   ·exact⟨9,k2 N,λh=>absurd h nb,λ_ h=>absurd R h,λ_ _ h=>absurd B h,λ_ _ _ _=>rfl,λ_ _ _ h=>absurd h N,λ_ _ _ h=>absurd h N⟩
  ·exact⟨8,k2 B,λh=>absurd h nb,λ_ h=>absurd R h,λ_ _ _=>rfl,λ_ _ h=>absurd h B,λ_ _ h=>absurd h B,λ_ _ h=>absurd h B⟩
 ·have nR:¬dz ws ss:=λg=>h7 (hr2.2 g)
  rw[U (by simpa using h7)];exact⟨7,rfl,λh=>absurd h nb,λ_ _=>rfl,λ_ h=>absurd h nR,λ_ h=>absurd h nR,λ_ h=>absurd h nR,λ_ h=>absurd h nR⟩
end
end
end Rv
