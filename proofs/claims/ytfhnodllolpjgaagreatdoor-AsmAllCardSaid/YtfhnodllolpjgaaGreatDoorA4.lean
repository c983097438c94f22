/- Texts put together. -/
import Derived.Test.YtfhnodllolpjgaaGreatDoorA3
import Derived.Test.YtfhnodllolpjgaaGreatDoorA1
import Derived.Test.YtfhnodllolpjgaaGreatDoorA2
set_option linter.all false
namespace Rv
open Go
theorem NI(i:Int):Zcn.g i 20=some (decide (-524288<=i/\i<=524287),()):=by
 unfold Zcn.g Zcn.f;rw[show IntKind.i64.wrap ((mn (mx 20 1) 32)-1)=19 by decide,if_neg (by decide),show IntKind.i64.wrap ((-1:Int)*2 ^ (min (19:Int).toNat IntKind.i64.bits))=-524288 by decide,show IntKind.i64.wrap ((1:Int)*2 ^ (min (19:Int).toNat IntKind.i64.bits))=524288 by decide];by_cases h:-524288<=i;·rw[if_pos (decide_eq_true h),if_neg (by decide)];congr 2;rw[Bool.eq_iff_iff,Px,Px];omega
 ·rw[if_neg (by simpa using h),decide_eq_false (by omega)]
theorem GG(i:Int):Zcn.g i 24=some (decide (-8388608<=i/\i<=8388607),()):=by
 unfold Zcn.g Zcn.f;rw[show IntKind.i64.wrap ((mn (mx 24 1) 32)-1)=23 by decide,if_neg (by decide),show IntKind.i64.wrap ((-1:Int)*2 ^ (min (23:Int).toNat IntKind.i64.bits))=-8388608 by decide,show IntKind.i64.wrap ((1:Int)*2 ^ (min (23:Int).toNat IntKind.i64.bits))=8388608 by decide];by_cases h:-8388608<=i;·rw[if_pos (decide_eq_true h),if_neg (by decide)];congr 2;rw[Bool.eq_iff_iff,Px,Px];omega
 ·rw[if_neg (by simpa using h),decide_eq_false (by omega)]
set_option maxHeartbeats 2000000 in
theorem xz(k o a b c i:Int)(u:Bool):∃r,Zak.g k o a b c i u=some (r,())/\(r=true↔bO k o a b c u/\bU k o i u):=by
 unfold Zak.g;generalize 1000+k.toNat+o.toNat+a.toNat+b.toNat+c.toNat+i.toNat=n;unfold Zak.f;rw[qF,qF,qF,Pt,Pt,Pt];dsimp only;by_cases ha:rg a
 case neg=>rw[decide_eq_false (show ¬(0<=a/\a<16) from ha),if_neg (by decide)];exact⟨_,rfl,fun h=>(by cases h),fun h=>absurd (zW h.1).1 ha⟩
 by_cases hb:rg b
 case neg=>rw[decide_eq_true (show 0<=a/\a<16 from ha),decide_eq_false (show ¬(0<=b/\b<16) from hb),if_pos (by decide),if_neg (by decide)];exact⟨_,rfl,fun h=>(by cases h),fun h=>absurd (zW h.1).2.1 hb⟩
 by_cases hc:rg c
 case neg=>rw[decide_eq_true (show 0<=a/\a<16 from ha),decide_eq_true (show 0<=b/\b<16 from hb),decide_eq_false (show ¬(0<=c/\c<16) from hc),if_pos (by decide),if_pos (by decide),if_pos (by decide)];exact⟨_,rfl,fun h=>(by cases h),fun h=>absurd (zW h.1).2.2 hc⟩
 rw[decide_eq_true (show 0<=a/\a<16 from ha),decide_eq_true (show 0<=b/\b<16 from hb),decide_eq_true (show 0<=c/\c<16 from hc),if_pos (by decide),if_pos (by decide),if_neg (by decide)];have J:∀cr:Bool,(cr=true↔8<=o/\o<=10)->Zak.j5 n cr k o a b c i u k 0 a 0 0 0 false=some (decide (I0P k o a b c u/\bU k o i u),()):=by
  intro cr hcr;unfold Zak.j5 Zak.j23 Zak.j26 Zak.j25 Zak.j8 Zak.j13 Zak.j15 Zak.j21 Zak.j22;simp only[dt,df,qF,NI,GG,Pt];have hcr':cr=false->¬(8<=o/\o<=10):=fun h g=>by rw[hcr.2 g] at h;cases h
  have hcr:=hcr.1;clear ha hb hc;have rest:k≠1->k≠2->k≠3->k≠4->k≠5->k≠6->k≠7->¬(I0P k o a b c u/\bU k o i u):=fun h1 h2 h3 h4 h5 h6 h7 g=>by have g:=g.1;unfold I0P at g;omega
  by_cases k12:k=1\/k=2
  ·rcases k12 with rfl|rfl
   ·simp only[↓reduceIte,Int.reduceEq];by_cases o1:o<0
    ·simp[I0P,bU,o1]<;>((repeat' split)<;>(first|omega|(refine congrArg some (congrArg (fun q=>(q,())) ?_);rw[Bool.eq_iff_iff];simp<;>omega)|(rw[Bool.eq_iff_iff];simp<;>omega)|(cases u<;>simp<;>omega)|(clear rest;simp<;>omega)))
    ·by_cases o2:11<o
     ·simp[I0P,bU,o1,o2]<;>((repeat' split)<;>(first|omega|(refine congrArg some (congrArg (fun q=>(q,())) ?_);rw[Bool.eq_iff_iff];simp<;>omega)|(rw[Bool.eq_iff_iff];simp<;>omega)|(cases u<;>simp<;>omega)|(clear rest;simp<;>omega)))
     ·by_cases o3:o=0
      ·subst o3;have:cr=false:=by cases cr;rfl;have:=hcr rfl;omega
       subst this;cases u<;>simp[I0P,bU]<;>((repeat' split)<;>(first|omega|(refine congrArg some (congrArg (fun q=>(q,())) ?_);rw[Bool.eq_iff_iff];simp<;>omega)|(rw[Bool.eq_iff_iff];simp<;>omega)|(cases u<;>simp<;>omega)|(clear rest;simp<;>omega)))
      ·cases cr
       ·have:=hcr' rfl;cases u<;>simp[I0P,bU,o1,o2,o3]<;>((repeat' split)<;>(first|omega|(refine congrArg some (congrArg (fun q=>(q,())) ?_);rw[Bool.eq_iff_iff];simp<;>omega)|(rw[Bool.eq_iff_iff];simp<;>omega)|(cases u<;>simp<;>omega)|(clear rest;simp<;>omega)))
       ·have:=hcr rfl;cases u<;>simp[I0P,bU,o1,o2,o3]<;>((repeat' split)<;>(first|omega|(refine congrArg some (congrArg (fun q=>(q,())) ?_);rw[Bool.eq_iff_iff];simp<;>omega)|(rw[Bool.eq_iff_iff];simp<;>omega)|(cases u<;>simp<;>omega)|(clear rest;simp<;>omega)))
   ·simp only[↓reduceIte,Int.reduceEq];by_cases o1:o<0
    ·simp[I0P,bU,o1]<;>((repeat' split)<;>(first|omega|(refine congrArg some (congrArg (fun q=>(q,())) ?_);rw[Bool.eq_iff_iff];simp<;>omega)|(rw[Bool.eq_iff_iff];simp<;>omega)|(cases u<;>simp<;>omega)|(clear rest;simp<;>omega)))
    ·by_cases o2:11<o
     ·simp[I0P,bU,o1,o2]<;>((repeat' split)<;>(first|omega|(refine congrArg some (congrArg (fun q=>(q,())) ?_);rw[Bool.eq_iff_iff];simp<;>omega)|(rw[Bool.eq_iff_iff];simp<;>omega)|(cases u<;>simp<;>omega)|(clear rest;simp<;>omega)))
     ·by_cases o3:o=0
      ·subst o3;have:cr=false:=by cases cr;rfl;have:=hcr rfl;omega
       subst this;by_cases b0:b=0<;>by_cases c0:c=0<;>cases u<;>simp[I0P,bU,b0,c0]<;>((repeat' split)<;>(first|omega|(refine congrArg some (congrArg (fun q=>(q,())) ?_);rw[Bool.eq_iff_iff];simp<;>omega)|(rw[Bool.eq_iff_iff];simp<;>omega)|(cases u<;>simp<;>omega)|(clear rest;simp<;>omega)))
      ·by_cases c0:c=0
       ·cases cr
        ·have:=hcr' rfl;cases u<;>simp[I0P,bU,o1,o2,o3,c0]<;>((repeat' split)<;>(first|omega|(refine congrArg some (congrArg (fun q=>(q,())) ?_);rw[Bool.eq_iff_iff];simp<;>omega)|(rw[Bool.eq_iff_iff];simp<;>omega)|(cases u<;>simp<;>omega)|(clear rest;simp<;>omega)))
        ·have:=hcr rfl;cases u<;>simp[I0P,bU,o1,o2,o3,c0]<;>((repeat' split)<;>(first|omega|(refine congrArg some (congrArg (fun q=>(q,())) ?_);rw[Bool.eq_iff_iff];simp<;>omega)|(rw[Bool.eq_iff_iff];simp<;>omega)|(cases u<;>simp<;>omega)|(clear rest;simp<;>omega)))
       ·cases cr<;>cases u<;>simp[I0P,bU,o1,o2,o3,c0]<;>((repeat' split)<;>(first|omega|(refine congrArg some (congrArg (fun q=>(q,())) ?_);rw[Bool.eq_iff_iff];simp<;>omega)|(rw[Bool.eq_iff_iff];simp<;>omega)|(cases u<;>simp<;>omega)|(clear rest;simp<;>omega)))
  ·have k1:k≠1:=by omega
   have k2:k≠2:=by omega
   simp only[k1,k2,↓reduceIte];by_cases k3:k=3;·subst k3;by_cases o0:o=0<;>by_cases b0:b=0<;>by_cases c0:c=0<;>cases u<;>simp[I0P,bU,o0,b0,c0,@eq_comm Int 0 o,@eq_comm Int 0 b,@eq_comm Int 0 c]<;>((repeat' split)<;>(first|omega|(refine congrArg some (congrArg (fun q=>(q,())) ?_);rw[Bool.eq_iff_iff];simp<;>omega)|(rw[Bool.eq_iff_iff];simp<;>omega)|(cases u<;>simp<;>omega)|(clear rest;simp<;>omega)))
   ·by_cases k4:k=4
    ·subst k4;by_cases o0:o=0<;>by_cases b0:b=0<;>by_cases c0:c=0<;>cases u<;>simp[I0P,bU,o0,b0,c0,@eq_comm Int 0 o,@eq_comm Int 0 b,@eq_comm Int 0 c]<;>((repeat' split)<;>(first|omega|(refine congrArg some (congrArg (fun q=>(q,())) ?_);rw[Bool.eq_iff_iff];simp<;>omega)|(rw[Bool.eq_iff_iff];simp<;>omega)|(cases u<;>simp<;>omega)|(clear rest;simp<;>omega)))
    ·simp only[k3,k4,↓reduceIte];by_cases k5:k=5
     ·subst k5;by_cases o1:0<=o<;>by_cases o2:o<=3<;>by_cases c0:c=0<;>cases u<;>simp[I0P,bU,o1,o2,c0]<;>((repeat' split)<;>(first|omega|(refine congrArg some (congrArg (fun q=>(q,())) ?_);rw[Bool.eq_iff_iff];simp<;>omega)|(rw[Bool.eq_iff_iff];simp<;>omega)|(cases u<;>simp<;>omega)|(clear rest;simp<;>omega)))
     ·simp only[k5,↓reduceIte];by_cases k6:k=6
      ·subst k6;by_cases a0:a=0<;>by_cases b0:b=0<;>simp[I0P,bU,a0,b0]<;>((repeat' split)<;>(first|omega|(refine congrArg some (congrArg (fun q=>(q,())) ?_);rw[Bool.eq_iff_iff];simp<;>omega)|(rw[Bool.eq_iff_iff];simp<;>omega)|(cases u<;>simp<;>omega)|(clear rest;simp<;>omega)))
      ·simp only[k6,↓reduceIte];by_cases k7:k=7
       ·subst k7;by_cases o1:0<=o<;>by_cases o2:o<16<;>by_cases a0:a=0<;>by_cases b0:b=0<;>by_cases c0:c=0<;>simp[I0P,bU,a0,b0,c0,o1,o2]<;>((repeat' split)<;>(first|omega|(refine congrArg some (congrArg (fun q=>(q,())) ?_);rw[Bool.eq_iff_iff];simp<;>omega)|(rw[Bool.eq_iff_iff];simp<;>omega)|(cases u<;>simp<;>omega)|(clear rest;simp<;>omega)))
       ·simp only[k7,↓reduceIte];rw[decide_eq_false (rest k1 k2 k3 k4 k5 k6 k7)]
 have fin:∀cr:Bool,(cr=true↔8<=o/\o<=10)->∃r,Zak.j5 n cr k o a b c i u k 0 a 0 0 0 false=some (r,())/\(r=true↔bO k o a b c u/\bU k o i u):=fun cr h=>⟨_,J cr h,by rw[Px,xY ha hb hc]⟩
 by_cases h8:8<=o;·rw[if_pos (by simpa using h8)];exact fin _ ⟨fun h=>⟨h8,of_decide_eq_true h⟩,fun h=>decide_eq_true h.2⟩
 ·rw[if_neg (by simpa using h8)];exact fin _ ⟨fun h=>(by cases h),fun h=>absurd h.1 h8⟩
end Rv
namespace Rv
open Go
theorem Iu{W X:W32}{a n:Nat}(h:a+n<=32)(hx:X.toNat<2 ^ n)(hz:dK W a n=0):dC W X a n=W ||| (X <<< a):=jZ fun j hj=>by
 rw[kI W X h hj,BitVec.getLsbD_or,BitVec.getLsbD_shiftLeft];by_cases h1:a<=j
 ·by_cases h2:j<a+n
  ·have:=congrArg (fun V:W32=>V.getLsbD (j-a)) hz;simp only[fA W (show n<=32 by omega) (show j-a<32 by omega)] at this;rw[show a+(j-a)=j by omega,decide_eq_true (show j-a<n by omega),Bool.true_and] at this;rw[if_pos ⟨h1,h2⟩,this];simp[hj];omega
  ·have:X.getLsbD (j-a)=false:=Nat.testBit_lt_two_pow (Qo hx (Nat.pow_le_pow_right (by decide) (by omega)));rw[if_neg (by omega),this];simp
 ·rw[if_neg (by omega),decide_eq_true (show j<a by omega)];simp
theorem Ni{W:W32}(i:Int){a n:Nat}(h:a+n<=32):dC W (BitVec.ofInt 32 i) a n=dC W (BitVec.ofInt 32 (i % 2 ^ n)) a n:=jZ fun j hj=>by
 rw[kI _ _ h hj,kI _ _ h hj];split
 ·rename_i hc;have e:∀(x:Int) (k:Nat),k<n->(BitVec.ofInt 32 x).getLsbD k=((x % 2 ^ n).toNat).testBit k:=fun x k hk=>by
   show(BitVec.ofInt 32 x).toNat.testBit k=_;have h1:(BitVec.ofInt 32 x).toNat % 2 ^ n=(x % 2 ^ n).toNat:=by
    have:=wT 0 x (n:=n) (by omega);unfold Gn at this;rw[wS 0 _ (by omega) (PI _) (PI _),Nat.sub_self,uo _ (by omega)] at this;omega
   have h2:=Nat.testBit_mod_two_pow (BitVec.ofInt 32 x).toNat n k;rw[h1,decide_eq_true hk,Bool.true_and] at h2;exact h2.symm
  rw[e _ _ (by omega),e _ _ (by omega),Int.emod_emod_of_dvd i (Int.dvd_refl _)]
 ·rfl
theorem Bb{x:Int}{n:Nat}(hn:n<=32)(hx:0<=x/\x<2 ^ n):(BitVec.ofInt 32 x).toNat=x.toNat/\(BitVec.ofInt 32 x).toNat<2 ^ n:=by
 have h1:(2:Int) ^ n=((2 ^ n:Nat):Int):=by rw[Int.natCast_pow];rfl
 have h2:2 ^ n<=2 ^ 32:=Nat.pow_le_pow_right (by decide) hn;have h3:(BitVec.ofInt 32 x).toNat=x.toNat:=by
  rw[BitVec.toNat_ofInt];rw[h1] at hx;generalize 2 ^ n=q at *;omega
 refine⟨h3,?_⟩;rw[h3];rw[h1] at hx;omega
theorem iL{W:W32}{x:Int}{a:Nat}(h:a+4<=32)(hx:rg x)(hz:dK W a 4=0):dC W (BitVec.ofInt 32 x) a 4=W ||| (BitVec.ofInt 32 x <<< a):=
 Iu h (Bb (n:=4) (by decide) ⟨hx.1,by show x<16;exact hx.2⟩).2 hz
theorem FQ{W:W32}(i:Int){n:Nat}(h:0+n<=32)(hz:dK W 0 n=0):dC W (BitVec.ofInt 32 i) 0 n=W ||| BitVec.ofInt 32 (i % 2 ^ n):=by
 have hp:(0:Int)<2 ^ n:=Int.pow_pos (by decide);rw[Ni i h,Iu h (Bb (by omega) ⟨Int.emod_nonneg _ (by omega),Int.emod_lt_of_pos _ hp⟩).2 hz,BitVec.shiftLeft_zero]
theorem kW(x:Int)(b:Nat)(hb:b<=32):IntKind.u32.wrap (IntKind.u32.wrap x*2 ^ (min ((b:Int)).toNat IntKind.u32.bits))=((BitVec.ofInt 32 x <<< b).toNat:Int):=by
 rw[Cj x];exact xD _ b hb
theorem Ce(i:Int){n:Nat}(hn:n<=32)(q:Int)(hq:q=2 ^ n):Int.tmod (IntKind.u32.wrap i) q=((BitVec.ofInt 32 (i % 2 ^ n)).toNat:Int):=by
 subst hq;have hp:(0:Int)<2 ^ n:=Int.pow_pos (by decide);rw[(Bb hn ⟨Int.emod_nonneg i (by omega),Int.emod_lt_of_pos i hp⟩).1,Int.toNat_of_nonneg (Int.emod_nonneg i (by omega)),IntKind.wrap_u32,Qa (Int.emod_nonneg _ (by decide))];refine Int.emod_emod_of_dvd i ?_;obtain⟨d,hd⟩:=Nat.exists_eq_add_of_le hn;refine⟨2 ^ d,?_⟩;rw[<- Int.pow_add,<- hd];rfl
theorem Bn(b:Bool):Zed.g b=some (if b then 1 else 0,()):=by cases b<;>rfl
theorem ny:∀f:Nat,f<4->∀u v:Bool,dC 0 (BitVec.ofInt 32 (hdN f u v:Int)) 28 4=(BitVec.ofInt 32 (hdN f u v:Int)) <<< 28:=by decide +kernel
section
variable{W X:W32}
theorem go1(X:W32){a b m:Nat}(ha:a+4<=32)(hb:b+m<=32)(h:b+m<=a\/a+4<=b)(hW:dK W b m=0):dK (dC W X a 4) b m=0:=by rw[Du W X ha hb h,hW]
end
theorem KA{k o a b c i:Int}{u:Bool}(h:bO k o a b c u)(hi:bU k o i u):Zdp.g k o a b c i u=some (((aR k o a b c i u).toNat:Int),0,()):=by
 obtain⟨r,hr,hiff⟩:=xz k o a b c i u;obtain rfl:=hiff.2 ⟨h,hi⟩;have z:rg 0:=⟨by decide,by decide⟩
 have sA:=kW a 24 (by decide);have sB:=kW b 20 (by decide);have sO:=kW o 16 (by decide);have sC:=kW o 24 (by decide);simp only[Int.cast_ofNat_Int] at sA sB sO sC;have g0:∀b m:Nat,b+m<=28->∀X:W32,dK (dC 0 X 28 4) b m=0:=fun b m hm X=>go1 X (by decide) (by omega) (.inl hm) (Ay b m (by omega))
 unfold Zdp.g;generalize 1000+k.toNat+o.toNat+a.toNat+b.toNat+c.toNat+i.toNat=n;unfold Zdp.f;rw[hr,Pt];dsimp only;rw[if_neg (by decide),Bn,Pt];dsimp only;simp only[dt,Bn,Pt];have reg:∀{o a b c:Int}{u:Bool},rg o->rg a->rg b->rg c->ay .or .u32 (ay .or .u32 (ay .or .u32 (ay .or .u32 (IntKind.u32.wrap ((if u then(1:Int) else 0)*2 ^ (min (29:Int).toNat IntKind.u32.bits))) (IntKind.u32.wrap ((IntKind.u32.wrap a)*2 ^ (min (24:Int).toNat IntKind.u32.bits)))) (IntKind.u32.wrap ((IntKind.u32.wrap b)*2 ^ (min (20:Int).toNat IntKind.u32.bits)))) (IntKind.u32.wrap ((IntKind.u32.wrap o)*2 ^ (min (16:Int).toNat IntKind.u32.bits)))) (IntKind.u32.wrap c)=((aR 1 o a b c i u).toNat:Int):=by
  intro o a b c u ho ha hb hc;have hU:IntKind.u32.wrap ((if u then(1:Int) else 0)*2 ^ (min (29:Int).toNat IntKind.u32.bits))=(((BitVec.ofInt 32 (hdN 0 u false:Int)) <<< 28).toNat:Int):=by cases u<;>decide +kernel
  have sA:=kW a 24 (by decide);have sB:=kW b 20 (by decide);have sO:=kW o 16 (by decide);simp only[Int.cast_ofNat_Int] at sA sB sO;rw[hU,sA,sB,sO,Cj c,gU,gU,gU,gU];unfold aR dJ;rw[if_pos rfl];simp only[gD];rw[iL (by decide) hc (go1 _ (by decide) (by decide) (by decide) (go1 _ (by decide) (by decide) (by decide) (go1 _ (by decide) (by decide) (by decide) (g0 _ _ (by decide) _)))),
   iL (by decide) ho (go1 _ (by decide) (by decide) (by decide) (go1 _ (by decide) (by decide) (by decide) (g0 _ _ (by decide) _))),
   iL (by decide) hb (go1 _ (by decide) (by decide) (by decide) (g0 _ _ (by decide) _)),iL (by decide) ha (g0 _ _ (by decide) _),ny 0 (by decide),BitVec.shiftLeft_zero]
 have imm:∀{o a b:Int}{u:Bool},rg o->rg a->rg b->ay .or .u32 (ay .or .u32 (ay .or .u32 (ay .or .u32 (ay .or .u32 (ay .or .u32 (1073741824:Int) (IntKind.u32.wrap ((if u then(1:Int) else 0)*2 ^ (min (29:Int).toNat IntKind.u32.bits)))) (IntKind.u32.wrap ((if i<(0:Int) then(1:Int) else 0)*2 ^ (min (28:Int).toNat IntKind.u32.bits)))) (IntKind.u32.wrap ((IntKind.u32.wrap a)*2 ^ (min (24:Int).toNat IntKind.u32.bits)))) (IntKind.u32.wrap ((IntKind.u32.wrap b)*2 ^ (min (20:Int).toNat IntKind.u32.bits)))) (IntKind.u32.wrap ((IntKind.u32.wrap o)*2 ^ (min (16:Int).toNat IntKind.u32.bits)))) (Int.tmod (IntKind.u32.wrap i) (65536:Int))=((aR 2 o a b 0 i u).toNat:Int):=by
  intro o a b u ho ha hb;have hU:ay .or .u32 (ay .or .u32 (1073741824:Int) (IntKind.u32.wrap ((if u then(1:Int) else 0)*2 ^ (min (29:Int).toNat IntKind.u32.bits)))) (IntKind.u32.wrap ((if i<(0:Int) then(1:Int) else 0)*2 ^ (min (28:Int).toNat IntKind.u32.bits)))=(((BitVec.ofInt 32 (hdN 1 u (decide (i<0)):Int)) <<< 28).toNat:Int):=by
   rw[show(if i<(0:Int) then(1:Int) else 0)=if decide (i<0)=true then 1 else 0 by simp];generalize decide (i<0)=v;cases u<;>cases v<;>decide +kernel
  have sA:=kW a 24 (by decide);have sB:=kW b 20 (by decide);have sO:=kW o 16 (by decide);simp only[Int.cast_ofNat_Int] at sA sB sO;rw[hU,sA,sB,sO,Ce i (n:=16) (by decide) 65536 rfl,gU,gU,gU,gU];unfold aR dJ;rw[if_neg (by decide),if_neg (by decide),if_pos rfl];simp only[gD];rw[FQ i (by decide) (go1 _ (by decide) (by decide) (by decide) (go1 _ (by decide) (by decide) (by decide) (go1 _ (by decide) (by decide) (by decide) (g0 _ _ (by decide) _)))),
   iL (by decide) ho (go1 _ (by decide) (by decide) (by decide) (go1 _ (by decide) (by decide) (by decide) (g0 _ _ (by decide) _))),
   iL (by decide) hb (go1 _ (by decide) (by decide) (by decide) (g0 _ _ (by decide) _)),iL (by decide) ha (g0 _ _ (by decide) _),ny 1 (by decide)]
 cases h with
 |reg h1 h2 ha hb hc hu=>rw[if_pos rfl,reg ⟨by omega,by omega⟩ ha hb hc]
 |mov ha hc=>rw[if_pos rfl,reg z ha z hc]
 |imm h1 h2 ha hb hu=>rw[if_neg (by decide),if_pos rfl,imm ⟨by omega,by omega⟩ ha hb]
 |movi ha=>rw[if_neg (by decide),if_pos rfl,imm z ha z]
 |hi ha=>
  rw[if_neg (by decide),if_neg (by decide),if_pos rfl,sA,show(536870912:Int)=(((BitVec.ofInt 32 (hdN 0 true (decide ((3:Int)=4)):Int)) <<< 28).toNat:Int) by decide +kernel,gU];unfold aR dJ;rw[if_neg (by decide),if_pos (.inl rfl)];simp only[gD];rw[iL (by decide) ha (g0 _ _ (by decide) _),ny 0 (by decide)]
 |fl ha=>
  rw[if_neg (by decide),if_neg (by decide),if_neg (by decide),if_pos rfl,sA,show(805306368:Int)=(((BitVec.ofInt 32 (hdN 0 true (decide ((4:Int)=4)):Int)) <<< 28).toNat:Int) by decide +kernel,gU];unfold aR dJ;rw[if_neg (by decide),if_pos (.inr rfl)];simp only[gD];rw[iL (by decide) ha (g0 _ _ (by decide) _),ny 0 (by decide)]
 |mem h1 h2 ha hb=>
  rw[if_neg (by decide),if_neg (by decide),if_neg (by decide),if_neg (by decide),if_pos rfl];have hU:ay .or .u32 (ay .or .u32 (2147483648:Int) (IntKind.u32.wrap ((if(2:Int)<=o then(1:Int) else 0)*2 ^ (min (29:Int).toNat IntKind.u32.bits)))) (IntKind.u32.wrap ((if(Int.tmod o (2:Int))=(1:Int) then(1:Int) else 0)*2 ^ (min (28:Int).toNat IntKind.u32.bits)))=(((BitVec.ofInt 32 (hdN 2 (decide (2<=o)) (decide (Int.tmod o 2=1)):Int)) <<< 28).toNat:Int):=by
   rw[show(if(2:Int)<=o then(1:Int) else 0)=if decide (2<=o)=true then 1 else 0 by simp,show(if(Int.tmod o (2:Int))=(1:Int) then(1:Int) else 0)=if decide (Int.tmod o 2=1)=true then 1 else 0 by simp];generalize decide (2<=o)=u;generalize decide (Int.tmod o 2=1)=v;cases u<;>cases v<;>decide +kernel
  rw[hU,sA,sB,Ce i (n:=20) (by decide) 1048576 rfl,gU,gU,gU];unfold aR dJ;rw[if_neg (by decide),if_neg (by decide),if_neg (by decide),if_pos rfl];simp only[gD];rw[FQ i (by decide) (go1 _ (by decide) (by decide) (by decide) (go1 _ (by decide) (by decide) (by decide) (g0 _ _ (by decide) _))),
   iL (by decide) hb (go1 _ (by decide) (by decide) (by decide) (g0 _ _ (by decide) _)),iL (by decide) ha (g0 _ _ (by decide) _),ny 2 (by decide)]
 |br ho hc=>
  rw[if_neg (by decide),if_neg (by decide),if_neg (by decide),if_neg (by decide),if_neg (by decide),if_pos rfl];have hU:ay .or .u32 (3221225472:Int) (IntKind.u32.wrap ((if u then(1:Int) else 0)*2 ^ (min (28:Int).toNat IntKind.u32.bits)))=(((BitVec.ofInt 32 (hdN 3 false u:Int)) <<< 28).toNat:Int):=by cases u<;>decide +kernel
  rw[hU,sC,Cj c,gU,gU];unfold aR dJ;rw[if_neg (by decide),if_neg (by decide),if_neg (by decide),if_neg (by decide),if_pos rfl];simp only[gD];rw[iL (by decide) hc (go1 _ (by decide) (by decide) (by decide) (g0 _ _ (by decide) _)),iL (by decide) ho (g0 _ _ (by decide) _),ny 3 (by decide),BitVec.shiftLeft_zero]
 |jmp ho=>
  rw[if_neg (by decide),if_neg (by decide),if_neg (by decide),if_neg (by decide),if_neg (by decide),if_neg (by decide)];have hU:ay .or .u32 (3758096384:Int) (IntKind.u32.wrap ((if u then(1:Int) else 0)*2 ^ (min (28:Int).toNat IntKind.u32.bits)))=(((BitVec.ofInt 32 (hdN 3 true u:Int)) <<< 28).toNat:Int):=by cases u<;>decide +kernel
  rw[hU,sC,Ce i (n:=24) (by decide) 16777216 rfl,gU,gU];unfold aR dJ;rw[if_neg (by decide),if_neg (by decide),if_neg (by decide),if_neg (by decide),if_neg (by decide)];simp only[gD];rw[FQ i (by decide) (go1 _ (by decide) (by decide) (by decide) (g0 _ _ (by decide) _)),iL (by decide) ho (g0 _ _ (by decide) _),ny 3 (by decide)]
def pX(k o a b c i:Int)(u:Bool):Int×Int×Unit:=if I0P k o a b c u/\bU k o i u/\(0<=a/\a<16)/\(0<=b/\b<16)/\(0<=c/\c<16) then(((aR k o a b c i u).toNat:Int),0,()) else(0,1,())
theorem qb(k o a b c i:Int)(u:Bool):(bO k o a b c u/\bU k o i u)↔I0P k o a b c u/\bU k o i u/\(0<=a/\a<16)/\(0<=b/\b<16)/\(0<=c/\c<16):=by
 constructor;·rintro⟨h,hi⟩;obtain⟨ha,hb,hc⟩:=zW h;exact⟨(xY ha hb hc).1 h,hi,ha,hb,hc⟩
 ·rintro⟨h,hi,ha,hb,hc⟩;exact⟨(xY ha hb hc).2 h,hi⟩
theorem M7(k o a b c i:Int)(u:Bool):Zdp.g k o a b c i u=some (pX k o a b c i u):=by
 unfold pX;by_cases h:I0P k o a b c u/\bU k o i u/\(0<=a/\a<16)/\(0<=b/\b<16)/\(0<=c/\c<16)
 ·rw[if_pos h];obtain⟨h1,h2⟩:=(qb k o a b c i u).2 h;exact KA h1 h2
 ·rw[if_neg h];obtain⟨r,hr,hiff⟩:=xz k o a b c i u;have:r=false:=by
   cases r with
   |false=>rfl
   |true=>exact absurd ((qb k o a b c i u).1 (hiff.1 rfl)) h
  subst this;unfold Zdp.g Zdp.f;rw[hr,Pt];rfl
theorem Ms(k o a b c i:Int)(u:Bool):Zdv.g k o a b c i u=some (pX k o a b c i u):=by
 unfold pX;by_cases h:I0P k o a b c u/\bU k o i u/\(0<=a/\a<16)/\(0<=b/\b<16)/\(0<=c/\c<16)
 ·rw[if_pos h];obtain⟨h1,h2⟩:=(qb k o a b c i u).2 h;unfold Zdv.g Zdv.f;rw[GM h1 h2,Pt];dsimp only;rw[if_neg (by decide),qd,Pt]
 ·rw[if_neg h];obtain⟨r,hr,_⟩:=GQ k o a b c i u;have:r=false:=by
   cases r with
   |false=>rfl
   |true=>exact absurd ((qb k o a b c i u).1 (GN hr)) h
  subst this;unfold Zdv.g Zdv.f;rw[hr,Pt];rfl
end Rv
namespace Rv
open Go
theorem JU:((List.range 256).all fun k=>decide (Zcs.g (k:Int) true=some (isA (UInt8.ofNat k),()))&&decide (Zcs.g (k:Int) false=some (isW (UInt8.ofNat k),())))=true:=by decide +kernel
theorem Dz(b:UInt8)(f:Bool):Zcs.g (b.toNat:Int) f=some (if f then isA b else isW b,()):=by
 have h:=PX.1 JU b.toNat (by simp;exact b.toNat_lt)
 simp at h;cases f;·exact h.2
 ·exact h.1
theorem CB(s:Str)(hs:s.length<=12)(n:Nat):∀(m i:Nat),1<=i->i<=s.length->s.length-i<m ->
  Zbg.l4 n m s (s.length:Int) (i:Int)=if(s.drop i).all isW=true then Zbg.l4 n 1 s (s.length:Int) (s.length:Int) else some (false,()):=by
 intro m
 induction m with
 |zero=>intro i _ _ h;omega
 |succ m ih=>
  intro i h0 hi hm;by_cases h1:i<s.length;·rw[Zbg.l4,if_pos (by simp;omega),if_pos (by omega),gY,Dz,Pt,bB h1,Qq];dsimp only;rw[if_neg (show ¬decide ((i:Int)=0)=true by simp;omega),w64 (by omega),show(i:Int)+1=((i+1:Nat):Int) by omega,ih (i+1) (by omega) (by omega) (by omega)];cases isW (s.getD i 0)<;>simp
  ·have hi':i=s.length:=by omega
   subst hi';rw[PZ,List.all_nil,if_pos rfl];have hlt:¬((s.length:Int)<s.length):=by omega
   simp only[Zbg.l4,dt,hlt,if_false]
theorem yU(s:Str):Zbg.g s=some (bW s,()):=by
 unfold Zbg.g Zbg.f;simp only[dt,df];by_cases h0:s=[]
 ·subst h0;rw[if_neg (by simp)];rfl
 ·have hl0:0<s.length:=List.length_pos_iff.2 h0;rw[if_pos (by omega)];by_cases h12:s.length<=12
  ·rw[if_neg (by omega)];obtain⟨m,hm⟩:∃m,1000+s.length=m+1:=⟨999+s.length,by omega⟩
   rw[show Zbg.l4 (1000+s.length) (1000+s.length) s (s.length:Int) 0=Zbg.l4 (1000+s.length) (m+1) s (s.length:Int) 0 by rw[hm],Zbg.l4,if_pos (by simp;omega),if_pos (by omega)];have hb0:bt s 0=((s.getD 0 0).toNat:Int):=rfl;rw[hb0,Dz,Pt];dsimp only;have hdd:decide ((0:Int)=0)=true:=rfl;rw[hdd,if_pos (show true=true from rfl),show IntKind.i64.wrap ((0:Int)+1)=((1:Nat):Int) from rfl,CB s h12 (1000+s.length) m 1 (by omega) (by omega) (by omega)];have hall:s.all isW=(isW (s.getD 0 0)&&(s.drop 1).all isW):=by
    have:=bB (s:=s) (k:=0) hl0;rw[PV] at this
    conv=>lhs;rw[this]
    rw[Qq]
   unfold bW;rw[decide_eq_true h0,decide_eq_true h12,hall];have hAW:isA (s.getD 0 0)=true->isW (s.getD 0 0)=true:=fun h=>by unfold isW;rw[wW,h];rfl
   cases hA:isA (s.getD 0 0) with
   |false=>rw[if_pos (by simp)];simp
   |true=>
    rw[if_neg (by simp),hAW hA];by_cases hw:(s.drop 1).all isW=true
    ·rw[if_pos hw,hw];simp only[Zbg.l4,dt,df];rw[if_neg (by omega),if_pos (by omega),hb0];have h82:(((s.getD 0 0).toNat:Int)=82)=(s.getD 0 0=82):=dD _ 82 (by omega);simp only[h82];have htake:(s.take (s.length:Int).toNat).drop (1:Int).toNat=s.drop 1:=by
      rw[show(s.length:Int).toNat=s.length by omega,List.take_length];rfl
     have htrim:s.length<=3->L.trimO ((s.take (s.length:Int).toNat).drop (1:Int).toNat) [48,49,50,51,52,53,54,55,56,57]=some (L.trimDig (s.drop 1),()):=fun h=>by
      rw[htake];unfold L.trimO;rw[if_pos ⟨rfl,by simp;omega⟩]
     have hT:decide (L.trimDig (s.drop 1)=[])=(s.drop 1).all isD:=by
      rw[Bool.eq_iff_iff,Px,Cg]
     unfold fo;by_cases hR:s.getD 0 0=82
     ·rw[if_pos hR,decide_eq_true hR];by_cases h2:s.length=2
      ·rw[if_neg (by omega),if_pos (by omega),htrim (by omega),Pt,decide_eq_true h2];dsimp only;rw[hT];simp
      ·rw[if_pos (by omega),decide_eq_false h2];by_cases h3:s.length=3
       ·rw[if_pos (by omega),if_pos (by omega),htrim (by omega),Pt,decide_eq_true h3];dsimp only;rw[hT];simp
       ·rw[if_neg (by omega),decide_eq_false h3];simp
     ·rw[if_neg hR,decide_eq_false hR];simp
    ·rw[if_neg hw,Bool.eq_false_iff.2 hw];simp
  ·rw[if_pos (by omega)];unfold bW;rw[decide_eq_false h12];simp
end Rv
namespace Rv
open Go
def vG(k o a b c i:Int)(u:Bool):Except Int (Int×Bool):=if(pX k o a b c i u).2.1=0 then .ok ((pX k o a b c i u).1,false) else .error (pX k o a b c i u).2.1
def yh(lb:List Sym)(e:List Item)(low high:Int):Int×Int×Unit:=
 if(vOf lb e).2.2.1≠0 then(0,(vOf lb e).2.2.1,()) else if(vOf lb e).2.1≠0 then(0,27,()) else sN (IntKind.i64.wrap (IntKind.i32.wrap (vOf lb e).1)) (IntKind.i64.wrap (vOf lb e).1) low high
def rU(v pl:Int):Int:=IntKind.i64.wrap (IntKind.i32.wrap (IntKind.u32.wrap (IntKind.u32.wrap (v-IntKind.u32.wrap pl)-4)))
def EH(v ad pl:Int):Int×Int×Unit:=
 if ad≠1 then(0,27,()) else if Int.tmod (rU v pl) 4≠0\/IntKind.i64.wrap (Int.tdiv (rU v pl) 4) < -8388608\/8388608<=IntKind.i64.wrap (Int.tdiv (rU v pl) 4) then(0,28,())
 else(IntKind.i64.wrap (Int.tdiv (rU v pl) 4),0,())
def pz(n ad words:Int):Int:=if ad<0\/1<ad then 27 else if ad=1/\IntKind.i64.wrap (4*words)<IntKind.i64.wrap n then 28 else 0
abbrev Snt:=Int×Int×Int×Int×Int×Bool×List Item×Str×Unit
def iF(k o a b c:Int)(r:Int×Int×Unit)(u:Bool):Except Int (Int×Bool):=if r.2.1≠0 then .error r.2.1 else vG k o a b c r.1 u
def qR(lb:List Sym)(q:List Val)(fr wd:Int)(s:Snt)(pl:Int):Except Int (Int×Bool):=
 if s.1=2 then iF s.1 s.2.1 s.2.2.1 s.2.2.2.1 s.2.2.2.2.1 (yh lb s.2.2.2.2.2.2.1 (if s.2.1=0/\s.2.2.2.2.2.1=true then 0 else -65536) 65535) s.2.2.2.2.2.1
 else if s.1=5 then iF s.1 s.2.1 s.2.2.1 s.2.2.2.1 s.2.2.2.2.1 (yh lb s.2.2.2.2.2.2.1 (-524288) 524287) s.2.2.2.2.2.1
 else if s.1=7 then
  (if(vOf lb s.2.2.2.2.2.2.1).2.2.1≠0 then .error (vOf lb s.2.2.2.2.2.2.1).2.2.1 else iF s.1 s.2.1 s.2.2.1 s.2.2.2.1 s.2.2.2.2.1 (EH (vOf lb s.2.2.2.2.2.2.1).1 (vOf lb s.2.2.2.2.2.2.1).2.1 pl) s.2.2.2.2.2.1)
 else if s.1=8 then
  (if(vOf lb s.2.2.2.2.2.2.1).2.2.1≠0 then .error (vOf lb s.2.2.2.2.2.2.1).2.2.1
  else iF 5 0 s.2.2.1 13 0 (IntKind.i64.wrap (fr+IntKind.i64.wrap (4*(lC ((vOf lb s.2.2.2.2.2.2.1).1,(vOf lb s.2.2.2.2.2.2.1).2.1,()) q:Int))),pz (vOf lb s.2.2.2.2.2.2.1).1 (vOf lb s.2.2.2.2.2.2.1).2.1 wd,()) false)
 else if s.1=9 then
  (if(vOf lb s.2.2.2.2.2.2.1).2.2.1≠0 then .error (vOf lb s.2.2.2.2.2.2.1).2.2.1
  else if pz (vOf lb s.2.2.2.2.2.2.1).1 (vOf lb s.2.2.2.2.2.2.1).2.1 wd≠0 then .error (pz (vOf lb s.2.2.2.2.2.2.1).1 (vOf lb s.2.2.2.2.2.2.1).2.1 wd)
  else .ok ((vOf lb s.2.2.2.2.2.2.1).1,decide ((vOf lb s.2.2.2.2.2.2.1).2.1=1)))
 else vG s.1 s.2.1 s.2.2.1 s.2.2.2.1 s.2.2.2.2.1 0 s.2.2.2.2.2.1
abbrev WrT:=List Int×List Int×List Sym
def jy(r:WrT)(w:Int)(st:Bool):WrT:=(r.1++[w],if st=true then r.2.1++[(r.1.length:Int)] else r.2.1,r.2.2)
def jA(lb:List Sym)(nm:Str)(y:List Sym):Except Int (List Sym):=
 if bW nm=false then .error 9 else if(aN nm lb).isSome=false then .error 25 else if mR y nm=true then .error 26 else .ok (kD y (nm,(aN nm lb).getD 0,()))
def lI(lb:List Sym)(q:List Val)(fr wd:Int)(s:Snt)(pl:Int)(r:WrT):Except Int WrT:=
 if s.1=0 then .ok r
 else if s.1=10 then(match jA lb s.2.2.2.2.2.2.2.1 r.2.2 with | .error x=>.error x | .ok y=>.ok (r.1,r.2.1,y))
 else match qR lb q fr wd s pl with | .error x=>.error x | .ok w=>.ok (jy r w.1 w.2)
abbrev O3:=Int×List Int×List Sym×List Val×Int×Int×List Int×List Int×List Sym×Unit
def vT(t:List Int)(lb:List Sym)(q:List Val)(fr wd:Int)(r:WrT):Except Int WrT->O3
 | .error x=>(x,t,lb,q,fr,wd,r.1,r.2.1,r.2.2,())
 | .ok r'=>(0,t,lb,q,fr,wd,r'.1,r'.2.1,r'.2.2,())
theorem Dn(k o a b c i:Int)(u:Bool){x:Int}(h:vG k o a b c i u=.error x):x≠0:=by
 unfold vG at h;split at h;·cases h
 ·rename_i h1;cases h;exact h1
section
variable(t:List Int)(lb:List Sym)(q:List Val)(fr wd:Int)(r:WrT)
theorem vB(h1:r.1.length<=1000000)(h2:r.2.1.length<=1000000)(v ad:Int) :
  Zcf.g v ad t lb q fr wd r.1 r.2.1 r.2.2=some (t,lb,q,fr,wd,(jy r v (decide (ad=1))).1,(jy r v (decide (ad=1))).2.1,(jy r v (decide (ad=1))).2.2,()):=by
 unfold Zcf.g Zcf.f Zcf.j3 jy;simp only[dt];by_cases h:ad=1;·rw[if_pos h,if_pos (by simp;omega),if_pos (by simp;omega),if_pos h]
 ·rw[if_neg h,if_pos (by simp;omega),if_neg h]
theorem F9(h1:r.1.length<=1000000)(h2:r.2.1.length<=1000000)(k o a b c i:Int)(u:Bool) :
  Zex.g k o a b c i u t lb q fr wd r.1 r.2.1 r.2.2=some (vT t lb q fr wd r (match vG k o a b c i u with | .error x=>.error x | .ok w=>.ok (jy r w.1 w.2))):=by
 unfold Zex.g Zex.f vG;rw[Ms,Pt];simp only[dt];by_cases h:(pX k o a b c i u).2.1=0;·rw[if_pos h,if_pos h,vB t lb q fr wd r h1 h2,Pt];dsimp only[vT];rw[h];rfl
 ·rw[if_neg h,if_neg h];rfl
theorem De(v ad:Int):Zee.g v ad t lb q fr wd r.1 r.2.1 r.2.2=some (pz v ad wd,t,lb,q,fr,wd,r.1,r.2.1,r.2.2,()):=by
 unfold Zee.g Zee.f pz;simp only[dt,df];by_cases h1:ad<0;·rw[if_neg (by omega),if_pos (.inl h1)]
 ·rw[if_pos (by omega)];by_cases h2:1<ad
  ·rw[if_pos h2,if_pos (.inr h2)]
  ·rw[if_neg h2,if_neg (show ¬(ad<0\/1<ad) by omega)];by_cases h3:ad=1
   ·rw[if_pos h3];by_cases h4:IntKind.i64.wrap (4*wd)<IntKind.i64.wrap v
    ·rw[if_pos h4,if_pos ⟨h3,h4⟩]
    ·rw[if_neg h4,if_neg (fun h=>h4 h.2)]
   ·rw[if_neg h3,if_neg (fun h=>h3 h.1)]
theorem LF(v ad pl:Int):Zey.g v ad pl=some (EH v ad pl):=by
 unfold Zey.g Zey.f EH;simp only[dt,df];rw[show IntKind.i64.wrap (IntKind.i32.wrap (IntKind.u32.wrap (IntKind.u32.wrap (v-IntKind.u32.wrap pl)-4)))=rU v pl from rfl];generalize rU v pl=d;generalize IntKind.i64.wrap (Int.tdiv d 4)=n;by_cases h1:ad=1
 ·by_cases h2:Int.tmod d 4=0
  ·by_cases h3:n < -8388608
   ·simp[h1,h2,h3]
   ·by_cases h4:8388608<=n
    ·simp[h1,h2,h3,h4]
    ·simp[h1,h2,h3,h4]
  ·simp[h1,h2]
 ·simp[h1]
theorem Em(hy:iE r.2.2)(hl:r.2.2.length<=1000000)(hlb:lb.length<=1000000)(nm:Str) :
  Zew.g nm t lb q fr wd r.1 r.2.1 r.2.2=some (vT t lb q fr wd r (match jA lb nm r.2.2 with | .error x=>.error x | .ok y=>.ok (r.1,r.2.1,y))):=by
 unfold Zew.g Zew.f jA;rw[xV lb nm (by omega),Pt,OC r.2.2 nm hy hl,Pt,yU,Pt];dsimp only;cases bW nm with
 |false=>rfl
 |true=>
  cases(aN nm lb).isSome with
  |false=>rfl
  |true=>
   cases hi:mR r.2.2 nm with
   |true=>rfl
   |false=>
    have hk:=qf r.2.2 nm;have e:L.insertO r.2.2 (kS r.2.2 nm:Int) [(nm,(aN nm lb).getD 0,())]=some (kD r.2.2 (nm,(aN nm lb).getD 0,()),()):=by
     unfold L.insertO;rw[if_pos ⟨by omega,by omega,rfl,by omega⟩];rfl
    simp only[Bool.not_true,Bool.false_eq_true,if_false];rw[e];rfl
theorem LJ(hlb:lb.length<=1000000)(e:List Item)(he:e.length<=4611686018427387904)(low high:Int):Zax.g e lb low high=some (yh lb e low high):=by
 obtain⟨v1,v2,x,h⟩:=DN lb e;rw[F4 e lb low high v1 v2 x (by rw[Fe lb (by omega) e he,h])];unfold yh vOf;rw[h];rfl
theorem NH(hlb:lb.length<=1000000)(e:List Item)(he:e.length<=4611686018427387904):Zam.g e lb=some (vOf lb e):=by
 rw[Fe lb (by omega) e he,uy]
theorem I7(h1:r.1.length<=1000000)(h2:r.2.1.length<=1000000)(hy:iE r.2.2)(hl:r.2.2.length<=1000000)(hlb:lb.length<=1000000)(hq:q.length<=1000000)(s:Snt)(he:s.2.2.2.2.2.2.1.length<=4611686018427387904)(pl:Int) :
  Zau.g s.1 s.2.1 s.2.2.1 s.2.2.2.1 s.2.2.2.2.1 s.2.2.2.2.2.1 s.2.2.2.2.2.2.1 s.2.2.2.2.2.2.2.1 pl t lb q fr wd r.1 r.2.1 r.2.2=some (vT t lb q fr wd r (lI lb q fr wd s pl r)):=by
 obtain⟨k,o,a,b,c,u,e,nm,z⟩:=s;dsimp only at he⊢;unfold Zau.g;generalize 1000+_+_+_+_+_+_+_+_+_+_+_+_+_+_+_+_=n;have J32:∀(x k o a b c i:Int) (u:Bool),Zau.j32 n t lb q fr wd r.1 r.2.1 r.2.2 x k o a b c i u=some (vT t lb q fr wd r (match iF k o a b c (i,x,()) u with | .error x=>.error x | .ok w=>.ok (jy r w.1 w.2))):=by
  intro x k o a b c i u;unfold Zau.j32 iF;simp only[dt];by_cases hx:x=0;·rw[if_neg (by simpa using hx),if_neg (by simpa using hx),F9 t lb q fr wd r h1 h2,Pt]
  ·rw[if_pos (by simpa using hx),if_pos (by simpa using hx)];rfl
 have hof:=NH lb hlb e he;obtain⟨v1,v2,x,hv⟩:∃v1 v2 x,vOf lb e=(v1,v2,x,()):=⟨(vOf lb e).1,(vOf lb e).2.1,(vOf lb e).2.2.1,rfl⟩
 have J1:Zdy.g k o a b c u e nm 0 t lb q fr wd r.1 r.2.1 r.2.2=some (v1,v2,k,o,a,b,c,u,e,nm,(),x,t,lb,q,fr,wd,r.1,r.2.1,r.2.2,()):=by
  unfold Zdy.g Zdy.f;rw[hof,Pt,hv]
 unfold Zau.f lI qR;simp only[dt,Zau.j12,LJ lb hlb e he,Pt,J1,J32,hv];by_cases k0:k=0;·rw[if_pos k0,if_pos k0];rfl
 rw[if_neg k0,if_neg k0];by_cases k10:k=10;·rw[if_pos k10,if_pos k10,Em t lb q fr wd r hy hl hlb,Pt]
 rw[if_neg k10,if_neg k10];by_cases k2:k=2
 ·rw[if_pos k2,if_pos k2];by_cases o0:o=0
  ·rw[if_pos o0];cases u with
   |true=>rw[if_pos rfl,if_pos ⟨o0,rfl⟩]
   |false=>rw[if_neg (by decide),if_neg (fun h=>by cases h.2)]
  ·rw[if_neg o0,if_neg (fun h=>o0 h.1)]
 rw[if_neg k2,if_neg k2];by_cases k5:k=5;·rw[if_pos k5,if_pos k5]
 rw[if_neg k5,if_neg k5];by_cases k7:k=7
 ·rw[if_pos k7,if_pos k7];by_cases hx:x=0
  ·rw[if_pos hx,if_neg (by simpa using hx),LF,Pt]
  ·rw[if_neg hx,if_pos (by simpa using hx)];unfold iF;dsimp only;rw[if_pos (by simpa using hx)]
 rw[if_neg k7,if_neg k7];by_cases k8:k=8
 ·rw[if_pos k8,if_pos k8];by_cases hx:x=0
  ·rw[if_pos hx,if_neg (by simpa using hx),DW q v1 v2 hq,Pt,De t lb q fr wd r,Pt,J32]
  ·rw[if_neg hx,if_pos (by simpa using hx)];unfold iF;dsimp only;rw[if_pos (by simpa using hx)]
 rw[if_neg k8,if_neg k8];by_cases k9:k=9
 ·rw[if_pos k9,if_pos k9];unfold Zau.j29 Zau.j31;simp only[dt];by_cases hx:x=0
  ·rw[if_pos hx,if_neg (by simpa using hx),De t lb q fr wd r,Pt];dsimp only;by_cases ha:pz v1 v2 wd=0
   ·rw[if_pos ha,if_neg (by simpa using ha),vB t lb q fr wd r h1 h2,Pt,ha];rfl
   ·rw[if_neg ha,if_pos (by simpa using ha)];rfl
  ·rw[if_neg hx,if_neg hx,if_pos (by simpa using hx)];rfl
 rw[if_neg k9,if_neg k9];unfold iF;dsimp only;rw[if_neg (by decide)]
end
end Rv
namespace Rv
open Go
theorem qD:∀(l:List Ln) (i:Nat) (a:List Int) (lb:List Sym) (c:Nat) {x:Nat×Int},bX l i a lb c=.error x->x.2=26/\i<x.1/\x.1<=i+l.length
 |[],_,_,_,_,_,h=>by(rw[bX] at h;cases h)
 |y::r,i,a,lb,c,x,h=>by
  rw[bX] at h;split at h;·have:=qD r _ _ _ _ h;simp;omega
  ·split at h
   ·cases h;exact⟨rfl,by show i<i+1;omega,by simp⟩
   ·have:=qD r _ _ _ _ h;simp;omega
theorem yV(lb:List Sym):∀(l:List Ln) (i:Nat) (p:List Val) {x:Nat×Int},cu lb l i p=.error x->x.2≠0/\i<x.1/\x.1<=i+l.length/\(l.getD (x.1-1-i) zL).2.1.1=8/\(x.2=27\/x.2=(vOf lb (eL (l.getD (x.1-1-i) zL))).2.2.1)
 |[],_,_,_,h=>by(rw[cu] at h;cases h)
 |y::r,i,p,x,h=>by
  have step:∀{q},cu lb r (i+1) q=.error x->x.2≠0/\i<x.1/\x.1<=i+(y::r).length/\((y::r).getD (x.1-1-i) zL).2.1.1=8/\(x.2=27\/x.2=(vOf lb (eL ((y::r).getD (x.1-1-i) zL))).2.2.1):=fun {q} hq=>by
   obtain⟨h1,h2,h3,h4,h5⟩:=yV lb r (i+1) q hq;have e:x.1-1-i=(x.1-1-(i+1))+1:=by omega
   rw[e,List.getD_cons_succ];exact⟨h1,by omega,by simp;omega,h4,h5⟩
  rw[cu] at h;split at h
  ·rename_i h8;split at h
   ·rename_i hne;cases h;have e:i+1-1-i=0:=by omega
    dsimp only;rw[e,List.getD_cons_zero];exact⟨hne,by omega,by simp,h8,.inr rfl⟩
   ·split at h
    ·cases h;have e:i+1-1-i=0:=by omega
     dsimp only;rw[e,List.getD_cons_zero];exact⟨by decide,by omega,by simp,h8,.inl rfl⟩
    ·exact step h
  ·exact step h
theorem Fj(w:List Ln):(∃x:Nat×Int,bG w=sM x.1 x.2/\x.2≠0/\0<x.1/\x.1<=w.length/\((∃y,bX w 0 [] [] 0=.error y)\/∃r,bX w 0 [] [] 0=.ok r/\cu r.2.1 w 0 []=.error x)) \/
  ∃r p,bX w 0 [] [] 0=.ok r/\cu r.2.1 w 0 []=.ok p/\bG w=nP r.1 r.2.1 r.2.2 (.ok p):=by
 unfold bG zX;cases hp:bX w 0 [] [] 0 with
 |error x=>
  have:=qD _ _ _ _ _ hp;exact .inl ⟨x,rfl,by omega,by omega,by omega,.inl ⟨x,rfl⟩⟩
 |ok r=>
  dsimp only;cases hq:cu r.2.1 w 0 [] with
  |error x=>
   obtain⟨h1,h2,h3,_⟩:=yV _ _ _ _ hq;exact .inl ⟨x,rfl,h1,by omega,by omega,.inr ⟨r,rfl,hq⟩⟩
  |ok p=>exact .inr ⟨r,p,rfl,hq,rfl⟩
end Rv
namespace Rv
open Go
end Rv
namespace Rv
open Go
theorem DK:∀e∈L.nameTbl,L.mnemR e.2.1.1 e.2.1.2.1 e.2.1.2.2=e.2.2/\L.ofR e.2.2=(e.2.1.1,e.2.1.2.1,e.2.1.2.2,true,())/\e.2.2≠[]:=by decide +kernel
theorem Kc:∀e∈L.nameTbl,1<=e.2.1.1/\e.2.1.1<=10/\0<=e.2.1.2.1/\e.2.1.2.1<=15:=by decide +kernel
theorem J6{k o:Int}{u:Bool}(h:L.mnemR k o u≠[]):∃e∈L.nameTbl,e.2.1=(k,o,u)/\e.2.2=L.mnemR k o u:=by
 unfold L.mnemR at h⊢;cases hf:L.nameTbl.find? fun e=>e.2.1 == (k,o,u) with
 |none=>rw[hf] at h;exact absurd rfl h
 |some e=>
  have h1:=List.mem_of_find?_eq_some hf;have h2:e.2.1=(k,o,u):=by simpa using List.find?_some hf
  exact⟨e,h1,h2,rfl⟩
theorem uu{k o:Int}{u:Bool}(h:L.mnemR k o u≠[]):L.ofR (L.mnemR k o u)=(k,o,u,true,())/\1<=k/\k<=10/\0<=o/\o<=15:=by
 obtain⟨e,he,hk,hs⟩:=J6 h;obtain⟨h1,h2,h3⟩:=DK e he;have h4:=Kc e he;rw[hk] at h2 h4;rw[<- hs];exact⟨h2,h4⟩
theorem Ki{s:Str}(h:∀k o u,L.mnemR k o u=s->s=[]):L.ofR s=(0,0,false,false,()):=by
 unfold L.ofR;cases hf:L.nameTbl.find? fun e=>e.2.2 == s with
 |none=>rfl
 |some e=>
  have h1:=List.mem_of_find?_eq_some hf;have h2:e.2.2=s:=by simpa using List.find?_some hf
  obtain⟨h3,_,h4⟩:=DK e h1;exact absurd (h2 ▸ h _ _ _ (h3.trans h2)) h4
end Rv
namespace Rv
open Go
set_option maxRecDepth 100000
def okE(r:Option (Int×Option Int×Unit)):Prop:=∃v e,r=some (v,e,())/\(e=none\/e=some 1\/e=some 2)
theorem vQ{v:Int}:okE (some (v,none,())):=⟨_,_,rfl,.inl rfl⟩
theorem oU{v:Int}:okE (some (v,some 1,())):=⟨_,_,rfl,.inr (.inl rfl)⟩
theorem dZ{v:Int}:okE (some (v,some 2,())):=⟨_,_,rfl,.inr (.inr rfl)⟩
theorem EZ(c:Int):Zat.g c=some (ay .or .u8 c 32,()):=rfl
theorem MU(s09:Str)(c mv:Int)(l:List Int)(hl:l.length<=1000000)(n:Nat):∀(m i:Nat),i<=l.length->l.length-i<m->∀v,okE (Zaa.l36 n m 10 false s09 c mv false v l (l.length:Int) (i:Int)):=by
 intro m
 induction m with
 |zero=>intro i _ h;omega
 |succ m ih=>
  intro i hi hm v;unfold Zaa.l36;by_cases hlt:i<l.length
  ·rw[if_pos (by simp;omega),if_pos (by omega)];have w1:IntKind.i64.wrap ((i:Int)+1)=((i+1:Nat):Int):=by rw[w64 (by omega)];omega
   have h46:∀d,okE (Zaa.j46 n (Zaa.l36 n m) 10 false s09 c mv false v d l (l.length:Int) (i:Int)):=by
    intro d;unfold Zaa.j46;split;·exact dZ
    ·split
     ·exact oU
     ·split
      ·split
       ·exact oU
       ·unfold Zaa.j55;rw[w1];exact ih (i+1) (by omega) (by omega) _
      ·exact oU
   simp only[EZ,Pt,Bool.false_eq_true,if_false];generalize hb:l.getD (i:Int).toNat 0=b;by_cases e1:b=95
   ·rw[if_pos (by simp[e1])];split
    ·split
     ·exact h46 _
     ·split
      ·split
       ·exact h46 _
       ·exact dZ
      ·exact dZ
    ·split
     ·split
      ·exact h46 _
      ·exact dZ
     ·exact dZ
   ·rw[if_neg (by simp[e1])];split
    ·split
     ·exact h46 _
     ·split
      ·split
       ·exact h46 _
       ·exact dZ
      ·exact dZ
    ·split
     ·split
      ·exact h46 _
      ·exact dZ
     ·exact dZ
  ·rw[if_neg (by simp;omega)];simp only[Bool.false_eq_true,if_false];exact vQ
theorem OU(s:Str)(hs:s.length<=1000000):okE (Zaa.g s 10 0):=by
 unfold Zaa.g Zaa.f;by_cases h0:s=[]
 ·rw[if_pos (by simp[h0])];exact dZ
 ·rw[if_neg (by simp[h0]),if_pos (by decide),if_pos (by decide)];unfold Zaa.j21;rw[if_pos (by decide)];unfold Zaa.j25;rw[if_pos (by decide)];unfold Zaa.j32;rw[if_neg (by decide)];have hd:decide ((10:Int)=0)=false:=by decide
  rw[hd];have hz:(0:Int)=((0:Nat):Int):=rfl;have:=MU s 1844674407370955162 (IntKind.u64.wrap ((IntKind.u64.wrap ((1:Int)*2 ^ (min (IntKind.u64.wrap 64).toNat IntKind.u64.bits)))-(1:Int))) (s.map fun b=>(b.toNat:Int)) (by simpa using hs) (1000+s.length+(10:Int).toNat+(0:Int).toNat) (1000+s.length+(10:Int).toNat+(0:Int).toNat) 0 (by simp) (by simp;omega) 0;exact this
theorem Oc(n:Nat)(g:Bool)(v:Int):okE (Zar.j21 n g v):=by
 unfold Zar.j21;split<;>exact vQ
theorem Ob(n:Nat)(g:Bool)(v c:Int):okE (Zar.j19 n g v c):=by
 unfold Zar.j19;split
 ·split
  ·exact oU
  ·exact Oc _ _ _
 ·exact Oc _ _ _
theorem Pm(n:Nat)(g:Bool)(v:Int):okE (Zar.j16 n 64 g v):=by
 unfold Zar.j16;have h:¬IntKind.u64.wrap (IntKind.i64.wrap (64-1))<0:=by rw[w64 (by omega),yz (by omega)];omega
 rw[if_neg h];generalize IntKind.u64.wrap ((1:Int)*2 ^ (min (IntKind.u64.wrap (IntKind.i64.wrap (64-1))).toNat IntKind.u64.bits))=c;split
 ·split
  ·exact oU
  ·exact Ob _ _ _ _
 ·exact Ob _ _ _ _
theorem Oa(n:Nat)(g:Bool)(v:Int):okE (Zar.j14 n 0 g v):=by
 unfold Zar.j14;rw[if_pos (by decide)];exact Pm _ _ _
theorem OQ(s:Str)(hs:s.length<=1000000):okE (Zar.g s 10 0):=by
 unfold Zar.g Zar.f;generalize 1000+s.length+(10:Int).toNat+(0:Int).toNat=n;have h10:∀(t:Str) g,t.length<=1000000->okE (Zar.j10 n t 10 0 g):=fun t g ht=>by
  unfold Zar.j10;obtain⟨v,e,he,h⟩:=OU t ht;rw[he,Pt];dsimp only;rcases h with rfl|rfl|rfl;·rw[if_neg (by decide)];exact Oa _ _ _
  ·rw[if_pos (by decide),if_neg (by simp)];exact Oa _ _ _
  ·rw[if_pos (by decide),if_pos (by simp)];exact dZ
 by_cases h0:s=[]
 ·rw[if_pos (by simp[h0])];exact dZ
 ·rw[if_neg (by simp[h0])];have hlen:0<s.length:=List.length_pos_iff.2 h0;have ht:((s.take ((s.length:Int)).toNat).drop ((1:Int)).toNat).length<=1000000:=by simp;omega
  rw[if_pos (by omega)];split;·rw[if_pos (by omega)];exact h10 _ _ ht
  ·split
   ·rw[if_pos (by omega)];exact h10 _ _ ht
   ·exact h10 _ _ hs
theorem at_loop(s05:Str)(h5:s05≠[])(l:List Int)(hl:l.length<=1000000)(n:Nat):∀(m i:Nat),i<=l.length->l.length-i<m->∀v,okE (Zaw.l10 n m s05 v l (l.length:Int) (i:Int)):=by
 intro m
 induction m with
 |zero=>intro i _ h;omega
 |succ m ih=>
  intro i hi hm v;unfold Zaw.l10;by_cases hlt:i<l.length
  ·rw[if_pos (by simp;omega),if_pos (by omega)];have w1:IntKind.i64.wrap ((i:Int)+1)=((i+1:Nat):Int):=by rw[w64 (by omega)];omega
   split;·exact dZ
   ·rw[w1];exact ih (i+1) (by omega) (by omega) _
  ·rw[if_neg (by simp;omega)];have hlen:0<s05.length:=List.length_pos_iff.2 h5;rw[if_pos (by omega)];split<;>exact vQ
theorem OJ(s:Str)(hs:s.length<=1000000):okE (Zaw.g s):=by
 unfold Zaw.g Zaw.f;obtain⟨n,hn⟩:∃n,1000+s.length=n:=⟨_,rfl⟩
 rw[hn];have h8:∀t:Str,t.length<=s.length->s≠[]->okE (Zaw.j8 n t s):=fun t ht h0=>by
  unfold Zaw.j8;have:=at_loop s h0 (t.map fun b=>(b.toNat:Int)) (by simp;omega) n n 0 (by simp) (by simp;omega) 0;exact this
 have h20:okE (Zaw.j20 n s):=by
  unfold Zaw.j20;obtain⟨v,e,he,h⟩:=OQ s hs;rw[he,Pt];exact⟨v,e,rfl,h⟩
 by_cases h0:s=[]
 ·rw[if_neg (by simp[h0])];exact h20
 ·have hlen:0<s.length:=List.length_pos_iff.2 h0;have ht:((s.take ((s.length:Int)).toNat).drop ((1:Int)).toNat).length<=s.length:=by simp
  have h6:okE (Zaw.j6 n ((s.take ((s.length:Int)).toNat).drop ((1:Int)).toNat) s):=by
   unfold Zaw.j6;split;·exact dZ
   ·exact h8 _ ht h0
  rw[if_pos (by simp;omega)];split
  ·rw[if_pos (by omega)];split
   ·rw[if_pos (by omega)];split
    ·rw[if_pos (by omega)];exact h6
    ·exact h8 _ (PI _) h0
   ·rw[if_pos (by omega)];exact h6
  ·exact h20
theorem Gb(s:Str)(hs:s.length<=1000000):∃v b,Zeg.g s=some (v,b,()):=by
 unfold Zeg.g Zeg.f;obtain⟨v,e,he,h⟩:=OJ s hs;rw[he,Pt];dsimp only;rcases h with rfl|rfl|rfl;·exact⟨_,_,rfl⟩
 ·have:L.toErrorO ([65,116,111,105]:Str) s 0 0 (some 1)=some (false,()):=by unfold L.toErrorO;rw[if_pos ⟨by omega,Or.inl rfl⟩]
  rw[if_pos (by decide),this];exact⟨_,_,rfl⟩
 ·have:L.toErrorO ([65,116,111,105]:Str) s 0 0 (some 2)=some (false,()):=by unfold L.toErrorO;rw[if_pos ⟨by omega,Or.inr rfl⟩]
  rw[if_pos (by decide),this];exact⟨_,_,rfl⟩
end Rv
namespace Rv
open Go
def iH(k:Nat):Str:=if k<10 then[82,UInt8.ofNat (48+k)] else[82,49,UInt8.ofNat (38+k)]
def aQ(s:Str):Int×Bool:=match (List.range 16).find? (fun k=>iH k == s) with|some k=>((k:Int),true)|none=>(0,false)
theorem H8:((List.range 16).all fun k=>decide (Zdi.g (k:Int)=some (iH k,()))&&decide (Zcu.g (iH k)=some ((k:Int),true,())))=true:=by decide +kernel
theorem Bv(k:Nat)(hk:k<16):Zdi.g (k:Int)=some (iH k,())/\Zcu.g (iH k)=some ((k:Int),true,()):=by
 have:=PX.1 H8 k (List.mem_range.2 hk);simpa[and_assoc] using this
theorem C8{v:Int}(h:v<0\/16<=v):Zdi.g v=some ([],()):=by
 unfold Zdi.g Zdi.f;by_cases h0:v<0;·rw[if_neg (by simp;omega)]
 ·rw[if_pos (by simp;omega),if_pos (by simp;omega)]
theorem zK(v:Int):∃s,Zdi.g v=some (s,())/\(s≠[]->∃k:Nat,k<16/\v=(k:Int)/\s=iH k):=by
 by_cases h:v<0\/16<=v;·exact⟨[],C8 h,fun e=>absurd rfl e⟩
 ·obtain⟨k,rfl⟩:∃k:Nat,v=(k:Int):=⟨v.toNat,by omega⟩
  have hk:k<16:=by omega
  exact⟨iH k,(Bv k hk).1,fun _=>⟨k,hk,rfl,rfl⟩⟩
theorem L9{s p:Str}(h:L.cutIs s p=true)(hp:p≠[]):s≠[]:=by
 rintro rfl;cases p with
 |nil=>exact hp rfl
 |cons a l=>simp[L.cutIs,Lib.hasPrefix] at h
theorem lX{s:Str}{k:Nat}(h:(List.range 16).find? (fun k=>iH k == s)=some k):k<16/\iH k=s:=by
 have h1:=List.mem_of_find?_eq_some h;have h2:=List.find?_some h;exact⟨List.mem_range.1 h1,by simpa using h2⟩
theorem H7(s:Str)(hs:s.length<=1000000):Zcu.g s=some ((aQ s).1,(aQ s).2,()):=by
 unfold aQ;cases hf:(List.range 16).find? (fun k=>iH k == s) with
 |some k=>
  obtain⟨h1,h2⟩:=lX hf;have:=(Bv k h1).2;rw[h2] at this;exact this
 |none=>
  have hno:∀k,k<16->iH k≠s:=fun k hk e=>by
   have:=List.find?_eq_none.1 hf k (List.mem_range.2 hk);simp[e] at this
  unfold Zcu.g Zcu.f;obtain⟨v,b,hvb⟩:=Gb (L.cutRest s [82]) (by
   unfold L.cutRest Lib.trimPrefix;split;·rw[Qb];omega
   ·omega)
  rw[hvb,Pt];dsimp only;cases hc:L.cutIs s [82] with
  |false=>rfl
  |true=>
   rw[if_pos (by decide)];cases b with
   |false=>rfl
   |true=>
    rw[if_pos (by decide)];obtain⟨t,ht,hk⟩:=zK v;rw[ht,Pt];dsimp only;by_cases e:t=s;·have hne:=L9 hc (by decide);obtain⟨k,hk1,_,hk2⟩:=hk (by rw[e];exact hne);exact absurd (hk2.symm.trans e) (hno k hk1)
    ·rw[if_pos (by simp[e])]
end Rv
namespace Rv
open Go
abbrev az:=Int×Int×Str×Int×Unit
end Rv
namespace Rv
open Go
inductive Opr
 |add|sub|mul
def Opr.kind:Opr->Int
 | .add=>4 | .sub=>5 | .mul=>6
def Opr.byte:Opr->UInt8
 | .add=>43 | .sub=>45 | .mul=>42
def Opr.tight:Opr->Nat
 | .mul=>1|_=>0
inductive Tr
 |num (n:Int)|nam (s:Str)|neg (x:Tr)|bin (o:Opr) (a b:Tr)|br (x:Tr)
namespace Tr
def post:Tr->List Item
 | .num n=>[(1,n,[],())]
 | .nam s=>[(2,0,s,())]
 | .neg x=>x.post++[(3,0,[],())]
 | .bin o a b=>a.post++b.post++[(o.kind,0,[],())]
 | .br x=>x.post
def ok:Tr->Prop
 | .num n=>0<=n/\n<=4294967295
 | .nam s=>aK s=true
 | .neg x=>x.ok
 | .bin _ a b=>a.ok/\b.ok
 | .br x=>x.ok
def plain:Tr->Prop
 | .neg x=>x.plain
 | .bin _ a b=>a.plain/\b.plain
 | .br _=>False
 |_=>True
def tight:Tr->Nat
 | .bin o _ _=>o.tight
 |_=>2
end Tr
abbrev Bt:=Int×Str×Int
def bare(t:az):Bt:=(t.1,t.2.2.1,t.2.2.2.1)
namespace Tr
theorem post_pos:∀x:Tr,1<=x.post.length
 | .num _=>by simp[post]
 | .nam _=>by simp[post]
 | .neg _=>by simp[post]
 | .bin _ _ _=>by simp[post];omega
 | .br x=>post_pos x
def cnt(l:List Bt):Nat:=l.countP fun b=>decide (b.2.1=[45])||decide (b.2.1=[40])
end Tr
theorem EN{x:Item}(h:(aj x).2=true):(∃n,x=(1,n,[],()))\/(∃s,x=(2,0,s,())/\aK s=true)\/x=(3,0,[],())\/∃o:Opr,x=(o.kind,0,[],()):=by
 obtain⟨a,b,c,u⟩:=x;cases u;unfold aj at h;dsimp only at h;split at h;·rename_i h1;simp only[Px] at h;exact .inl ⟨b,by rw[h1,h]⟩
 ·split at h
  ·rename_i h2;simp only[Pz,Px] at h;exact .inr (.inl ⟨c,by rw[h2,h.1],h.2⟩)
  ·split at h
   ·rename_i h3;simp only[Pz,Px] at h;exact .inr (.inr (.inl (by rw[h3,h.1,h.2])))
   ·split at h
    ·rename_i h4;simp only[Pz,Px] at h;obtain⟨rfl,rfl⟩:=h;rcases h4 with rfl|rfl|rfl
     ·exact .inr (.inr (.inr ⟨.add,rfl⟩))
     ·exact .inr (.inr (.inr ⟨.sub,rfl⟩))
     ·exact .inr (.inr (.inr ⟨.mul,rfl⟩))
    ·cases h
theorem FV(l:List Tr):l=[]\/∃a x,l=a++[x]:=by
 rcases List.eq_nil_or_concat l with h|⟨a,x,h⟩;·exact .inl h
 ·exact .inr ⟨a,x,by simpa using h⟩
def posts(st:List Tr):List Item:=(st.map Tr.post).flatten
theorem nQ(a b:List Tr):posts (a++b)=posts a++posts b:=by simp[posts]
theorem ll(x:Tr):posts [x]=x.post:=by simp[posts]
theorem Cf:∀(e:List Item) (st:List Tr) (k:Int),enough (st.length:Int) e=some k->(∀x∈e,aZ x)->(∀x∈st,x.ok/\x.plain) ->
  ∃st':List Tr,(st'.length:Int)=k/\posts st++e=posts st'/\∀x∈st',x.ok/\x.plain
 |[],st,k,h,_,ho=>by
  simp only[enough,Pv] at h;exact⟨st,h,by simp,ho⟩
 |x::e,st,k,h,hg,ho=>by
  have hgx:=hg x (by simp);unfold enough at h;split at h
  case isFalse=>cases h
  rename_i hc;have push:∀(l:List Tr) (t:Tr),(∀y∈l,y.ok/\y.plain)->t.ok/\t.plain->((l.length:Int)+1=st.length+(1-(aj x).1))->posts st++[x]=posts l++t.post->∃st':List Tr,(st'.length:Int)=k/\posts st++x::e=posts st'/\∀x∈st',x.ok/\x.plain:=by
   intro l t hl ht hlen hp;obtain⟨st',h1,h2,h3⟩:=Cf e (l++[t]) k (by rw[show((l++[t]).length:Int)=st.length+(1-(aj x).1) by rw[<- hlen];simp];exact h) (fun y hy=>hg y (by simp[hy])) (fun y hy=>by
    rcases PL.1 hy with hy|hy;·exact hl y hy
    ·rw[PS] at hy;subst hy;exact ht)
   refine⟨st',h1,?_,h3⟩;rw[<- h2,nQ,ll,<- hp];simp
  rcases EN hc.1 with⟨n,rfl⟩|⟨s,rfl,hs⟩|rfl|⟨o,rfl⟩;·exact push st (.num n) ho ⟨⟨hgx.1,hgx.2.1⟩,trivial⟩ (by rw[show(aj (1,n,[],())).1=0 from rfl];omega) rfl
  ·exact push st (.nam s) ho ⟨hs,trivial⟩ (by rw[show(aj (2,0,s,())).1=0 from rfl];omega) rfl
  ·have e1:(aj (3,0,[],())).1=1:=rfl;rcases FV st with rfl|⟨l,v,rfl⟩
   ·exact absurd hc.2 (by rw[e1];simp)
   ·have hv:=ho v (by simp);exact push l (.neg v) (fun y hy=>ho y (by simp[hy])) hv (by rw[e1];simp<;>omega) (by rw[nQ,ll];simp[Tr.post])
  ·have e2:(aj (o.kind,0,[],())).1=2:=by cases o<;>rfl
   rcases FV st with rfl|⟨l0,v,rfl⟩;·exact absurd hc.2 (by rw[e2];simp)
   ·rcases FV l0 with rfl|⟨l,w,rfl⟩
    ·exact absurd hc.2 (by rw[e2];simp)
    ·exact push l (.bin o w v) (fun y hy=>ho y (by simp[hy])) ⟨⟨(ho w (by simp)).1,(ho v (by simp)).1⟩,(ho w (by simp)).2,(ho v (by simp)).2⟩ (by rw[e2];simp<;>omega) (by rw[nQ,nQ,ll,ll];simp[Tr.post])
theorem yw{e:List Item}(h:cz e)(hg:∀x∈e,aZ x):∃t:Tr,t.post=e/\t.ok/\t.plain:=by
 obtain⟨st,h1,h2,h3⟩:=Cf e [] 1 h hg (fun x hx=>by cases hx)
 match st,h1,h2,h3 with
 |[t],_,h2,h3=>exact⟨t,by rw[ll] at h2;exact h2.symm,h3 t (by simp)⟩
 |[],h1,_,_=>simp at h1
 |_::_::_,h1,_,_=>simp at h1;omega
end Rv
namespace Rv
open Go
end Rv
namespace Rv
open Go
def Jf(b:Bool)(s:Str):Str:=if b then 40::(s++[41]) else s
namespace Tr
def txt:Tr->Str
 | .num n=>Lib.itoa n
 | .nam s=>s
 | .neg x=>45::Jf (decide (x.tight<2)) x.txt
 | .bin o a b=>Jf (decide (a.tight<o.tight)) a.txt++([32,o.byte,32]++Jf (decide (b.tight<o.tight+1)) b.txt)
 | .br x=>40::(x.txt++[41])
end Tr
end Rv
namespace Rv
open Go
def parts(st:List Tr):List (Str×Int×Unit):=st.map fun t=>(t.txt,(t.tight:Int),())
end Rv
namespace Rv
open Go
abbrev R:=af
abbrev aT:az:=((0:Int),((0:Int),(([]:Str),((0:Int),()))))
theorem DI(l:List az)(p:Nat)(out:List Item)(hp:p<l.length):Zbr.g l p out 0=some ((l.getD p aT).1,(l.getD p aT).2.1,(l.getD p aT).2.2.1,(l.getD p aT).2.2.2.1,true,l,(p:Int),out,0,()):=by
 unfold Zbr.g Zbr.f;simp only[df,dt];rw[if_pos (by simp),if_pos (by omega),if_neg (by omega),if_pos (by omega),PG]
theorem A7(l:List az)(p:Nat)(out:List Item)(hp:l.length<=p):Zbr.g l p out 0=some (0,0,[],0,false,l,(p:Int),out,0,()):=by
 unfold Zbr.g Zbr.f;simp only[df,dt];rw[if_pos (by simp),if_pos (by omega),if_pos (by omega)]
theorem Kb(l:List az)(p:Int)(out:List Item)(e:Int)(he:e≠0):Zbr.g l p out e=some (0,0,[],0,false,l,p,out,e,()):=by
 unfold Zbr.g Zbr.f;simp only[df];rw[if_neg (by simpa using he)]
theorem tT(n:Nat)(all:List Str)(hall:all.length<=100)(ok:Bool)(l:List az)(p:Int)(out:List Item)(e k a:Int)(tx:Str)(nn:Int):∀(m i:Nat),i<=all.length->all.length-i<m ->
  Zas.l3 n m ok all (all.length:Int) (i:Int) l p out e k a tx nn=if ok=true/\k=3/\tx∈all.drop i then some (tx,true,l,IntKind.i64.wrap (p+1),out,e,()) else some ([],false,l,p,out,e,()):=by
 intro m
 induction m with
 |zero=>intro i _ h;omega
 |succ m ih=>
  intro i hi hm;rw[Zas.l3];simp only[dt,Zas.j8,PG];by_cases h:i<all.length
  ·have hd:all.drop i=all.getD i []::all.drop (i+1):=by
    rw[P6 h,PD,PH h];rfl
   have hih:=ih (i+1) (by omega) (by omega);rw[if_pos (by omega),if_pos (by omega),w64 (x:=(i:Int)+1) (by omega),show(i:Int)+1=((i+1:Nat):Int) by omega,hih,hd];generalize all.getD i []=s;by_cases h1:ok=true
   ·rw[if_pos h1];by_cases h2:k=3
    ·rw[if_pos h2];by_cases h3:tx=s
     ·rw[if_pos h3,if_pos ⟨h1,h2,by simp[h3]⟩,h3]
     ·rw[if_neg h3];by_cases h4:tx∈all.drop (i+1)
      ·rw[if_pos ⟨h1,h2,h4⟩,if_pos ⟨h1,h2,by simp[h4]⟩]
      ·rw[if_neg (fun h=>h4 h.2.2),if_neg (fun h=>by simp[h3,h4] at h)]
    ·rw[if_neg h2,if_neg (fun h=>h2 h.2.1),if_neg (fun h=>h2 h.2.1)]
   ·rw[if_neg h1,if_neg (fun h=>h1 h.1),if_neg (fun h=>h1 h.1)]
  ·have:i=all.length:=by omega
   subst this;rw[if_neg (by omega),if_neg (fun h=>by simp at h)]
theorem wo(all:List Str)(hall:all.length<=100)(l:List az)(p:Int)(out:List Item)(e:Int)(he:e≠0):Zas.g all l p out e=some ([],false,l,p,out,e,()):=by
 unfold Zas.g Zas.f;rw[Kb l p out e he,Pt];have:=tT (1000+all.length+l.length+p.toNat+out.length+e.toNat) all hall false l p out e 0 0 [] 0 (1000+all.length+l.length+p.toNat+out.length+e.toNat) 0 (by omega) (by omega);rw[if_neg (fun h=>by cases h.1)] at this;exact this
theorem oK(x:Int)(l:List az)(p:Int)(out:List Item):Zbj.g x l p out 0=some (l,p,out,x,()):=by
 unfold Zbj.g Zbj.f;rw[if_pos (by decide)]
abbrev tO:List Str:=[[42]]
abbrev qK:List Str:=[[43],[45]]
def mc:Tr->Nat
 | .bin .mul a _=>mc a+1
 |_=>0
end Rv
namespace Rv
open Go
theorem JB(x:Int)(l:List az)(p:Int)(out:List Item)(e:Int)(he:e≠0):Zbj.g x l p out e=some (l,p,out,e,()):=by
 unfold Zbj.g Zbj.f;rw[if_neg (by simpa using he)]
theorem Dx(n:Nat)(r:aB)(m:Nat)(l:List az)(p:Int)(out:List Item)(e d:Int)(he:e≠0):expr_parser_row_c257.l1 n r (m+1) tO l p out e d=some (l,p,out,e,(),d,()):=by
 rw[expr_parser_row_c257.l1,wo tO (by simp) l p out e he,Pt];rfl
theorem Dw(n:Nat)(r:aB)(m:Nat)(l:List az)(p:Int)(out:List Item)(e d:Int)(he:e≠0):expr_parser_row_c256.l1 n r (m+1) qK l p out e d=some (l,p,out,e,(),d,()):=by
 rw[expr_parser_row_c256.l1,wo qK (by simp) l p out e he,Pt];rfl
theorem Ny(q:Nat)(l:List az)(p:Int)(out:List Item):(R (q+1)).expr_parser_factor 9 l p out 0=some (l,p,out,24,()):=by
 show expr_parser_factor.h (R q) 9 l p out 0=_;unfold expr_parser_factor.h expr_parser_factor.f;rw[if_neg (by decide),if_pos (by decide),oK,Pt]
end Rv
namespace Rv
open Go
theorem JF(l:List Item)(hl:l.length<=9223372036854775807)(hw:mH l):∃t:Tr,Zae.g l=some (t.post,())/\t.ok/\t.plain/\cz t.post/\t.post.length<=19:=by
 obtain⟨r,h1,h2,h3,h4⟩:=Aq l hl hw;obtain⟨t,rfl,ho,hp⟩:=yw h2 h4;exact⟨t,h1,ho,hp,h2,h3⟩
end Rv
namespace Rv
open Go
structure Sm where
 k:Int
 o:Int
 a:Int
 b:Int
 c:Int
 u:Bool
 e:List Item
 nm:Str
def sQ(t:Tr):Prop:=t.ok/\t.plain/\cz t.post/\t.post.length<=64
def postO:Option Tr->List Item
 |none=>[]
 |some t=>t.post
inductive GoodS:Sm->Option Tr->Prop
 |none:GoodS ⟨0,0,0,0,0,false,[],[]⟩ none
 |ins0 {k o a b c:Int} {u:Bool}:bO k o a b c u->(k=1\/k=3\/k=4\/k=6)->GoodS ⟨k,o,a,b,c,u,[],[]⟩ none
 |ins1 {k o a b c:Int} {u:Bool} {t:Tr}:bO k o a b c u->(k=2\/k=5\/k=7)->sQ t->GoodS ⟨k,o,a,b,c,u,t.post,[]⟩ (some t)
 |load {a:Int} {t:Tr}:rg a->sQ t->GoodS ⟨8,0,a,0,0,false,t.post,[]⟩ (some t)
 |word {t:Tr}:sQ t->GoodS ⟨9,0,0,0,0,false,t.post,[]⟩ (some t)
 |exp {nm:Str}:bW nm=true->GoodS ⟨10,0,0,0,0,false,[],nm⟩ none
end Rv
namespace Rv
open Go
theorem dO(x:Int):rg (ay .and .i64 x 15):=by
 have h1:(BitVec.ofInt 64 x &&& BitVec.ofInt 64 15).toNat<=15:=by
  rw[BitVec.toNat_and];exact Nat.and_le_right
 show rg (IntKind.i64.wrap (((BitVec.ofInt 64 x &&& BitVec.ofInt 64 15).toNat:Nat):Int));rw[w64 (by omega)];exact⟨by omega,by omega⟩
theorem LG(x:Int):0<=ay .and .i64 x 3/\ay .and .i64 x 3<4:=by
 have h1:(BitVec.ofInt 64 x &&& BitVec.ofInt 64 3).toNat<=3:=by
  rw[BitVec.toNat_and];exact Nat.and_le_right
 show 0<=IntKind.i64.wrap (((BitVec.ofInt 64 x &&& BitVec.ofInt 64 3).toNat:Nat):Int)/\IntKind.i64.wrap (((BitVec.ofInt 64 x &&& BitVec.ofInt 64 3).toNat:Nat):Int)<4;rw[w64 (by omega)];omega
def wU(K:Int)(r:Option (Int×Int×Int×Int×Int×Int×Bool×Unit)):Prop:=∃O A B C I U,r=some (K,O,A,B,C,I,U,())/\bO K O A B C U
theorem fP{a b c d e f:Int}{g:Bool}(h:bO a b c d e g):wU a (some (a,b,c,d,e,f,g,())):=⟨_,_,_,_,_,_,rfl,h⟩
theorem EO(n:Nat)(op a0 a1 a2 a3 a4 a5:Int)(a6:Bool)(b0 b1 b2 b3 b4 b5:Int)(b6:Bool)(k c d f:Int)(u:Bool)(hk:k=1\/k=2)(ho:0<=op/\op<12)(hu:u=true->8<=op/\op<=10)(hc:rg c)(hd:rg d)(h0:op=0->d=0) :
  wU k (Zan.j10 n op a0 a1 a2 a3 a4 a5 a6 b0 b1 b2 b3 b4 b5 b6 k op c d 0 f u):=by
 unfold Zan.j10;by_cases e1:k=1
 ·rw[if_pos (by simp[e1])];subst e1;by_cases e2:op=0
  ·subst e2;obtain rfl:=h0 rfl;have:u=false:=by cases u;rfl;exact absurd (hu rfl).1 (by decide)
   subst this;exact fP (.mov hc (dO _))
  ·exact fP (.reg (by omega) ho.2 hc hd (dO _) hu)
 ·obtain rfl:k=2:=by omega
  rw[if_neg (by decide)];by_cases e2:op=0
  ·subst e2;obtain rfl:=h0 rfl;have:u=false:=by cases u;rfl;exact absurd (hu rfl).1 (by decide)
   subst this;rw[if_pos (by decide)];unfold Zan.j25;split;·exact fP (.movi hc)
   ·exact fP (.movi hc)
  ·rw[if_neg (by simp[e2])];exact fP (.imm (by omega) ho.2 hc hd hu)
theorem NR(n:Nat)(op a0 a1 a2 a3 a4 a5:Int)(a6:Bool)(b0 b1 b2 b3 b4 b5:Int)(b6:Bool)(k c f:Int)(hk:k=1\/k=2)(ho:0<=op/\op<12)(hc:rg c) :
  wU k (Zan.j7 n op a0 a1 a2 a3 a4 a5 a6 b0 b1 b2 b3 b4 b5 b6 k op c 0 0 f false):=by
 have h9:∀d,rg d->(op=0->d=0)->wU k (Zan.j9 n op a0 a1 a2 a3 a4 a5 a6 b0 b1 b2 b3 b4 b5 b6 k op c d 0 f false):=by
  intro d hd h0;unfold Zan.j9;by_cases e1:a6=true
  ·rw[if_pos e1];by_cases e2:(8:Int)<=op
   ·rw[if_pos (by simpa using e2)];exact EO _ _ _ _ _ _ _ _ _ _ _ _ _ _ _ _ _ _ _ _ _ hk ho (fun h=>⟨e2,by simpa using h⟩) hc hd h0
   ·rw[if_neg (by simpa using e2)];exact EO _ _ _ _ _ _ _ _ _ _ _ _ _ _ _ _ _ _ _ _ _ hk ho (fun h=>by cases h) hc hd h0
  ·rw[if_neg e1];exact EO _ _ _ _ _ _ _ _ _ _ _ _ _ _ _ _ _ _ _ _ _ hk ho (fun h=>by cases h) hc hd h0
 unfold Zan.j7;by_cases e:op=0;·rw[if_neg (by simp[e])];exact h9 0 ⟨by decide,by decide⟩ fun _=>rfl
 ·rw[if_pos (by simp[e])];exact h9 _ (dO _) fun h=>absurd h e
theorem uF(x:Int){m:Int}(hm:0<m):-m<Int.tmod x m/\Int.tmod x m<m:=⟨Int.lt_tmod_of_pos x hm,Int.tmod_lt_of_pos x hm⟩
theorem Mg(i0 i1 i2 i3 i4 i5:Int)(u:Bool):wU (1+Int.tmod (Int.tmod i0 7+7) 7) (Zan.g i0 i1 i2 i3 i4 i5 u):=by
 unfold Zan.g;generalize 1000+i0.toNat+i1.toNat+i2.toNat+i3.toNat+i4.toNat+i5.toNat=n;unfold Zan.f;have t1:=uF i0 (m:=7) (by decide);have t2:=uF i1 (m:=12) (by decide);have e1:IntKind.i64.wrap (Int.tmod i0 7+7)=Int.tmod i0 7+7:=w64 (by omega);have e2:IntKind.i64.wrap (Int.tmod i1 12+12)=Int.tmod i1 12+12:=w64 (by omega);rw[e1,e2];have t3:=uF (Int.tmod i0 7+7) (m:=7) (by decide);have t4:=uF (Int.tmod i1 12+12) (m:=12) (by decide);have t5:0<=Int.tmod (Int.tmod i0 7+7) 7:=Int.tmod_nonneg _ (by omega);have t6:0<=Int.tmod (Int.tmod i1 12+12) 12:=Int.tmod_nonneg _ (by omega);generalize Int.tmod (Int.tmod i0 7+7) 7=q at *;generalize Int.tmod (Int.tmod i1 12+12) 12=op at *;have e3:IntKind.i64.wrap (1+q)=1+q:=w64 (by omega);rw[e3];clear e1 e2 e3 t1 t2;generalize hk:1+q=k;simp only[dt];have hop:0<=op/\op<12:=⟨t6,t4.2⟩
 have m3:=LG i1;by_cases k1:k=1;·rw[if_pos k1,if_pos k1];exact NR _ _ _ _ _ _ _ _ _ _ _ _ _ _ _ _ _ _ _ (Or.inl k1) hop (dO _)
 ·rw[if_neg k1];by_cases k2:k=2
  ·rw[if_pos k2];exact NR _ _ _ _ _ _ _ _ _ _ _ _ _ _ _ _ _ _ _ (Or.inr k2) hop (dO _)
  ·rw[if_neg k2];by_cases k5:k=5
   ·rw[if_pos k5,k5];exact fP (.mem m3.1 m3.2 (dO _) (dO _))
   ·rw[if_neg k5];by_cases k6:k=6
    ·rw[if_pos k6,k6];exact fP (.br (dO _) (dO _))
    ·rw[if_neg k6];by_cases k7:k=7
     ·rw[if_pos k7,k7];exact fP (.jmp (dO _))
     ·rw[if_neg k7];have:k=3\/k=4:=by omega
      rcases this with rfl|rfl;·exact fP (.hi (dO _))
      ·exact fP (.fl (dO _))
theorem EI(s:Str)(hs:s.length<=9223372036854775807):∃r,Zay.g s=some (r,())/\bW r=true:=by
 have key:∃r,Zay.g s=some (r,())/\(∃c t,r=c::t/\isA c=true/\c≠82)/\r.all isW=true/\r.length<=7:=by
  unfold Zay.g Zay.f;have e1:Int.tmod (s.length:Int) 26=((s.length % 26:Nat):Int):=by
   have:Int.tmod (s.length:Int) 26=(s.length:Int) % 26:=Qa (by omega);rw[this];omega
  have hk:s.length % 26<26:=Nat.mod_lt _ (by omega);rw[e1];have e2:IntKind.u8.wrap (97+IntKind.u8.wrap ((s.length % 26:Nat):Int))=((97+s.length % 26:Nat):Int):=by
   rw[w8u (x:=((s.length % 26:Nat):Int)) (by omega),w8u (by omega)];omega
  rw[e2];have hb:bytesOf [((97+s.length % 26:Nat):Int)]=[UInt8.ofNat (97+s.length % 26)]:=rfl;rw[hb];have hn:(UInt8.ofNat (97+s.length % 26)).toNat=97+s.length % 26:=by rw[UInt8.toNat_ofNat',Nat.mod_eq_of_lt (by omega)]
  have hA:isA (UInt8.ofNat (97+s.length % 26))=true:=by unfold isA;rw[hn];simp;omega
  have hne:UInt8.ofNat (97+s.length % 26)≠82:=fun e=>by have:=congrArg UInt8.toNat e;rw[hn] at this;simp at this;omega
  exact wQ (Q:=fun c=>isA c=true/\c≠82) s hs (1000+s.length) (1000+s.length) 0 _ (by omega) (by omega) (by omega) rfl ⟨_,_,rfl,hA,hne⟩ (by rw[Qq,isW,wW,hA];rfl)
 obtain⟨r,hr,⟨c,t,rfl,hA,hne⟩,ha,hl⟩:=key;refine⟨_,hr,?_⟩;unfold bW fo;have h1:(c::t:Str).getD 0 0=c:=rfl;have h2:decide ((c::t:Str).length<=12)=true:=by rw[Px];omega
 rw[h1,h2,hA,ha,decide_eq_false hne];rfl
def smF(s:Sm):Int×Int×Int×Int×Int×Bool×List Item×Str×Unit:=(s.k,s.o,s.a,s.b,s.c,s.u,s.e,s.nm,())
abbrev Ps(s:Sm):Prop:=s.e.length<=9223372036854775807/\mH s.e/\s.nm.length<=9223372036854775807
theorem OH(s:Sm)(hw:Ps s):∃x t,Zbu.g s.k s.o s.a s.b s.c s.u s.e s.nm=some (smF x)/\GoodS x t:=by
 unfold Zbu.g;generalize 1000+s.k.toNat+s.o.toNat+s.a.toNat+s.b.toNat+s.c.toNat+s.e.length+s.nm.length=n;unfold Zbu.f;obtain⟨t,hf,ho,hp,hwl,hlen⟩:=JF s.e hw.1 hw.2.1;have hT:sQ t:=⟨ho,hp,hwl,by omega⟩
 rw[hf,Pt];have t1:=uF s.k (m:=11) (by decide);have e1:IntKind.i64.wrap (Int.tmod s.k 11+11)=Int.tmod s.k 11+11:=w64 (by omega);rw[e1];have t3:=uF (Int.tmod s.k 11+11) (m:=11) (by decide);have t5:0<=Int.tmod (Int.tmod s.k 11+11) 11:=Int.tmod_nonneg _ (by omega);generalize Int.tmod (Int.tmod s.k 11+11) 11=k at *;simp only[dt,df];have J9:(k=0\/8<=k)->∃x t',Zbu.j9 n k t.post s.k s.o s.a s.b s.c s.u s.e s.nm 0 0 0 0 0 false [] []=some (smF x)/\GoodS x t':=by
  intro hk;unfold Zbu.j9;simp only[dt];by_cases h8:k=8;·rw[if_pos h8,h8];exact⟨_,_,rfl,.load (dO s.a) hT⟩
  ·rw[if_neg h8];by_cases h9:k=9
   ·rw[if_pos h9,h9];exact⟨_,_,rfl,.word hT⟩
   ·rw[if_neg h9];by_cases h10:k=10
    ·have hmn:0<=mn (s.nm.length:Int) 6/\mn (s.nm.length:Int) 6<=s.nm.length:=by unfold mn;split<;>omega
     obtain⟨r,hr,hn⟩:=EI ((s.nm.take ((mn (s.nm.length:Int) 6)).toNat).drop 0) (by simp;omega);rw[if_pos h10,if_pos hmn,hr,Pt,h10];exact⟨_,_,rfl,.exp hn⟩
    ·rw[if_neg h10];exact⟨_,_,rfl,.none⟩
 by_cases h1:1<=k
 ·rw[if_pos h1];by_cases h7:k<=7
  ·rw[if_pos h7,w64 (x:=k-1) (by omega)];have hq:=Mg (k-1) s.o s.a s.b s.c 0 s.u;have hkk:1+Int.tmod (Int.tmod (k-1) 7+7) 7=k:=by
    have a1:Int.tmod (k-1) 7=k-1:=by rw[Qa (by omega)];omega
    rw[a1,Qa (by omega)];omega
   rw[hkk] at hq;obtain⟨O,A,B,C,I,U,hr,hg⟩:=hq;rw[hr,Pt];unfold Zbu.j8;by_cases h2:k=2;·rw[if_neg (by simp[h2])];exact⟨_,_,rfl,.ins1 hg (by omega) hT⟩
   ·rw[if_pos h2];by_cases h5:k=5
    ·rw[if_neg (by simp[h5])];exact⟨_,_,rfl,.ins1 hg (by omega) hT⟩
    ·rw[if_pos h5];by_cases h77:k=7
     ·rw[if_pos h77];exact⟨_,_,rfl,.ins1 hg (by omega) hT⟩
     ·rw[if_neg h77];exact⟨_,_,rfl,.ins0 hg (by omega)⟩
  ·rw[if_neg h7];exact J9 (by omega)
 ·rw[if_neg h1];exact J9 (by omega)
theorem kZ{s:Sm}{t:Option Tr}(h:GoodS s t):s.e.length<=64/\s.e=postO t/\(∀x,t=some x->sQ x):=by
 cases h with
 |none=>exact⟨by simp,rfl,fun x h=>by cases h⟩
 |ins0 _ _=>exact⟨by simp,rfl,fun x h=>by cases h⟩
 |ins1 _ _ ht=>exact⟨ht.2.2.2,rfl,fun x h=>by obtain rfl:=Pw h;exact ht⟩
 |load _ ht=>exact⟨ht.2.2.2,rfl,fun x h=>by obtain rfl:=Pw h;exact ht⟩
 |word ht=>exact⟨ht.2.2.2,rfl,fun x h=>by obtain rfl:=Pw h;exact ht⟩
 |exp _=>exact⟨by simp,rfl,fun x h=>by cases h⟩
end Rv
namespace Rv
open Go
abbrev Pq(l:List Item):Prop:=l.length<=maxLen/\∀x∈l,(Lit.int .i64 x.1).wf=true/\(Lit.int .u32 x.2.1).wf=true/\x.2.2.1.length<=maxLen/\True
abbrev F5(x:Ln):Prop:=x.1.length<=maxLen/\((Lit.int .i64 x.2.1.1).wf=true/\(Lit.int .i64 x.2.1.2.1).wf=true/\(Lit.int .i64 x.2.1.2.2.1).wf=true/\(Lit.int .i64 x.2.1.2.2.2.1).wf=true/\(Lit.int .i64 x.2.1.2.2.2.2.1).wf=true/\True/\Pq x.2.1.2.2.2.2.2.2.1/\x.2.1.2.2.2.2.2.2.2.1.length<=maxLen/\True)/\True
theorem Dp(s:Str)(hs:s.length<=9223372036854775807):∃t,Zay.g s=some (UInt8.ofNat (97+s.length % 26)::t,())/\t.length=min s.length 6:=by
 have loop:∀(n m i:Nat) (out:Str),i<=s.length->6-i<m->i<=6->out.length=i+1 ->
   ∃u,Zay.l4 n m s ([97,98,99,88,89,90,95,48,49,57,82,109]:Str) out (i:Int)=some (out++u,())/\u.length=min s.length 6-i:=by
  intro n m
  induction m with
  |zero=>intro i out _ h;omega
  |succ m ih=>
   intro i out hi hm h6 hl;rw[Zay.l4];simp only[dt];by_cases h1:i<s.length
   ·rw[if_pos (by omega)];by_cases h2:i<6
    ·rw[if_pos (by omega),if_pos (by omega),if_pos (by omega),gY];have hb:=xO (s.getD i 0);generalize s.getD i 0=b at *;have e0:Int.tmod (IntKind.i64.wrap (b.toNat:Int)) 12=((b.toNat % 12:Nat):Int):=by
      rw[w64 (by omega)];have:Int.tmod (b.toNat:Int) 12=(b.toNat:Int) % 12:=Qa (by omega);rw[this];omega
     rw[e0];have hk:b.toNat % 12<12:=Nat.mod_lt _ (by omega);generalize b.toNat % 12=k at *;rw[w64 (x:=(k:Int)+1) (by omega),w64 (x:=(i:Int)+1) (by omega),show(k:Int)+1=((k+1:Nat):Int) by omega,show(i:Int)+1=((i+1:Nat):Int) by omega,PG,PG];have hf:=PX.1 Ar k (by simpa using hk);simp only[Pz,Px] at hf;obtain⟨f1,f2⟩:=hf;generalize ((([97,98,99,88,89,90,95,48,49,57,82,109]:Str).take (k+1)).drop k)=w at *;rw[if_pos ⟨by omega,by simp only[P9,Qp];omega⟩,if_pos ⟨by omega,by omega⟩,if_pos (by omega)];obtain⟨u,hu,hul⟩:=ih (i+1) (out++w) (by omega) (by omega) (by omega) (by rw[PO,f2,hl]);exact⟨w++u,by rw[hu,PU],by rw[PO,f2,hul];omega⟩
    ·rw[if_neg (by omega)];exact⟨[],by rw[Qm],by simp;omega⟩
   ·rw[if_neg (by omega)];exact⟨[],by rw[Qm],by simp;omega⟩
 unfold Zay.g Zay.f;have e1:Int.tmod (s.length:Int) 26=((s.length % 26:Nat):Int):=by
  have:Int.tmod (s.length:Int) 26=(s.length:Int) % 26:=Qa (by omega);rw[this];omega
 have hk:s.length % 26<26:=Nat.mod_lt _ (by omega);rw[e1];have e2:IntKind.u8.wrap (97+IntKind.u8.wrap ((s.length % 26:Nat):Int))=((97+s.length % 26:Nat):Int):=by
  rw[w8u (x:=((s.length % 26:Nat):Int)) (by omega),w8u (by omega)];omega
 rw[e2];have hb:bytesOf [((97+s.length % 26:Nat):Int)]=[UInt8.ofNat (97+s.length % 26)]:=rfl;rw[hb];obtain⟨u,h1,h2⟩:=loop (1000+s.length) (1000+s.length) 0 [UInt8.ofNat (97+s.length % 26)] (by omega) (by omega) (by omega) rfl;exact⟨u,h1,by omega⟩
abbrev twice:Str:=[95,116,119,105,99,101]
def vR(s:Str):Prop:=aK s=true/\s.length<=8/\s≠twice/\s.getD 0 0≠122
theorem JD(s:Str)(hs:s.length<=20):∃r,Zbx.g s=some (r,())/\vR r:=by
 obtain⟨r,h1,h2,h3,_⟩:=uN s (by omega);refine⟨r,h1,h2,h3,fun e=>?_,fun e=>?_⟩
 ·subst e;unfold Zbx.g Zbx.f at h1;obtain⟨t,ht,hl⟩:=Dp s (by omega);have hn:(UInt8.ofNat (97+s.length % 26)).toNat=97+s.length % 26:=by rw[UInt8.toNat_ofNat',Nat.mod_eq_of_lt (by omega)]
  rw[ht,Pt] at h1;simp only[dt] at h1;split at h1
  ·have e1:mn ((UInt8.ofNat (97+s.length % 26)::t).length:Int) 11=((UInt8.ofNat (97+s.length % 26)::t).length:Int):=by unfold mn;rw[if_neg (by simp;omega)]
   rw[e1,if_pos (by omega)] at h1;simp only[PG,List.take_length,PV] at h1;split at h1;·simp only[Pv,PE,and_true] at h1;have h1:([95]++UInt8.ofNat (97+s.length % 26)::t:Str)=[95,116,119,105,99,101]:=h1;simp only[List.cons_append,Qi,List.cons.injEq,true_and] at h1;have a1:=congrArg UInt8.toNat h1.1;have a2:=congrArg List.length h1.2;rw[hn] at a1;simp at a1 a2;omega
   ·cases h1
  ·simp only[Pv,PE,and_true,List.cons.injEq] at h1;have a1:=congrArg UInt8.toNat h1.1;rw[hn] at a1;simp at a1;omega
 ·revert e;show r.getD 0 0=122->False;intro e;unfold Zbx.g Zbx.f at h1;obtain⟨t,ht,hl⟩:=Dp s (by omega);have hn:(UInt8.ofNat (97+s.length % 26)).toNat=97+s.length % 26:=by rw[UInt8.toNat_ofNat',Nat.mod_eq_of_lt (by omega)]
  rw[ht,Pt] at h1;simp only[dt] at h1;split at h1
  ·have e1:mn ((UInt8.ofNat (97+s.length % 26)::t).length:Int) 11=((UInt8.ofNat (97+s.length % 26)::t).length:Int):=by unfold mn;rw[if_neg (by simp;omega)]
   rw[e1,if_pos (by omega)] at h1;simp only[PG,List.take_length,PV] at h1;split at h1;·simp only[Pv,PE,and_true] at h1;subst h1;have e:(95:UInt8)=122:=e;exact absurd e (by decide)
   ·cases h1
  ·simp only[Pv,PE,and_true] at h1;subst h1;have e:UInt8.ofNat (97+s.length % 26)=122:=e;have a1:=congrArg UInt8.toNat e;rw[hn] at a1;simp at a1;omega
theorem Nr(s:Str)(hs:s.length<=9223372036854775807):0<=mn (s.length:Int) 20/\mn (s.length:Int) 20<=(s.length:Int)/\∃r,Zbx.g ((s.take ((mn (s.length:Int) 20)).toNat).drop 0)=some (r,())/\vR r:=by
 have hmn:0<=mn (s.length:Int) 20/\mn (s.length:Int) 20<=s.length/\mn (s.length:Int) 20<=20:=by unfold mn;split<;>omega
 obtain⟨r,hr,hn⟩:=JD ((s.take ((mn (s.length:Int) 20)).toNat).drop 0) (by simp;omega);exact⟨hmn.1,hmn.2.1,r,hr,hn⟩
abbrev smX(x:Ln):Sm:=⟨x.2.1.1,x.2.1.2.1,x.2.1.2.2.1,x.2.1.2.2.2.1,x.2.1.2.2.2.2.1,x.2.1.2.2.2.2.2.1,x.2.1.2.2.2.2.2.2.1,x.2.1.2.2.2.2.2.2.2.1⟩
def kF(x:Ln):Prop:=(x.1=[]\/vR x.1)/\∃t,GoodS (smX x) t
theorem GD(a:List Ln)(ha:∀x∈a,F5 x)(n:Nat):∀(m i:Nat) (out:List Ln),i<=a.length->i<=20->20-i<m->out.length=i->(∀x∈out,kF x) ->
  ∃r:List Ln,Zbn.l3 n m a out (i:Int)=some (r,())/\r.length<=20/\∀x∈r,kF x:=by
 intro m
 induction m with
 |zero=>intro i out _ _ h;omega
 |succ m ih=>
  intro i out hi h20 hm ho hout;rw[Zbn.l3];simp only[dt,PG];by_cases h:i<a.length
  ·rw[if_pos (by omega)];by_cases h2:i<20
   ·rw[if_pos (by omega),if_pos (by omega)];have hmem:a.getD i zL∈a:=by rw[PD,PH h];exact Qf h
    obtain⟨w1,⟨_,_,_,_,_,_,w2,w3,_⟩,_⟩:=ha _ hmem;generalize a.getD i zL=x at w1 w2 w3;obtain⟨lb,⟨k,o,A,b,c,u,e,nm,_⟩,_⟩:=x;dsimp only at w1 w2 w3⊢;obtain⟨s,t,hf,hg⟩:=OH ⟨k,o,A,b,c,u,e,nm⟩ ⟨xJ w2.1,fun x hx=>⟨(F6 (w2.2 x hx).2.1).1,(F6 (w2.2 x hx).2.1).2,xJ (w2.2 x hx).2.2.1⟩,xJ w3⟩;dsimp only at hf;rw[hf,Pt];unfold smF;dsimp only;rw[if_pos (by omega)];have W1:IntKind.i64.wrap ((i:Int)+1)=((i+1:Nat):Int):=by rw[w64 (by omega)];omega
    have J8:∀lb',(lb'=[]\/vR lb')->∃r:List Ln,Zbn.j8 n (Zbn.l3 n m) a out (i:Int) lb' s.k s.o s.a s.b s.c s.u s.e s.nm=some (r,())/\r.length<=20/\∀x∈r,kF x:=fun lb' hl=>by
     unfold Zbn.j8;rw[if_pos (by simp;omega),W1];refine ih (i+1) _ (by omega) (by omega) (by omega) (by simp[ho]) fun y hy=>?_
     rcases PL.1 hy with hy|hy;·exact hout y hy
     ·rw[PS.1 hy];exact⟨hl,t,hg⟩
    obtain⟨m1,m2,r,hr,hl⟩:=Nr lb (xJ w1);by_cases h3:(2:Int)<(lb.length:Int);·rw[if_pos h3,if_pos (by omega),if_pos (by omega),if_pos ⟨m1,m2⟩,hr,Pt];exact J8 r (.inr hl)
    ·rw[if_neg h3];exact J8 [] (.inl rfl)
   ·rw[if_neg (by omega)];exact⟨out,rfl,by omega,hout⟩
  ·rw[if_neg (by omega)];exact⟨out,rfl,by omega,hout⟩
theorem Pg(a:List Ln)(ha:∀x∈a,F5 x):∃r:List Ln,Zbn.g a=some (r,())/\r.length<=20/\∀x∈r,kF x:=by
 unfold Zbn.g Zbn.f;exact GD a ha _ _ 0 [] (by omega) (by omega) (by omega) rfl fun x hx=>by cases hx
theorem Aw{a:List Ln}{i:Nat}(h:i<a.length):a.getD i zL∈a:=by
 rw[PD,PH h];exact Qf h
theorem jC:∀t:Tr,t.ok->∀y∈t.post,aZ y
 | .num n,h=>fun y hy=>by rw[show y=(1,n,[],()) from PS.1 hy];exact⟨h.1,h.2,rfl⟩
 | .nam s,h=>fun y hy=>by
  rw[show y=(2,0,s,()) from PS.1 hy];refine⟨Int.le_refl _,(by decide:(0:Int)<=4294967295),?_⟩;have h:aK s=true:=h;unfold aj;dsimp only;rw[if_neg (by decide),if_pos rfl,h];rfl
 | .neg x,h=>fun y hy=>by
  rcases PL.1 hy with hy|hy;·exact jC x h y hy
  ·rw[PS.1 hy];exact⟨Int.le_refl _,by decide,rfl⟩
 | .bin o a b,h=>fun y hy=>by
  rcases PL.1 hy with hy|hy
  ·rcases PL.1 hy with hy|hy
   ·exact jC a h.1 y hy
   ·exact jC b h.2 y hy
  ·rw[PS.1 hy];cases o<;>exact⟨Int.le_refl _,by decide,rfl⟩
 | .br x,h=>fun y hy=>jC x h y hy
end Rv
namespace Rv
open Go
theorem ER{s:Str}(h:aK s=true):s≠[]:=by
 intro e;subst e;revert h;decide
theorem jM{s:Str}:∀{l:List Sym}{x:Sym},x∈l->x.1=s->(aN s l).isSome=true
 |y::l,x,hm,hs=>by
  unfold aN;split;·rfl
  ·rename_i hne;rcases PM.1 hm with rfl|hm
   ·exact absurd hs hne
   ·exact jM hm hs
theorem mO:∀{a b:List Item} (t:Int),a.map aj=b.map aj->enough t a=enough t b
 |[],[],_,_=>rfl
 |[],_::_,_,h=>by simp at h
 |_::_,[],_,h=>by simp at h
 |x::a,y::b,t,h=>by
  simp only[PW,List.cons.injEq] at h;unfold enough;rw[h.1];split;·exact mO _ h.2
  ·rfl
theorem Iq{l:List Item}{i:Nat}{x:Item}(hi:i<l.length)(h:aj x=aj (l.getD i ((0:Int),((0:Int),(([]:Str),()))))):(l.set i x).map aj=l.map aj:=by
 rw[List.map_set,h];apply List.ext_getElem?;intro j;rw[List.getElem?_set];split;·rename_i e;subst e;simp[hi,PD]
 ·rfl
theorem take_set{α:Type}{l:List α}{i:Nat}{x:α}(hi:i<l.length):(l.set i x).take (i+1)=l.take i++[x]:=by
 rw[List.take_succ_eq_append_getElem (by simpa using hi)];simp[List.take_set_of_le]
theorem E9(labels:List Sym)(hlab:labels.length<=100)(hg:∀x∈labels,aK x.1=true/\x.1.length<=12)(n:Nat):∀(m i:Nat) (out:List Item),i<=out.length->out.length<=19->out.length-i<m->(∀x∈out,aZ x)->(∀x∈out,x.2.2.1.length<=12)->(∀x∈out.take i,x.1=2->(aN x.2.2.1 labels).isSome=true) ->
  ∃r,Zbe.l3 n m labels out (i:Int)=some (r,())/\r.map aj=out.map aj/\r.length=out.length/\(∀x∈r,aZ x)/\∀x∈r,x.1=2->(aN x.2.2.1 labels).isSome=true:=by
 intro m
 induction m with
 |zero=>intro i out _ _ h;omega
 |succ m ih=>
  intro i out hi h19 hm hgo hnl ht;simp only[Zbe.l3,dt,PG];by_cases h1:i<out.length
  ·have hmem:out.getD i ((0:Int),((0:Int),(([]:Str),())))∈out:=by
    rw[PD,PH h1];exact Qf h1
   have hgx:=hgo _ hmem;have hnx:=hnl _ hmem;have htk:out.take (i+1)=out.take i++[out.getD i ((0:Int),((0:Int),(([]:Str),())))]:=by
    rw[List.take_succ_eq_append_getElem h1,PD,PH h1];rfl
   rw[if_pos (by omega),if_pos (by omega)];have put:∀x:Item,aj x=aj (out.getD i ((0:Int),((0:Int),(([]:Str),()))))->aZ x->x.2.2.1.length<=12->(x.1=2->(aN x.2.2.1 labels).isSome=true)->∃r,Zbe.j4 n (Zbe.l3 n m) labels (out.set i x) (i:Int)=some (r,())/\r.map aj=out.map aj/\r.length=out.length/\(∀x∈r,aZ x)/\∀x∈r,x.1=2->(aN x.2.2.1 labels).isSome=true:=by
    intro x hx hxg hxn hxf;unfold Zbe.j4;rw[w64 (by omega)];obtain⟨r,h1',h2',h3',h4',h5'⟩:=ih (i+1) (out.set i x) (by simp;omega) (by simp;omega) (by simp;omega) (fun y hy=>by
      rcases List.mem_or_eq_of_mem_set hy with hy|rfl;·exact hgo y hy
      ·exact hxg) (fun y hy=>by
      rcases List.mem_or_eq_of_mem_set hy with hy|rfl;·exact hnl y hy
      ·exact hxn) (fun y hy=>by
      rw[take_set h1] at hy;rcases PL.1 hy with hy|hy;·exact ht y hy
      ·rw[PS] at hy;subst hy;exact hxf)
    exact⟨r,h1',by rw[h2',Iq h1 hx],by rw[h3',Qu],h4',h5'⟩
   generalize hxe:out.getD i ((0:Int),((0:Int),(([]:Str),())))=x at *;by_cases h2:x.1=2
   ·rw[if_neg (by simpa using h2)];have hn:aj x=(0,true):=by
     have h3:=hgx.2.2;unfold aj at h3⊢;rw[if_neg (by omega),if_pos h2] at h3⊢;simp only at h3;rw[h3]
    by_cases h0:labels.length=0
    ·rw[if_pos (by omega),if_pos (by omega),if_pos (by omega)];refine put _ ?_ ?_ ?_ ?_
     ·rw[hn];rfl
     ·exact⟨(jH _).1,(jH _).2,rfl⟩
     ·simp
     ·intro h;simp at h
    ·have hx1:IntKind.i64.wrap ((i:Int)+(x.2.2.1.length:Int))=((i+x.2.2.1.length:Nat):Int):=by rw[w64 (by omega)];omega
     have hx2:Int.tmod ((i+x.2.2.1.length:Nat):Int) (labels.length:Int)=(((i+x.2.2.1.length) % labels.length:Nat):Int):=by
      rw[Qa (by omega)];omega
     have hx3:(i+x.2.2.1.length) % labels.length<labels.length:=Nat.mod_lt _ (by omega);rw[if_neg (by omega),if_pos (by omega),if_neg (by omega),hx1,hx2,if_pos (by omega),if_pos (by omega),PG];have hlm:labels.getD ((i+x.2.2.1.length) % labels.length) (([]:Str),((0:Int),()))∈labels:=by
      rw[PD,PH hx3];exact Qf hx3
     generalize labels.getD ((i+x.2.2.1.length) % labels.length) (([]:Str),((0:Int),()))=y at hlm⊢;obtain⟨g1,g2⟩:=hg y hlm;have hx0:x.2.1=0:=by
      have h3:=hgx.2.2;unfold aj at h3;rw[if_neg (by omega),if_pos h2] at h3;simp only[Pz,Px] at h3;exact h3.1
     have hy:aj (x.1,x.2.1,y.1,())=(0,true):=by
      unfold aj;dsimp only;rw[if_neg (by omega),if_pos h2,hx0,g1];rfl
     refine put _ ?_ ?_ ?_ ?_;·rw[hn,hy]
     ·exact⟨hgx.1,hgx.2.1,by rw[hy]⟩
     ·show y.1.length<=12;omega
     ·intro _;exact jM hlm rfl
   ·rw[if_pos (by simpa using h2)];unfold Zbe.j4;rw[w64 (by omega)];obtain⟨r,h1',h2',h3',h4',h5'⟩:=ih (i+1) out (by omega) h19 (by omega) hgo hnl (fun y hy=>by
      rw[htk] at hy;rcases PL.1 hy with hy|hy;·exact ht y hy
      ·rw[PS] at hy;subst hy;exact fun h=>absurd h h2)
    exact⟨r,h1',h2',h3',h4',h5'⟩
  ·rw[if_neg (by omega)];have:out.take i=out:=List.take_of_length_le (by omega);rw[this] at ht;exact⟨out,rfl,rfl,rfl,hgo,ht⟩
theorem AC{x:Item}(h:aZ x):x.2.2.1.length<=12:=by
 have h3:=h.2.2;unfold aj at h3;split at h3;·simp only[Px] at h3;rw[h3];simp
 ·split at h3
  ·simp only[Pz] at h3;have:=h3.2;unfold aK at this;simp only[Pz,Px] at this;exact this.1.1.1.2
  ·split at h3
   ·simp only[Pz,Px] at h3;rw[h3.2];simp
   ·split at h3
    ·simp only[Pz,Px] at h3;rw[h3.2];simp
    ·cases h3
theorem J7(l:List Item)(hl:l.length<=9223372036854775807)(hw:mH l)(labels:List Sym)(hlab:labels.length<=100)(hg:∀x∈labels,aK x.1=true/\x.1.length<=12) :
  ∃e,Zbe.g l labels=some (e,())/\cz e/\e.length<=19/\(∀x∈e,aZ x)/\∀x∈e,x.1=2->(aN x.2.2.1 labels).isSome=true:=by
 unfold Zbe.g Zbe.f;obtain⟨r,hr,hwell,hlen,hgood⟩:=Aq l hl hw;rw[hr,Pt];obtain⟨e,h1,h2,h3,h4,h5⟩:=E9 labels hlab hg (1000+l.length+labels.length) (1000+l.length+labels.length) 0 r (by omega) hlen (by omega) hgood (fun x hx=>AC (hgood x hx)) (fun x hx=>by simp at hx);refine⟨e,h1,?_,by omega,h4,h5⟩;unfold cz;rw[mO 0 h2];exact hwell
end Rv
namespace Rv
open Go
def bI(l:List Ln):List Str:=(l.map (·.1)).filter fun s=>decide (s≠[])
theorem wY(a b:List Ln):bI (a++b)=bI a++bI b:=by unfold bI;rw[Qk,List.filter_append]
theorem CG{x:Ln}(h:x.1=[]):bI [x]=[]:=by simp[bI,h]
theorem EY{x:Ln}(h:x.1≠[]):bI [x]=[x.1]:=by simp[bI,h]
theorem wZ{a b:List Ln}(h:a.map (·.1)=b.map (·.1)):bI a=bI b:=by unfold bI;rw[h]
theorem OD(a:List Ln)(ha:∀x∈a,kF x)(n:Nat):∀(m i:Nat) (out:List Ln) (lb:List Sym),i<=a.length->i<=20->20-i<m->out.length=i->lb.length<=i->lb.map (·.1)=bI out->(bI out).Nodup->(∀x∈out,kF x) ->
  ∃(out':List Ln) (lb':List Sym),Zab.l4 n m a out lb (i:Int)=Zab.l14 n n out' lb' 0/\out'.length<=20/\lb'.length<=20/\lb'.map (·.1)=bI out'/\(bI out').Nodup/\∀x∈out',kF x:=by
 intro m
 induction m with
 |zero=>intro i out lb _ _ h;omega
 |succ m ih=>
  intro i out lb hi h20 hm ho hlb hls hnd hout;rw[Zab.l4];simp only[dt,PG];by_cases h:i<a.length
  ·rw[if_pos (by omega)];by_cases h2:i<20
   ·have hx:=ha _ (Aw h);rw[if_pos (by omega),if_pos (by omega),nK lb _ (by omega),Pt];generalize a.getD i zL=x at hx;have W1:IntKind.i64.wrap ((i:Int)+1)=((i+1:Nat):Int):=by rw[w64 (by omega)];omega
    have J:∀s:Str,(s=[]\/vR s)->(s≠[]->s ∉ bI out)->∃(out':List Ln) (lb':List Sym),Zab.j10 n (Zab.l4 n m) a out lb (i:Int) s x.2.1.1 x.2.1.2.1 x.2.1.2.2.1 x.2.1.2.2.2.1 x.2.1.2.2.2.2.1 x.2.1.2.2.2.2.2.1 x.2.1.2.2.2.2.2.2.1 x.2.1.2.2.2.2.2.2.2.1=Zab.l14 n n out' lb' 0/\out'.length<=20/\lb'.length<=20/\lb'.map (·.1)=bI out'/\(bI out').Nodup/\∀x∈out',kF x:=by
     intro s hs hns;unfold Zab.j10 Zab.j12;rw[W1];have hok:kF (s,(x.2.1.1,x.2.1.2.1,x.2.1.2.2.1,x.2.1.2.2.2.1,x.2.1.2.2.2.2.1,x.2.1.2.2.2.2.2.1,x.2.1.2.2.2.2.2.2.1,x.2.1.2.2.2.2.2.2.2.1,()),()):=⟨hs,hx.2⟩
     generalize hl:((s,(x.2.1.1,x.2.1.2.1,x.2.1.2.2.1,x.2.1.2.2.2.1,x.2.1.2.2.2.2.1,x.2.1.2.2.2.2.2.1,x.2.1.2.2.2.2.2.2.1,x.2.1.2.2.2.2.2.2.2.1,()),()):Ln)=y at hok;have hy:y.1=s:=by rw[<- hl]
     have hout':∀z∈out++[y],kF z:=fun z hz=>by
      rcases PL.1 hz with hz|hz;·exact hout z hz
      ·rw[PS.1 hz];exact hok
     by_cases he:s=[]
     ·rw[if_neg (by simpa using he),if_pos (by simp;omega)];have e:bI (out++[y])=bI out:=by rw[wY,CG (by rw[hy];exact he),Qm]
      exact ih (i+1) _ lb (by omega) (by omega) (by omega) (by simp[ho]) (by omega) (by rw[e];exact hls) (by rw[e];exact hnd) hout'
     ·rw[if_pos (by simpa using he),if_pos (by simp;omega),if_pos (by simp;omega)];have e:bI (out++[y])=bI out++[s]:=by rw[wY,EY (by rw[hy];exact he),hy]
      refine ih (i+1) _ _ (by omega) (by omega) (by omega) (by simp[ho]) (by simp;omega) (by rw[e,Qk,hls];rfl) ?_ hout';rw[e,List.nodup_append];refine⟨hnd,by simp,fun u hu v hv=>?_⟩;rw[PS.1 hv];intro huv;subst huv;exact hns he hu
    dsimp only;by_cases hf:(aN x.1 lb).isSome=true;·rw[if_pos hf];exact J [] (.inl rfl) (fun h=>absurd rfl h)
    ·rw[if_neg hf];refine J x.1 hx.1 fun _ hm=>?_
     rw[<- hls] at hm;exact yK (by simpa using hf) hm
   ·rw[if_neg (by omega)];exact⟨out,lb,rfl,by omega,by omega,hls,hnd,hout⟩
  ·rw[if_neg (by omega)];exact⟨out,lb,rfl,by omega,by omega,hls,hnd,hout⟩
theorem Cw{α:Type}{l:List α}{i:Nat}{x d:α}(h:i<l.length):(l.set i x).getD i d=x:=by
 simp[PD,h]
theorem getD_set_ne{α:Type}{l:List α}{i j:Nat}{x d:α}(h:i≠j):(l.set i x).getD j d=l.getD j d:=by
 simp[PD,List.getElem?_set_ne h]
theorem E5{α β:Type}{l:List α}{i:Nat}{x d:α}{f:α->β}(hi:i<l.length)(h:f x=f (l.getD i d)):(l.set i x).map f=l.map f:=by
 rw[List.map_set,h];apply List.ext_getElem?;intro j;rw[List.getElem?_set];split;·rename_i e;subst e;simp[hi,PD]
 ·rfl
def lL(lb:List Sym)(x:Ln):Prop:=
 kF x/\(eL x).length<=19/\(∀y∈eL x,y.2.1<50)/\(∀y∈eL x,y.1=2->(aN y.2.2.1 lb).isSome=true)/\(x.2.1.1=10->(aN x.2.1.2.2.2.2.2.2.2.1 lb).isSome=true) /\
  ((x.2.1.1=7\/x.2.1.1=8)->lb≠[]->∃s,(aN s lb).isSome=true/\eL x=[(2,0,s,())])
def md(y:Item):Item:=(y.1,Int.tmod y.2.1 50,y.2.2.1,())
theorem AZ{y:Item}(h:aZ y):aj (md y)=aj y/\0<=(md y).2.1/\(md y).2.1<50:=by
 have e:(md y).2.1=y.2.1 % 50:=Qa h.1;refine⟨?_,by rw[e];omega,by rw[e];omega⟩;have hb:=h.2.2;have h0:y.2.1=0->(md y).2.1=0:=fun h0=>by rw[e,h0];rfl
 unfold aj at hb⊢;show(if y.1=1 then _ else if y.1=2 then(0,decide ((md y).2.1=0)&&aK y.2.2.1) else if y.1=3 then(1,decide ((md y).2.1=0)&&decide (y.2.2.1=[])) else if y.1=4\/y.1=5\/y.1=6 then(2,decide ((md y).2.1=0)&&decide (y.2.2.1=[])) else _)=_;by_cases h1:y.1=1;·rw[if_pos h1,if_pos h1];rfl
 ·rw[if_neg h1] at hb;rw[if_neg h1,if_neg h1];by_cases h2:y.1=2
  ·rw[if_pos h2] at hb;simp only[Pz,Px] at hb;rw[if_pos h2,if_pos h2,h0 hb.1,hb.1]
  ·rw[if_neg h2] at hb;rw[if_neg h2,if_neg h2];by_cases h3:y.1=3
   ·rw[if_pos h3] at hb;simp only[Pz,Px] at hb;rw[if_pos h3,if_pos h3,h0 hb.1,hb.1]
   ·rw[if_neg h3] at hb;rw[if_neg h3,if_neg h3];by_cases h4:y.1=4\/y.1=5\/y.1=6
    ·rw[if_pos h4] at hb;simp only[Pz,Px] at hb;rw[if_pos h4,if_pos h4,h0 hb.1,hb.1]
    ·rw[if_neg h4,if_neg h4]
theorem NS(n:Nat)(rl)(a:List Ln)(b:List Sym)(c k o A B C:Int)(u:Bool)(e0:List Item)(nm:Str):∀(m i:Nat) (d:List Item),i<=d.length->d.length<=19->d.length-i<m ->
  Zab.l20 n rl m a b c d (i:Int) k o A B C u e0 nm=Zab.l20 n rl 1 a b c (d.take i++(d.drop i).map md) (d.length:Int) k o A B C u e0 nm:=by
 intro m
 induction m with
 |zero=>intro i d _ _ h;omega
 |succ m ih=>
  intro i d hi h19 hm;by_cases h:i<d.length
  ·have hd:d.drop i=d.getD i zI::d.drop (i+1):=by
    rw[P6 h,PD,PH h];rfl
   conv=>lhs;rw[Zab.l20]
   simp only[dt,PG];rw[if_pos (by omega),if_pos (by omega),if_pos (by omega),w64 (by omega),show(i:Int)+1=((i+1:Nat):Int) by omega];show Zab.l20 n rl m a b c (d.set i (md (d.getD i zI))) ((i+1:Nat):Int) k o A B C u e0 nm=_;rw[ih (i+1) _ (by simp;omega) (by simp;omega) (by simp;omega),take_set h,Qu,List.drop_set_of_lt (by omega),hd];simp
  ·obtain rfl:i=d.length:=by omega
   have e:d.take d.length++(d.drop d.length).map md=d:=by simp
   rw[e]
   conv=>lhs;rw[Zab.l20]
   conv=>rhs;rw[Zab.l20]
   simp only[dt];rw[if_neg (show ¬((d.length:Int)<(d.length:Int)) by omega),if_neg (show ¬((d.length:Int)<(d.length:Int)) by omega)]
theorem Pp{s:Sm}{t0 t':Tr}(h:GoodS s (some t0))(ht:sQ t'):GoodS ⟨s.k,s.o,s.a,s.b,s.c,s.u,t'.post,s.nm⟩ (some t'):=by
 cases h with
 |ins1 h hk _=>exact .ins1 h hk ht
 |load h _=>exact .load h ht
 |word _=>exact .word ht
theorem GI{s:Sm}{t0:Tr}(h:GoodS s (some t0)):s.k≠10:=by
 cases h with
 |@ins1 k o a b c u t h hk _=>exact(by omega:k≠10)
 |load h _=>exact(by decide:(8:Int)≠10)
 |word _=>exact(by decide:(9:Int)≠10)
theorem noI{p:Item->Prop}:∀y∈([]:List Item),p y:=fun y hy=>by cases hy
theorem ML{s:Str}(h:aK s=true)(h2:bt s 0≠95):bW s=true:=by
 unfold aK at h;simp only[Pz,Px] at h;obtain⟨⟨⟨⟨h1,h3⟩,h4⟩,h5⟩,h6⟩:=h;unfold bW;simp only[Pz,Px];refine⟨⟨⟨⟨h1,h3⟩,?_⟩,h6⟩,h5⟩
 match s,h1 with
 |c::r,_=>
  have hw:isW c=true:=(PX.1 h5) c (by simp);have h2:¬((c.toNat:Int)=95):=h2;unfold isW at hw;rw[wW] at hw;have hd:isD c=false:=by simpa using h4
  rw[hd] at hw;have h95:decide (c.toNat=95)=false:=by rw[decide_eq_false_iff_not];omega
  rw[h95] at hw;simpa using hw
theorem OE(lb:List Sym)(hlb:lb.length<=20)(hg:∀x∈lb,vR x.1)(n:Nat)(hn:100<=n):∀(m i:Nat) (out:List Ln),i<=out.length->out.length<=20->out.length-i<m->(∀x∈out,kF x)->(∀j,j<i->lL lb (out.getD j zL)) ->
  ∃r:List Ln,Zab.l14 n m out lb (i:Int)=some (r,())/\r.map (·.1)=out.map (·.1)/\r.length=out.length/\∀j,j<r.length->lL lb (r.getD j zL):=by
 intro m
 induction m with
 |zero=>intro i out _ _ h;omega
 |succ m ih=>
  intro i out hi h20 hm hout hnear;rw[Zab.l14];simp only[dt,PG];by_cases h:i<out.length
  ·have hx:=hout _ (Aw h);rw[if_pos (by omega),if_pos (by omega)];have W1:IntKind.i64.wrap ((i:Int)+1)=((i+1:Nat):Int):=by rw[w64 (by omega)];omega
   have J36:∀(k o A B C:Int) (u:Bool) (e:List Item) (nm:Str),lL lb ((out.getD i zL).1,(k,o,A,B,C,u,e,nm,()),())->∃r:List Ln,Zab.j36 n (Zab.l14 n m) out lb (i:Int) k o A B C u e nm=some (r,())/\r.map (·.1)=out.map (·.1)/\r.length=out.length/\∀j,j<r.length->lL lb (r.getD j zL):=by
    intro k o A B C u e nm hN;unfold Zab.j36;rw[if_pos (by omega),PG,W1];obtain⟨r,h1,h2,h3,h4⟩:=ih (i+1) (out.set i ((out.getD i zL).1,(k,o,A,B,C,u,e,nm,()),())) (by simp;omega) (by simp;omega) (by simp;omega) (fun y hy=>by
     rcases List.mem_or_eq_of_mem_set hy with hy|rfl;·exact hout y hy
     ·exact hN.1) (fun j hj=>by
     by_cases hij:i=j;·subst hij;rw[Cw h];exact hN
     ·rw[getD_set_ne hij];exact hnear j (by omega))
    exact⟨r,h1,by rw[h2];exact E5 (d:=zL) h rfl,by rw[h3,Qu],h4⟩
   generalize hxe:out.getD i zL=x at hx J36;obtain⟨hl,t,hgs⟩:=hx;cases t with
   |none=>
    have he:eL x=[]:=(kZ hgs).2.1;have he':x.2.1.2.2.2.2.2.2.1=[]:=he;rw[he',if_neg (by simp)];unfold Zab.j27;by_cases h10:x.2.1.1=10
    ·rw[if_pos (by simpa using h10)];have l30:∀(q m' d:Nat) (nm:Str),d<=lb.length->lb.length-d<m'->(nm=[]\/(bW nm=true/\(aN nm lb).isSome=true)) ->
       ∃r:List Ln,Zab.l30 n (Zab.l14 n m) m' out lb (i:Int) (d:Int) x.2.1.1 x.2.1.2.1 x.2.1.2.2.1 x.2.1.2.2.2.1 x.2.1.2.2.2.2.1 x.2.1.2.2.2.2.2.1 [] nm=some (r,())/\r.map (·.1)=out.map (·.1)/\r.length=out.length/\∀j,j<r.length->lL lb (r.getD j zL):=by
      intro q m'
      induction m' with
      |zero=>intro d nm _ h;omega
      |succ m' ih2=>
       intro d nm hd hm' hnm;rw[Zab.l30];simp only[dt,PG];by_cases hd2:d<lb.length
       ·have hmem:lb.getD d (([]:Str),((0:Int),()))∈lb:=by
         rw[PD,PH hd2];exact Qf hd2
        have hy:=hg _ hmem;have hfy:=jM hmem rfl;generalize lb.getD d (([]:Str),((0:Int),()))=y at hy hfy;have hy0:=ER hy.1;have hyl:0<y.1.length:=List.length_pos_iff.2 hy0;have W2:IntKind.i64.wrap ((d:Int)+1)=((d+1:Nat):Int):=by rw[w64 (by omega)];omega
        have J31:∀nm',(nm'=[]\/(bW nm'=true/\(aN nm' lb).isSome=true))->∃r:List Ln,Zab.j31 n (Zab.l14 n m) (Zab.l30 n (Zab.l14 n m) m') out lb (i:Int) (d:Int) x.2.1.1 x.2.1.2.1 x.2.1.2.2.1 x.2.1.2.2.2.1 x.2.1.2.2.2.2.1 x.2.1.2.2.2.2.2.1 [] nm'=some (r,())/\r.map (·.1)=out.map (·.1)/\r.length=out.length/\∀j,j<r.length->lL lb (r.getD j zL):=fun nm' hn'=>by
         unfold Zab.j31;rw[W2];exact ih2 (d+1) nm' (by omega) (by omega) hn'
        rw[if_pos (by omega),if_pos (by omega),if_pos (by omega)];by_cases h95:bt y.1 0≠95
        ·rw[if_pos h95];by_cases hq:nm=[]
         ·rw[if_pos hq,if_pos (by omega)];exact J31 y.1 (.inr ⟨ML hy.1 h95,hfy⟩)
         ·rw[if_neg hq];exact J31 nm hnm
        ·rw[if_neg h95];exact J31 nm hnm
       ·rw[if_neg (by omega)];by_cases hq:nm=[]
        ·rw[if_pos hq];exact J36 0 0 0 0 0 false [] [] ⟨⟨hl,none,.none⟩,Nat.zero_le _,noI,noI,fun h=>absurd (show(0:Int)=10 from h) (by decide),fun h=>absurd (show(0:Int)=7\/(0:Int)=8 from h) (by decide)⟩
        ·rw[if_neg hq];obtain⟨hq1,hq2⟩:=hnm.resolve_left hq;refine J36 x.2.1.1 x.2.1.2.1 x.2.1.2.2.1 x.2.1.2.2.2.1 x.2.1.2.2.2.2.1 x.2.1.2.2.2.2.2.1 [] nm ⟨⟨hl,none,?_⟩,Nat.zero_le _,noI,noI,fun _=>hq2,fun h=>absurd (show x.2.1.1=7\/x.2.1.1=8 from h) (by omega)⟩;have:∀s:Sm,GoodS s none->s.k=10->GoodS ⟨s.k,s.o,s.a,s.b,s.c,s.u,[],nm⟩ none:=fun s hs hk=>by
          cases hs with
          |none=>simp at hk
          |ins0 h hk2=>simp only at hk;omega
          |exp _=>exact .exp hq1
         exact this _ hgs h10
     exact l30 0 n 0 [] (by omega) (by omega) (.inl rfl)
    ·rw[if_neg (by simpa using h10)];refine J36 _ _ _ _ _ _ _ _ ⟨⟨hl,none,by rw[<- he'];exact hgs⟩,Nat.zero_le _,noI,noI,fun h=>absurd h h10,fun h=>?_⟩;exfalso;have:∀s:Sm,GoodS s none->¬(s.k=7\/s.k=8):=fun s hs=>by
      cases hs with
      |none=>simp
      |ins0 h hk2=>simp only;omega
      |exp _=>simp
     exact this _ hgs h
   |some t0=>
    have he:eL x=t0.post:=(kZ hgs).2.1;have ht0:=(kZ hgs).2.2 t0 rfl;have he':x.2.1.2.2.2.2.2.2.1=t0.post:=he;have hk10:x.2.1.1≠10:=GI hgs;have hpos:=t0.post_pos;have hgood:=jC t0 ht0.1;obtain⟨e1,n1,n2,n3,n4,n5⟩:=J7 t0.post (by have:=ht0.2.2.2;omega) (fun y hy=>⟨(hgood y hy).1,(hgood y hy).2.1,by have:=AC (hgood y hy);omega⟩) lb (by omega) (fun y hy=>⟨(hg y hy).1,by have:=(hg y hy).2.1;omega⟩);rw[he',if_pos (by omega),n1,Pt];dsimp only;have hl20:=NS n (Zab.l14 n m) out lb (i:Int) x.2.1.1 x.2.1.2.1 x.2.1.2.2.1 x.2.1.2.2.2.1 x.2.1.2.2.2.2.1 x.2.1.2.2.2.2.2.1 t0.post x.2.1.2.2.2.2.2.2.2.1 n 0 e1 (by omega) n3 (by omega);rw[show((0:Nat):Int)=0 from rfl,Qw,PV,Qi] at hl20;rw[hl20];have q1:∀y∈e1.map md,aZ y/\y.2.1<50/\(y.1=2->(aN y.2.2.1 lb).isSome=true):=fun y hy=>by
     obtain⟨z,hz,rfl⟩:=P5.1 hy;obtain⟨g1,g2,g3⟩:=AZ (n4 z hz);exact⟨⟨g2,by omega,by rw[g1];exact(n4 z hz).2.2⟩,g3,n5 z hz⟩
    have q2:cz (e1.map md):=by
     unfold cz;rw[mO 0 (b:=e1)];·exact n2
     ·rw[List.map_map];exact List.map_congr_left fun y hy=>(AZ (n4 y hy)).1
    have q3:(e1.map md).length<=19:=by rw[Qj];exact n3
    have hlen:(e1.length:Int)=((e1.map md).length:Int):=by rw[Qj]
    rw[hlen];generalize e1.map md=e2 at q1 q2 q3;have fin:∀e,cz e->e.length<=19->(∀y∈e,aZ y/\y.2.1<50/\(y.1=2->(aN y.2.2.1 lb).isSome=true))->((x.2.1.1=7\/x.2.1.1=8)->lb≠[]->∃s,(aN s lb).isSome=true/\e=[(2,0,s,())]) ->
      ∃r:List Ln,Zab.j26 n (Zab.l14 n m) out lb (i:Int) e x.2.1.1 x.2.1.2.1 x.2.1.2.2.1 x.2.1.2.2.2.1 x.2.1.2.2.2.2.1 x.2.1.2.2.2.2.2.1 t0.post x.2.1.2.2.2.2.2.2.2.1=some (r,())/\r.map (·.1)=out.map (·.1)/\r.length=out.length/\∀j,j<r.length->lL lb (r.getD j zL):=by
     intro e w1 w2 w3 w4;unfold Zab.j26 Zab.j27;rw[if_neg (by simpa using hk10)];obtain⟨t',rfl,p1,p2⟩:=yw w1 fun y hy=>(w3 y hy).1
     exact J36 _ _ _ _ _ _ _ _ ⟨⟨hl,some t',Pp hgs ⟨p1,p2,w1,by omega⟩⟩,w2,fun y hy=>(w3 y hy).2.1,fun y hy=>(w3 y hy).2.2,fun h=>absurd h hk10,w4⟩
    have J24:∀jump:Bool,((x.2.1.1=7\/x.2.1.1=8)->jump=true)->∃r:List Ln,Zab.j24 n (Zab.l14 n m) out lb (i:Int) e2 jump x.2.1.1 x.2.1.2.1 x.2.1.2.2.1 x.2.1.2.2.2.1 x.2.1.2.2.2.2.1 x.2.1.2.2.2.2.2.1 t0.post x.2.1.2.2.2.2.2.2.2.1=some (r,())/\r.map (·.1)=out.map (·.1)/\r.length=out.length/\∀j,j<r.length->lL lb (r.getD j zL):=by
     intro jump hj;unfold Zab.j24;simp only[dt];by_cases hjt:jump=true
     ·rw[if_pos hjt];by_cases hl0:0<lb.length
      ·have ht:Int.tmod (e2.length:Int) (lb.length:Int)=((e2.length % lb.length:Nat):Int):=by
        rw[Qa (by omega)];omega
       have hlt:e2.length % lb.length<lb.length:=Nat.mod_lt _ hl0;rw[if_pos (by omega),if_neg (by omega),ht,if_pos (by omega),PG];have hmem:lb.getD (e2.length % lb.length) (([]:Str),((0:Int),()))∈lb:=by
        rw[PD,PH hlt];exact Qf hlt
       generalize lb.getD (e2.length % lb.length) (([]:Str),((0:Int),()))=y at hmem;have hfy:=jM hmem rfl;have hgi:aZ ((2:Int),0,y.1,()):=⟨Int.le_refl _,(by decide:(0:Int)<=4294967295),by
        unfold aj;dsimp only;rw[if_neg (by decide),if_pos rfl,(hg y hmem).1];rfl⟩
       refine fin _ ?_ (by simp) (fun z hz=>?_) (fun _ _=>⟨y.1,hfy,rfl⟩)
       ·show enough 0 [((2:Int),0,y.1,())]=some 1;have hn:aj ((2:Int),0,y.1,())=(0,true):=by
         unfold aj;dsimp only;rw[if_neg (by decide),if_pos rfl,(hg y hmem).1];rfl
        unfold enough;rw[hn];rfl
       ·rw[PS.1 hz];exact⟨hgi,(by decide:(0:Int)<50),fun _=>hfy⟩
      ·rw[if_neg (by omega)];exact fin e2 q2 q3 q1 fun _ hne=>absurd (List.length_eq_zero_iff.1 (by omega)) hne
     ·rw[if_neg hjt];exact fin e2 q2 q3 q1 fun hk _=>absurd (hj hk) hjt
    rw[Zab.l20];simp only[dt,df];rw[if_neg (by omega)];by_cases h7:x.2.1.1=7;·rw[if_neg (by simpa using h7)];exact J24 true fun _=>rfl
    ·rw[if_pos h7];by_cases h8:x.2.1.1=8
     ·rw[if_neg (by simpa using h8)];exact J24 true fun _=>rfl
     ·rw[if_pos h8];by_cases h9:x.2.1.1=9
      ·rw[if_pos h9];exact J24 _ fun hk=>by omega
      ·rw[if_neg h9];exact J24 false fun hk=>by omega
  ·obtain rfl:i=out.length:=by omega
   rw[if_neg (by omega)];exact⟨out,rfl,rfl,rfl,hnear⟩
structure O1 (w:List Ln):Prop where
 len:w.length<=20
 nd:(bI w).Nodup
 ln:∃lb:List Sym,lb.map (·.1)=bI w/\∀x∈w,lL lb x
theorem OI(a:List Ln)(ha:∀x∈a,kF x):∃w,Zab.g a=some (w,())/\O1 w:=by
 unfold Zab.g Zab.f;obtain⟨out,lb,h1,h2,h3,h4,h5,h6⟩:=OD a ha (1000+a.length) (1000+a.length) 0 [] [] (by omega) (by omega) (by omega) rfl (by simp) rfl (by simp[bI]) (fun x hx=>by cases hx);have hlb:∀x∈lb,vR x.1:=fun x hx=>by
  have hm:x.1∈bI out:=by rw[<- h4];exact List.mem_map_of_mem hx
  unfold bI at hm;rw[Qn] at hm;obtain⟨hm,hne⟩:=hm;obtain⟨y,hy,hxy⟩:=P5.1 hm;rw[<- hxy] at hne⊢;exact(h6 y hy).1.resolve_left (by simpa using hne)
 obtain⟨r,g1,g2,g3,g4⟩:=OE lb h3 hlb (1000+a.length) (by omega) (1000+a.length) 0 out (by omega) h2 (by omega) h6 (fun j hj=>by omega);refine⟨r,h1.trans g1,by omega,by rw[wZ g2];exact h5,lb,by rw[wZ g2];exact h4,fun x hx=>?_⟩;obtain⟨j,hj,rfl⟩:=List.getElem_of_mem hx;have:=g4 j hj;rw[PD,PH hj] at this;exact this
end Rv
namespace Rv
open Go
theorem qh(lb:List Sym):∀(l:List Ln) (i:Nat) (p0:List Val) {p},cu lb l i p0=.ok p->p0.Nodup->p.Nodup/\(∀v∈p0,v∈p)/\(∀x∈l,x.2.1.1=8->(vOf lb (eL x)).2.2.1=0/\((vOf lb (eL x)).1,(vOf lb (eL x)).2.1,())∈p) /\
  p.length<=p0.length+(l.filter fun x=>decide (x.2.1.1=8)).length
 |[],_,p0,p,h,hn=>by
  rw[cu] at h;cases h;exact⟨hn,fun v hv=>hv,fun x hx=>(by cases hx),by simp⟩
 |x::l,i,p0,p,h,hn=>by
  rw[cu] at h;by_cases h8:x.2.1.1=8
  ·rw[if_pos h8] at h;split at h
   ·cases h
   ·split at h
    ·cases h
    ·rename_i h1 h2;have hadd:(jY p0 ((vOf lb (eL x)).1,(vOf lb (eL x)).2.1,())).Nodup/\((vOf lb (eL x)).1,(vOf lb (eL x)).2.1,())∈jY p0 ((vOf lb (eL x)).1,(vOf lb (eL x)).2.1,())/\(∀v∈p0,v∈jY p0 ((vOf lb (eL x)).1,(vOf lb (eL x)).2.1,()))/\(jY p0 ((vOf lb (eL x)).1,(vOf lb (eL x)).2.1,())).length<=p0.length+1:=by
      unfold jY;split;·rename_i hm;exact⟨hn,hm,fun v hv=>hv,by omega⟩
      ·rename_i hm;refine⟨?_,by simp,fun v hv=>by simp[hv],by simp⟩;rw[List.nodup_append];exact⟨hn,by simp,fun a ha b hb e=>by rw[PS.1 hb] at e;subst e;exact hm ha⟩
     obtain⟨g1,g2,g3,g4⟩:=qh lb l (i+1) _ h hadd.1;refine⟨g1,fun v hv=>g2 v (hadd.2.2.1 v hv),fun y hy hy8=>?_,?_⟩
     ·rcases PM.1 hy with rfl|hy
      ·exact⟨by simpa using h1,g2 _ hadd.2.1⟩
      ·exact g3 y hy hy8
     ·have hq:=Qd g4 (Nat.add_le_add_right hadd.2.2.2 _);rw[List.filter_cons_of_pos (by simpa using h8),P9];omega
  ·rw[if_neg h8] at h;obtain⟨g1,g2,g3,g4⟩:=qh lb l (i+1) _ h hn;refine⟨g1,g2,fun y hy hy8=>?_,?_⟩
   ·rcases PM.1 hy with rfl|hy
    ·exact absurd hy8 h8
    ·exact g3 y hy hy8
   ·rw[List.filter_cons_of_neg (by simpa using h8)];exact g4
end Rv
namespace Rv
open Go
def ic(lb:List Sym)(q:List Val)(fr wd:Int)(t:List Int):List Ln->Nat->WrT->Except (Nat×Int) WrT
 |[],_,r=>.ok r
 |x::l,i,r=>match lI lb q fr wd x.2.1 (t.getD i 0) r with
  | .error e=>.error (i+1,e)
  | .ok r'=>ic lb q fr wd t l (i+1) r'
def gV:List Val->WrT->WrT
 |[],r=>r
 |v::l,r=>gV l (jy r v.1 (decide (v.2.1=1)))
abbrev Ab:=List Int×List Int×List Sym×Int×Int×Unit
def lM(i:Int)(e:Int):Ab:=([],[],[],i,e,())
def pY(r:WrT):Ab:=if 64<r.2.2.length then lM 0 2 else(r.1,r.2.1,r.2.2,0,0,())
def Fb(p:wy)(l:List Ln):Ab:=
 if p.2.2.2.2.2.2.1≠0 then lM p.2.2.2.2.2.1 p.2.2.2.2.2.2.1
 else match ic p.2.1 p.2.2.1 p.2.2.2.1 p.2.2.2.2.1 p.1 l 0 ([],[],[]) with
  | .error x=>lM (x.1:Int) x.2
  | .ok r=>pY (gV p.2.2.1 r)
def pJ(l:List Ln):Ab:=Fb (bG l) l
theorem Jy{k o a b c:Int}{v:Int×Int×Unit}{u:Bool}{x:Int}(h:iF k o a b c v u=.error x):x≠0:=by
 unfold iF at h;split at h;·rename_i h1;cases h;exact h1
 ·exact Dn _ _ _ _ _ _ _ h
theorem Ch{lb:List Sym}{q:List Val}{fr wd:Int}{s:Snt}{pl x:Int}(h:qR lb q fr wd s pl=.error x):x≠0:=by
 unfold qR at h
 repeat' split at h
 all_goals first
  |exact Jy h
  |exact Dn _ _ _ _ _ _ _ h
  |(cases h;assumption)
  |cases h
structure WOk (r:WrT) (i:Nat):Prop where
 w:r.1.length<=i
 s:r.2.1.length<=i
 y:r.2.2.length<=i
 o:iE r.2.2
theorem o5{r:WrT}{i:Nat}(h:WOk r i)(v:Int)(b:Bool):WOk (jy r v b) (i+1):=by
 refine⟨by have:=h.w;simp[jy];omega,?_,by have:=h.y;show r.2.2.length<=_;omega,h.o⟩;have:=h.s;unfold jy;dsimp only;split;·simp;omega
 ·omega
theorem yI{lb:List Sym}{nm:Str}{y y':List Sym}(h:jA lb nm y=.ok y'):bW nm=true/\(aN nm lb).isSome=true/\mR y nm=false/\y'=kD y (nm,(aN nm lb).getD 0,()):=by
 unfold jA at h;split at h;·cases h
 ·split at h
  ·cases h
  ·split at h
   ·cases h
   ·rename_i h1 h2 h3;cases h;exact⟨by simpa using h1,(Bool.not_eq_false _).mp h2,by simpa using h3,rfl⟩
theorem DD{lb:List Sym}{q:List Val}{fr wd:Int}{s:Snt}{pl:Int}{r r':WrT}{i:Nat}(hr:WOk r i)(h:lI lb q fr wd s pl r=.ok r'):WOk r' (i+1):=by
 unfold lI at h;split at h;·cases h;exact⟨by have:=hr.w;omega,by have:=hr.s;omega,by have:=hr.y;omega,hr.o⟩
 ·split at h
  ·split at h
   ·cases h
   ·rename_i y hy;cases h;obtain⟨_,_,h3,rfl⟩:=yI hy;exact⟨by have:=hr.w;show r.1.length<=_;omega,by have:=hr.s;show r.2.1.length<=_;omega,by have:=hr.y;show(kD _ _).length<=_;rw[Dv];omega,wV hr.o h3⟩
  ·split at h
   ·cases h
   ·cases h;exact o5 hr _ _
theorem JV{lb:List Sym}{q:List Val}{fr wd:Int}{s:Snt}{pl x:Int}{r:WrT}(h:lI lb q fr wd s pl r=.error x):x≠0:=by
 unfold lI at h;split at h;·cases h
 ·split at h
  ·split at h
   ·rename_i e he;cases h;unfold jA at he;split at he
    ·cases he;decide
    ·split at he
     ·cases he;decide
     ·split at he
      ·cases he;decide
      ·cases he
   ·cases h
  ·split at h
   ·rename_i e he;cases h;exact Ch he
   ·cases h
theorem Bj:∀(l:List Val) {r:WrT} {i:Nat},WOk r i->WOk (gV l r) (i+l.length)
 |[],_,_,h=>h
 |v::l,r,i,h=>by
  have:=Bj l (o5 h v.1 (decide (v.2.1=1)));rw[P9,show i+(l.length+1)=i+1+l.length by omega];exact this
theorem AU{lb:List Sym}{q:List Val}{fr wd:Int}{t:List Int}:∀{l:List Ln}{i j:Nat}{r r':WrT},WOk r j->ic lb q fr wd t l i r=.ok r'->WOk r' (j+l.length)
 |[],_,_,_,_,h,e=>by cases e;exact h
 |x::l,i,j,r,r',h,e=>by
  rw[ic] at e;split at e;·cases e
  ·rename_i r1 h1;have:=AU (DD h h1) e;rw[P9,show j+(l.length+1)=j+1+l.length by omega];exact this
section
variable(t:List Int)(lb:List Sym)(q:List Val)(fr wd:Int)
abbrev zV:Val:=((0:Int),((0:Int),()))
theorem Gp{q:List Val}{i:Nat}(h:i<q.length):q.drop i=q.getD i zV::q.drop (i+1):=by
 rw[P6 h,PD,PH h];rfl
theorem O6(hq:q.length<=1000000)(n:Nat)(d e:List Int)(y:List Sym):∀(m i j:Nat) (r:WrT),i<=q.length->q.length-i<m->WOk r j->j+q.length<=1000000+i ->
  Zbi.l14 n m q (q.length:Int) (i:Int) d e y t lb q fr wd r.1 r.2.1 r.2.2=some (pY (gV (q.drop i) r)):=by
 intro m
 induction m with
 |zero=>intro i _ _ _ h;omega
 |succ m ih=>
  intro i j r hi hm hr hj;rw[Zbi.l14];simp only[dt,PG];by_cases h:i<q.length;·have h1:=hr.w;have h2:=hr.s;rw[if_pos (by omega),if_pos (by omega),Gp h,gV,vB t lb q fr wd r (by omega) (by omega),Pt];dsimp only;rw[w64 (by omega),show(i:Int)+1=((i+1:Nat):Int) by omega];exact ih (i+1) (j+1) _ (by omega) (by omega) (o5 hr _ _) (by omega)
  ·obtain rfl:i=q.length:=by omega
   rw[if_neg (by omega),PZ,gV];unfold pY lM;by_cases h6:64<r.2.2.length;·rw[if_pos (by omega),if_pos h6]
   ·rw[if_neg (by omega),if_neg h6]
theorem al7(l:List Ln)(hl:l.length<=1000)(he:∀x∈l,(eL x).length<=4611686018427387904)(ht:t.length=l.length)(hlb:lb.length<=1000000)(hq:q.length<=1000)(n:Nat)(hn2:q.length<n)(d e:List Int)(y:List Sym) :
  ∀(m i:Nat) (r:WrT),i<=l.length->l.length-i<m->WOk r i ->
  Zbi.l7 n m l (l.length:Int) (i:Int) d e y t lb q fr wd t lb q fr wd r.1 r.2.1 r.2.2=some (match ic lb q fr wd t (l.drop i) i r with | .error x=>lM (x.1:Int) x.2 | .ok r=>pY (gV q r)):=by
 intro m
 induction m with
 |zero=>intro i _ _ h;omega
 |succ m ih=>
  intro i r hi hm hr;rw[Zbi.l7];simp only[dt,PG];by_cases h:i<l.length
  ·have h1:=hr.w;have h2:=hr.s;have h3:=hr.y;rw[if_pos (by omega),if_pos (by omega),if_pos (by omega),ma h,ic];have hx:=he _ (oL h);generalize l.getD i zL=x at hx⊢;rw[I7 t lb q fr wd r (by omega) (by omega) hr.o (by omega) hlb (by omega) x.2.1 hx,Pt];cases hA:lI lb q fr wd x.2.1 (t.getD i 0) r with
   |error e=>
    refine(if_pos (show(vT t lb q fr wd r (Except.error e)).1≠0 from JV hA)).trans ?_;rw[w64 (by omega),show(i:Int)+1=((i+1:Nat):Int) by omega];rfl
   |ok r'=>
    refine(if_neg (show ¬((vT t lb q fr wd r (Except.ok r')).1≠0) from fun h=>h rfl)).trans ?_;rw[w64 (by omega),show(i:Int)+1=((i+1:Nat):Int) by omega];exact ih (i+1) r' (by omega) (by omega) (DD hr hA)
  ·obtain rfl:i=l.length:=by omega
   rw[if_neg (by omega),PZ,ic];have:=O6 t lb q fr wd (by omega) n d e y n 0 l.length r (by omega) (by omega) hr (by omega);rw[PV] at this;exact this
end
theorem oq(l:List Ln)(h:(bG l).2.2.2.2.2.2.1=0):(bG l).1.length=l.length/\(bG l).2.1.length<=l.length/\(bG l).2.2.1.length<=l.length /\
  ∃r p,bX l 0 [] [] 0=.ok r/\cu r.2.1 l 0 []=.ok p/\r.2.2+p.length<=1024/\bG l=(r.1,r.2.1,p,((4*r.2.2:Nat):Int),((r.2.2+p.length:Nat):Int),0,0,()):=by
 rcases Fj l with⟨x,hx,h0,_⟩|⟨r,p,h1,h2,h3⟩;·rw[hx] at h;exact absurd h h0
 ·have a:=lQ l 0 [] [] 0 h1;have b:=nN r.2.1 l 0 [] h2;unfold nP at h3;dsimp only at h3;by_cases hc:1024<r.2.2+p.length
  ·rw[if_pos hc] at h3;rw[h3] at h;exact absurd h (by decide)
  ·rw[if_neg hc] at h3;rw[h3];simp only[Qp,Nat.zero_add] at a b;exact⟨a.1,a.2.1,b,r,p,h1,h2,by omega,rfl⟩
theorem Ag(l:List Ln)(hl:l.length<=1000)(he:∀x∈l,(eL x).length<=4611686018427387904):Zbi.g l=some (pJ l):=by
 unfold Zbi.g;generalize hn:1000+l.length=n;unfold Zbi.f pJ Fb;rw[MV l (by omega) he,Pt];simp only[dt];by_cases h:(bG l).2.2.2.2.2.2.1=0;·obtain⟨h1,h2,h3,_⟩:=oq l h;rw[if_neg (by simpa using h),if_neg (by simpa using h)];have:=al7 (bG l).1 (bG l).2.1 (bG l).2.2.1 (bG l).2.2.2.1 (bG l).2.2.2.2.1 l hl he h1 (by omega) (by omega) n (by omega) [] [] [] n 0 ([],[],[]) (by omega) (by omega) ⟨PI _,PI _,PI _,List.Pairwise.nil⟩;rw[PV] at this;exact this
 ·rw[if_pos (by simpa using h),if_pos (by simpa using h)];rfl
end Rv
namespace Rv
open Go
def E8(x:Ln):Prop:=(eL x).length<=100000/\∀y∈eL x,y.2.2.1.length<=100000
theorem iT(a:List Ln)(ha:a.length<=1000000)(he:∀x∈a,E8 x)(n:Nat)(c':List Int)(d':List Sym)(e':List Val)(i' j':Int)(t:List Int)(lb:List Sym)(hlb:lb.length<=1000000)(c:Nat)(hc:c<=1000000):∀(m i:Nat) (q:List Val),i<=a.length->a.length-i<m->q.length<=i ->
  Zah.l13 n m a (i:Int) c' d' e' i' j' t lb q ((4*c:Nat):Int) 0=some (nP t lb c (cu lb (a.drop i) i q)):=by
 intro m
 induction m with
 |zero=>intro i _ _ h;omega
 |succ m ih=>
  intro i q hi hm hq;rw[Zah.l13];simp only[dt,PG];by_cases h:i<a.length
  ·have hx:=he _ (oL h);rw[if_pos (by omega),if_pos (by omega),ma h];generalize a.getD i zL=x at hx;have W:IntKind.i64.wrap ((i:Int)+1)=((i+1:Nat):Int):=by rw[w64 (by omega)];omega
   have W2:((i:Nat):Int)+1=((i+1:Nat):Int):=by omega
   rw[cu];by_cases h8:x.2.1.1=8
   ·rw[if_neg (by simpa using h8),if_pos h8,if_pos (by omega),Ib lb (by omega) _ hx.1 hx.2,uy,Pt];have J:∀k:Int,Zah.j19 n (Zah.l13 n m) a (i:Int) k c' d' e' i' j' t lb q ((4*c:Nat):Int) 0 (vOf lb (eL x)).1 (vOf lb (eL x)).2.1 =
      some (if k≠0 then sM (i+1) k else nP t lb c (cu lb (a.drop (i+1)) (i+1) (jY q ((vOf lb (eL x)).1,(vOf lb (eL x)).2.1,())))):=fun k=>by
     unfold Zah.j19 Zah.j14;simp only[dt];rw[W,DY q _ _ (by omega),Pt];by_cases hk:k≠0;·rw[if_pos hk,if_pos hk];rfl
     ·rw[if_neg hk,if_neg hk];exact ih (i+1) _ (by omega) (by omega) (Qd (vk _ _) (by omega))
    show(if(vOf lb (eL x)).2.2.1=0 then _ else Zah.j19 _ _ _ _ _ _ _ _ _ _ _ _ _ _ _ (vOf lb (eL x)).1 (vOf lb (eL x)).2.1)=some (nP t lb c (if(vOf lb (eL x)).2.2.1≠0 then _ else _));by_cases h1:(vOf lb (eL x)).2.2.1=0
    ·rw[if_pos h1,if_neg (show ¬((vOf lb (eL x)).2.2.1≠0) from fun hh=>hh h1)];by_cases h2:(vOf lb (eL x)).2.1<0\/1<(vOf lb (eL x)).2.1
     ·rw[if_pos h2];show(if(vOf lb (eL x)).2.1≠0 then(if(vOf lb (eL x)).2.1≠1 then Zah.j19 _ _ _ _ _ _ _ _ _ _ _ _ _ _ _ (vOf lb (eL x)).1 (vOf lb (eL x)).2.1 else _) else _)=_;rw[if_pos (by omega),if_pos (by omega),J 27,if_pos (by decide)];rfl
     ·rw[if_neg h2];show(if(vOf lb (eL x)).2.1≠0 then(if(vOf lb (eL x)).2.1≠1 then _ else Zah.j19 _ _ _ _ _ _ _ _ _ _ _ _ _ _ _ (vOf lb (eL x)).1 (vOf lb (eL x)).2.1) else Zah.j19 _ _ _ _ _ _ _ _ _ _ _ _ _ _ _ (vOf lb (eL x)).1 (vOf lb (eL x)).2.1)=_;have hJ:=J (vOf lb (eL x)).2.2.1;rw[if_neg (show ¬((vOf lb (eL x)).2.2.1≠0) from fun hh=>hh h1)] at hJ;by_cases h3:(vOf lb (eL x)).2.1≠0
      ·rw[if_pos h3,if_neg (by omega)];exact hJ
      ·rw[if_neg h3];exact hJ
    ·rw[if_neg h1,if_pos h1,J,if_pos h1];rfl
   ·rw[if_pos h8,if_neg h8];unfold Zah.j14;rw[W];exact ih (i+1) q (by omega) (by omega) (by omega)
  ·obtain rfl:i=a.length:=by omega
   rw[if_neg (by omega),PZ,cu,xm hc (by omega)];unfold nP;by_cases hw:1024<c+q.length;·rw[if_pos (by omega)];dsimp only;rw[if_pos hw];rfl
   ·rw[if_neg (by omega)];dsimp only;rw[if_neg hw]
theorem rl3(a:List Ln)(ha:a.length<=1000000)(he:∀x∈a,E8 x)(n:Nat)(hn:a.length<n)(c':List Int)(d':List Sym)(e':List Val)(i' j':Int):∀(m i:Nat) (t:List Int) (lb:List Sym) (c:Nat),i<=a.length->a.length-i<m->t.length<=i->lb.length<=i->c<=i ->
  Zah.l3 n m a (i:Int) c' d' e' i' j' t lb [] ((4*c:Nat):Int) 0=some (zX a (bX (a.drop i) i t lb c)):=by
 intro m
 induction m with
 |zero=>intro i _ _ _ _ h;omega
 |succ m ih=>
  intro i t lb c hi hm ht hlb hc;rw[Zah.l3];simp only[dt,PG];by_cases h:i<a.length
  ·rw[if_pos (by omega),if_pos (by simp;omega),if_pos (by omega),ma h];have W:IntKind.i64.wrap ((i:Int)+1)=((i+1:Nat):Int):=by rw[w64 (by omega)];omega
   have J:∀(t':List Int) (lb':List Sym),Zah.j11 n (Zah.l3 n m) a (i:Int) c' d' e' i' j' t' lb' [] ((4*c:Nat):Int) 0=Zah.l3 n m a ((i+1:Nat):Int) c' d' e' i' j' t' lb' [] ((4*(c+jW (a.getD i zL)):Nat):Int) 0:=fun t' lb'=>by
    unfold Zah.j11;simp only[PG];rw[if_pos (by omega),KR,Pt];dsimp only;rw[ul (by omega) (kJ _),W]
   have hs:=kJ (a.getD i zL);rw[bX];by_cases h1:(a.getD i zL).1=[]
   ·rw[if_neg (by simpa using h1),if_pos h1,J];exact ih (i+1) _ _ _ (by omega) (by omega) (by simp;omega) (by omega) (by omega)
   ·rw[if_pos (by simpa using h1),if_neg h1,if_pos (by omega),nK lb (a.getD i zL).1 (by omega),Pt];dsimp only;by_cases h2:(aN (a.getD i zL).1 lb).isSome=true
    ·rw[if_pos h2,if_pos h2,W];rfl
    ·rw[if_neg h2,if_neg h2,if_pos (by omega),if_pos (by simp;omega),J];exact ih (i+1) _ _ _ (by omega) (by omega) (by simp;omega) (by simp;omega) (by omega)
  ·obtain rfl:i=a.length:=by omega
   rw[if_neg (by omega),PZ,bX];exact iT a ha he n c' d' e' i' j' t lb (by omega) c (by omega) n 0 [] (by omega) (by omega) (by simp)
theorem KO(a:List Ln)(ha:a.length<=1000000)(he:∀x∈a,E8 x):Zah.g a=some (bG a):=by
 unfold Zah.g Zah.f bG;have:=rl3 a ha he (1000+a.length) (by omega) [] [] [] 0 0 (1000+a.length) 0 [] [] 0 (by omega) (by omega) (by simp) (by simp) (by omega);rw[PV] at this;exact this
theorem Om(a:List Int)(ha:a.length<=1000000):Zdd.g a a=some (true,()):=by
 have loop:∀(n m i:Nat),i<=a.length->a.length-i<m->Zdd.l4 n m a a (i:Int)=some (true,()):=by
  intro n m
  induction m with
  |zero=>intro i _ h;omega
  |succ m ih=>
   intro i hi hm;rw[Zdd.l4];simp only[dt];by_cases h:i<a.length;·rw[if_pos (by omega),if_pos (by omega),if_pos (by omega),if_neg (by simp),w64 (by omega)];exact ih (i+1) (by omega) (by omega)
   ·rw[if_neg (by omega)]
 unfold Zdd.g Zdd.f;rw[if_neg (by simp)];exact loop _ _ 0 (by omega) (by omega)
end Rv
namespace Rv
open Go
theorem Il(x:Int)(h:0<=x/\x<=4294967295):Zer.g x 32=some (IntKind.i64.wrap (IntKind.i32.wrap x),()):=by
 unfold Zer.g Zer.f;have e1:mn (mx 32 1) 32=32:=by decide
 have e2:IntKind.i64.wrap ((1:Int)*2 ^ (min (32:Int).toNat IntKind.i64.bits))=4294967296:=by decide
 have e3:IntKind.i64.wrap ((32:Int)-1)=31:=by decide
 have e4:IntKind.i64.wrap ((1:Int)*2 ^ (min (31:Int).toNat IntKind.i64.bits))=2147483648:=by decide
 have e5:Int.tmod (IntKind.i64.wrap x) 4294967296=x:=by
  rw[w64 (by omega),Qa h.1];omega
 rw[e1,e2,e3,e4,e5];simp only[dt];rw[if_neg (by decide),if_neg (by decide),if_neg (by decide),IntKind.wrap_i32];by_cases hx:2147483648<=x;·rw[if_pos hx,if_neg (by decide),w64 (by omega)];congr 2;rw[w64 (by omega)];omega
 ·rw[if_neg hx];congr 2;rw[w64 (by omega)];omega
theorem KG(e:List Item)(labels:List Sym)(low high v1 v2 x:Int)(h:Zal.g e labels=some (v1,v2,x,()))(hv:0<=v1/\v1<=4294967295) :
  Zbs.g e labels low high=some (if x≠0 then(0,x,()) else if v2≠0 then(0,27,()) else sN (IntKind.i64.wrap (IntKind.i32.wrap v1)) (IntKind.i64.wrap v1) low high):=by
 unfold Zbs.g Zbs.f;rw[h,Pt];simp only[dt];have z:¬((0:Int)≠0):=by decide
 have hn:IntKind.i64.wrap v1=v1:=w64 (by omega);have key:∀s:Int,Zbs.j10 (1000+e.length+labels.length+low.toNat+high.toNat) low high v1 s=some (sN s v1 low high):=fun s=>by
  unfold Zbs.j10 Zbs.j12 sN;simp only[dt];by_cases a1:low<=s<;>by_cases a2:s<=high<;>by_cases b1:low<=v1<;>by_cases b2:v1<=high<;>simp[a1,a2,b1,b2]
 by_cases h1:x=0
 ·subst h1;rw[if_neg z,if_neg z];by_cases h2:v2=0
  ·subst h2;rw[if_neg z,if_neg z,hn];by_cases h3:2147483648<=v1
   ·have e1:IntKind.i64.wrap (v1-4294967296)=v1-4294967296:=w64 (by omega);have e2:IntKind.i64.wrap (IntKind.i32.wrap v1)=v1-4294967296:=by
     have:IntKind.i32.wrap v1=v1-4294967296:=by rw[IntKind.wrap_i32];omega
     rw[this,e1]
    rw[if_pos h3,e1,e2,key]
   ·have e2:IntKind.i64.wrap (IntKind.i32.wrap v1)=v1:=by
     have:IntKind.i32.wrap v1=v1:=by rw[IntKind.wrap_i32];omega
     rw[this,hn]
    rw[if_neg h3,e2,key]
  ·rw[if_pos (show v2≠0 from h2),if_pos (show v2≠0 from h2)]
 ·rw[if_pos (show x≠0 from h1),if_pos (show x≠0 from h1)]
theorem DZ(v ad wd:Int):Zdf.g v ad wd=some (pz v ad wd,()):=by
 unfold Zdf.g Zdf.f Zdf.j3 pz;simp only[dt];by_cases h0:ad=0;·subst h0;simp
 ·by_cases h1:ad=1
  ·subst h1;by_cases h4:IntKind.i64.wrap (4*wd)<IntKind.i64.wrap v
   ·simp[h4]
   ·simp[h4]
  ·rw[if_pos (show ad≠0 from h0),if_pos (show ad≠1 from h1),if_pos (by omega)]
def tells(r:Int×Bool×Int×Unit):Except Int (Int×Bool)->Prop
 | .error x=>r.2.2.1=x
 | .ok w=>r=(w.1,w.2,0,())
theorem Im(lb:List Sym)(q:List Val)(fr wd:Int)(t:List Int)(s:Snt)(pl:Int)(hof:Zal.g s.2.2.2.2.2.2.1 lb=some (vOf lb s.2.2.2.2.2.2.1))(hv:0<=(vOf lb s.2.2.2.2.2.2.1).1/\(vOf lb s.2.2.2.2.2.2.1).1<=4294967295)(hq:q.length<=1000000)
  (h8:s.1=8->(vOf lb s.2.2.2.2.2.2.1).2.2.1=0) :
  ∃r,Zaq.g s.1 s.2.1 s.2.2.1 s.2.2.2.1 s.2.2.2.2.1 s.2.2.2.2.2.1 s.2.2.2.2.2.2.1 s.2.2.2.2.2.2.2.1 pl t lb q fr wd=some r/\tells r (qR lb q fr wd s pl):=by
 obtain⟨k,o,a,b,c,u,e,nm,z⟩:=s;dsimp only at hof hv h8⊢;unfold Zaq.g;generalize 1000+_+_+_+_+_+_+_+_+_+_+_+_+_=n;obtain⟨v1,v2,x,hvv⟩:∃v1 v2 x,vOf lb e=(v1,v2,x,()):=⟨(vOf lb e).1,(vOf lb e).2.1,(vOf lb e).2.2.1,rfl⟩
 rw[hvv] at hof hv h8;dsimp only at hv h8;have hnum:∀low high,Zbs.g e lb low high=some (yh lb e low high):=fun low high=>by
  rw[KG e lb low high v1 v2 x hof hv];unfold yh;rw[hvv]
 have J30:∀(x k o a b c i:Int) (u:Bool),∃r,Zaq.j30 n x k o a b c i u=some r/\tells r (iF k o a b c (i,x,()) u):=by
  intro x k o a b c i u;unfold Zaq.j30 iF;simp only[dt];by_cases hx:x=0
  ·rw[if_neg (by simpa using hx),if_neg (by simpa using hx),M7,Pt];refine⟨_,rfl,?_⟩;unfold vG;by_cases h:(pX k o a b c i u).2.1=0
   ·rw[if_pos h];unfold tells;rw[h]
   ·rw[if_neg h];rfl
  ·rw[if_pos (by simpa using hx),if_pos (by simpa using hx)];exact⟨_,rfl,rfl⟩
 have I0:∀nm,Zfj.g k o a b c u e nm=some (k,o,a,b,c,0,u,()):=fun _=>rfl
 unfold Zaq.f qR;simp only[dt,Zaq.j8,I0,hnum,Pt,hof,hvv];by_cases k2:k=2
 ·rw[if_pos k2,if_pos k2];by_cases o0:o=0
  ·rw[if_pos o0];cases u with
   |true=>rw[if_pos rfl,if_pos ⟨o0,rfl⟩];exact J30 _ _ _ _ _ _ _ _
   |false=>rw[if_neg (by decide),if_neg (fun h=>by cases h.2)];exact J30 _ _ _ _ _ _ _ _
  ·rw[if_neg o0,if_neg (fun h=>o0 h.1)];exact J30 _ _ _ _ _ _ _ _
 rw[if_neg k2,if_neg k2];by_cases k5:k=5;·rw[if_pos k5,if_pos k5];exact J30 _ _ _ _ _ _ _ _
 rw[if_neg k5,if_neg k5];by_cases k7:k=7
 ·rw[if_pos k7,if_pos k7,Il _ (jH _),Pt];dsimp only;rw[show IntKind.i64.wrap (IntKind.i32.wrap (IntKind.u32.wrap (IntKind.u32.wrap (v1-IntKind.u32.wrap pl)-4)))=rU v1 pl from rfl];unfold EH Zaq.j17 Zaq.j19;generalize rU v1 pl=d;simp only[dt,df,GG,Pt];generalize IntKind.i64.wrap (Int.tdiv d 4)=w;by_cases hx:x=0
  ·subst hx;simp only[if_true,ne_eq,not_true_eq_false,if_false];by_cases ha:v2=1
   ·subst ha;simp only[not_true_eq_false,if_false,if_true];by_cases hd:Int.tmod d 4=0
    ·by_cases hw:-8388608<=w/\w<=8388607
     ·have:¬(w < -8388608\/8388608<=w):=by omega
      simp only[hd,hw,this,not_true_eq_false,false_or,if_false,decide_true,Bool.not_true,Bool.false_eq_true,if_true,and_self,not_false_eq_true];exact J30 _ _ _ _ _ _ _ _
     ·have:(w < -8388608\/8388608<=w):=by omega
      simp only[hd,hw,this,not_true_eq_false,false_or,if_false,decide_false,Bool.not_false,if_true,or_true,not_false_eq_true];obtain⟨r,h1,h2⟩:=J30 28 k o a b c w u;refine⟨r,h1,?_⟩;unfold iF at h2⊢;exact h2
    ·simp only[hd,not_false_eq_true,true_or,if_true,not_true_eq_false,if_false];obtain⟨r,h1,h2⟩:=J30 28 k o a b c w u;refine⟨r,h1,?_⟩;unfold iF at h2⊢;exact h2
   ·simp only[ha,not_false_eq_true,if_true,if_false,show ¬((27:Int)=0) by decide];obtain⟨r,h1,h2⟩:=J30 27 k o a b c w u;refine⟨r,h1,?_⟩;unfold iF at h2⊢;exact h2
  ·simp only[hx,if_false,ne_eq,not_false_eq_true,if_true];obtain⟨r,h1,h2⟩:=J30 x k o a b c w u;refine⟨r,h1,?_⟩;unfold iF at h2;rw[if_pos (by simpa using hx)] at h2;exact h2
 rw[if_neg k7,if_neg k7];by_cases k8:k=8;·have hx:=h8 k8;rw[if_pos k8,if_pos k8,DY q v1 v2 hq,Pt,DZ,Pt,if_neg (by simpa using hx)];exact J30 _ _ _ _ _ _ _ _
 rw[if_neg k8,if_neg k8];by_cases k9:k=9
 ·rw[if_pos k9,if_pos k9];unfold Zaq.j29;by_cases hx:x=0
  ·rw[if_pos hx,if_neg (by simpa using hx),DZ,Pt];refine⟨_,rfl,?_⟩;dsimp only;by_cases ha:pz v1 v2 wd=0
   ·rw[if_neg (by simpa using ha)];unfold tells;rw[ha]
   ·rw[if_pos (by simpa using ha)];rfl
  ·rw[if_neg hx,if_pos (by simpa using hx)];exact⟨_,rfl,rfl⟩
 rw[if_neg k9,if_neg k9];obtain⟨r,h1,h2⟩:=J30 0 k o a b c 0 u;refine⟨r,h1,?_⟩;unfold iF at h2;rw[if_neg (by decide)] at h2;exact h2
end Rv
namespace Rv
open Go
theorem Lr:∀{y:List Sym}{s:Str}{t:Nat},t<kS y s->less (y.getD t zSy).1 s=true
 |[],_,_,h=>by simp[kS] at h
 |x::r,s,t,h=>by
  unfold kS at h;split at h
  ·rename_i hx;cases t with
   |zero=>exact hx
   |succ t=>simpa using Lr (y:=r) (t:=t) (by omega)
  ·omega
theorem Ll:∀{y:List Sym}{s:Str},kS y s<y.length->less (y.getD (kS y s) zSy).1 s=false
 |[],_,h=>by simp at h
 |x::r,s,h=>by
  unfold kS at h⊢;split;·rename_i hx;rw[if_pos hx] at h;simpa using Ll (y:=r) (by simpa using h)
  ·rename_i hx;simpa using hx
section
variable(t:List Int)(lb:List Sym)(q:List Val)(fr wd:Int)
theorem Oj(n:Nat)(rl)(l:List Ln)(b c:Int)(W:List Int)(S:List Int)(d e:List Int)(y Y:List Sym)(nm:Str)(hY:Y.length<=1000000)(k o A B C:Int)(u:Bool)(ex:List Item):∀(m i:Nat),i<=kS Y nm->kS Y nm-i<m ->
  Zad.l17 n rl m l b c (i:Int) d e y t lb q fr wd W S Y k o A B C u ex nm=Zad.j19 n rl l b c (kS Y nm:Int) d e y t lb q fr wd W S Y k o A B C u ex nm:=by
 have hk:=qf Y nm;intro m
 induction m with
 |zero=>intro i _ h;omega
 |succ m ih=>
  intro i hi hm;rw[Zad.l17];simp only[dt,PG];by_cases h:i<kS Y nm;·have:=Lr h;rw[if_pos (by omega),if_pos (by omega),if_pos this,w64 (by omega),show(i:Int)+1=((i+1:Nat):Int) by omega];exact ih (i+1) (by omega) (by omega)
  ·obtain rfl:i=kS Y nm:=by omega
   by_cases h2:kS Y nm<Y.length
   ·have:=Ll h2;rw[if_pos (by omega),if_pos (by omega),if_neg (fun g=>by
     have g:less (Y.getD (kS Y nm) zSy).1 nm=true:=g;rw[this] at g;cases g)]
   ·rw[if_neg (by omega)]
theorem BD(hq:q.length<=1000000)(n:Nat)(d e:List Int)(y:List Sym):∀(m i j:Nat) (r:WrT),i<=q.length->q.length-i<m->WOk r j->j+q.length<=1000000+i ->
  Zad.l30 n m (i:Int) d e y t lb q fr wd r.1 r.2.1 r.2.2=some (pY (gV (q.drop i) r)):=by
 intro m
 induction m with
 |zero=>intro i _ _ _ h;omega
 |succ m ih=>
  intro i j r hi hm hr hj;rw[Zad.l30];simp only[dt,PG,Zad.j34];by_cases h:i<q.length
  ·have h1:=hr.w;have h2:=hr.s;have:=ih (i+1) (j+1) (jy r (q.getD i zV).1 (decide ((q.getD i zV).2.1=1))) (by omega) (by omega) (o5 hr _ _) (by omega);rw[Gp h,gV,<- this];generalize q.getD i zV=v;rw[if_pos (by omega),if_pos (by omega)];unfold jy;by_cases hv:v.2.1=1
   ·rw[if_pos hv,if_pos (by simp;omega),if_pos (by omega),if_pos (by simp;omega),w64 (by omega),show(i:Int)+1=((i+1:Nat):Int) by omega,if_pos (by simpa using hv)]
   ·rw[if_neg hv,if_pos (by omega),if_pos (by simp;omega),w64 (by omega),show(i:Int)+1=((i+1:Nat):Int) by omega,if_neg (by simpa using hv)]
  ·obtain rfl:i=q.length:=by omega
   rw[if_neg (by omega),PZ,gV];unfold pY lM;by_cases h6:64<r.2.2.length;·rw[if_pos (by omega),if_pos h6]
   ·rw[if_neg (by omega),if_neg h6]
def um(x:Ln):Prop:=E8 x/\(∀y∈eL x,0<=y.2.1/\y.2.1<=4294967295)/\x.2.1.2.2.2.2.2.2.2.1.length<=1000000
theorem rl6(l:List Ln)(hl:l.length<=1000)(he:∀x∈l,um x)(ht:t.length=l.length)(hlb:lb.length<=1000000)(hq:q.length<=1000)(h8:∀x∈l,x.2.1.1=8->(vOf lb (eL x)).2.2.1=0)(n:Nat)(hn:1000<=n)(hn2:q.length<n)(d e:List Int)(y:List Sym)(hln:l.length<n) :
  ∀(m i:Nat) (r:WrT),i<=l.length->l.length-i<m->WOk r i ->
  Zad.l6 n m l (i:Int) d e y t lb q fr wd r.1 r.2.1 r.2.2=some (match ic lb q fr wd t (l.drop i) i r with | .error x=>lM (x.1:Int) x.2 | .ok r=>pY (gV q r)):=by
 intro m
 induction m with
 |zero=>intro i _ _ h;omega
 |succ m ih=>
  intro i r hi hm hr;rw[Zad.l6];simp only[dt,PG];by_cases h:i<l.length
  ·have h1:=hr.w;have h2:=hr.s;have h3:=hr.y;have W1:IntKind.i64.wrap ((i:Int)+1)=((i+1:Nat):Int):=by rw[w64 (by omega)];omega
   rw[if_pos (by omega),if_pos (by omega),ma h,ic];have hx:=he _ (oL h);have hx8:=h8 _ (oL h);generalize l.getD i zL=x at hx hx8⊢;obtain⟨hmid,hnum,hnm⟩:=hx;unfold Zad.j7;rw[W1];unfold lI;by_cases k0:x.2.1.1=0;·rw[if_pos k0,if_pos k0];exact ih (i+1) r (by omega) (by omega) ⟨by omega,by omega,by omega,hr.o⟩
   rw[if_neg k0,if_neg k0];by_cases k10:x.2.1.1=10
   ·rw[if_pos k10,if_pos k10,nK lb _ (by omega),Pt,lm _ hnm,Pt];dsimp only;generalize hnmE:x.2.1.2.2.2.2.2.2.2.1=nm at *;cases hE:jA lb nm r.2.2 with
    |error er=>
     dsimp only;unfold jA at hE;split at hE;·rename_i g1;cases hE;rw[if_pos (by rw[g1];rfl)];rfl
     ·rename_i g1;rw[if_neg (by simpa using g1)];split at hE
      ·rename_i g2;cases hE;rw[if_pos (by rw[g2];rfl)];rfl
      ·rename_i g2;rw[if_neg (by rw[(Bool.not_eq_false _).mp g2];decide)];split at hE
       ·rename_i g3;cases hE;have:=Oj t lb q fr wd n (Zad.l6 n m) l (i:Int) ((aN nm lb).getD 0) r.1 r.2.1 d e y r.2.2 nm (by omega) x.2.1.1 x.2.1.2.1 x.2.1.2.2.1 x.2.1.2.2.2.1 x.2.1.2.2.2.2.1 x.2.1.2.2.2.2.2.1 x.2.1.2.2.2.2.2.2.1 n 0 (by omega) (by have:=qf r.2.2 nm;omega);refine this.trans ?_;unfold mR at g3;rw[Px] at g3;unfold Zad.j19;simp only[dt,PG];rw[if_pos (by omega),if_pos (by omega),if_pos g3.2,W1];rfl
       ·cases hE
    |ok y'=>
     dsimp only;obtain⟨g1,g2,g3,rfl⟩:=yI hE;rw[if_neg (by rw[g1];decide),if_neg (by rw[g2];decide)];have:=Oj t lb q fr wd n (Zad.l6 n m) l (i:Int) ((aN nm lb).getD 0) r.1 r.2.1 d e y r.2.2 nm (by omega) x.2.1.1 x.2.1.2.1 x.2.1.2.2.1 x.2.1.2.2.2.1 x.2.1.2.2.2.2.1 x.2.1.2.2.2.2.2.1 x.2.1.2.2.2.2.2.2.1 n 0 (by omega) (by have:=qf r.2.2 nm;omega);refine this.trans ?_;have hk:=qf r.2.2 nm;have J21:Zad.j21 n (Zad.l6 n m) l (i:Int) ((aN nm lb).getD 0) (kS r.2.2 nm:Int) d e y t lb q fr wd r.1 r.2.1 r.2.2 x.2.1.1 x.2.1.2.1 x.2.1.2.2.1 x.2.1.2.2.2.1 x.2.1.2.2.2.2.1 x.2.1.2.2.2.2.2.1 x.2.1.2.2.2.2.2.2.1 nm =
       some (match ic lb q fr wd t (l.drop (i+1)) (i+1) (r.1,r.2.1,kD r.2.2 (nm,(aN nm lb).getD 0,())) with | .error x=>lM (x.1:Int) x.2 | .ok r=>pY (gV q r)):=by
      unfold Zad.j21 Zad.j7;rw[W1,PG,if_pos (by omega),if_pos (by simp;omega),if_pos (by omega),if_pos (by simp;omega),if_pos (by simp;omega)];have hi1:((([]:List Sym)++(r.2.2.take (kS r.2.2 nm)))++(([(nm,(aN nm lb).getD 0,())]:List Sym)++((r.2.2.take (((r.2.2.length:Int)).toNat)).drop (kS r.2.2 nm))))=kD r.2.2 (nm,(aN nm lb).getD 0,()):=by
       unfold kD;rw[PG,List.take_length,Qi,PU]
      rw[hi1];exact ih (i+1) (r.1,r.2.1,kD r.2.2 (nm,(aN nm lb).getD 0,())) (by omega) (by omega) ⟨by show r.1.length<=_;omega,by show r.2.1.length<=_;omega,by show(kD _ _).length<=_;rw[Dv];omega,wV hr.o g3⟩
     unfold Zad.j19;simp only[dt,PG];unfold mR at g3;rw[decide_eq_false_iff_not] at g3;by_cases hlt:kS r.2.2 nm<r.2.2.length;·rw[if_pos (by omega),if_pos (by omega),if_neg (fun g=>g3 ⟨hlt,g⟩)];exact J21
     ·rw[if_neg (by omega)];exact J21
   rw[if_neg k10,if_neg k10];have hof:Zal.g (eL x) lb=some (vOf lb (eL x)):=by rw[Ib lb (by omega) _ hmid.1 hmid.2,uy]
   have hv:0<=(vOf lb (eL x)).1/\(vOf lb (eL x)).1<=4294967295:=by
    rcases IM lb hnum with⟨z,_,hz⟩|⟨v,hv,hz,_⟩;·rw[hz];exact⟨Int.le_refl 0,by show(0:Int)<=4294967295;decide⟩
    ·rw[hz];exact hv.1
   obtain⟨w,hw,htl⟩:=Im lb q fr wd t x.2.1 (t.getD i 0) hof hv (by omega) hx8;rw[if_pos (by omega),hw,Pt];cases hW:qR lb q fr wd x.2.1 (t.getD i 0) with
   |error er=>
    rw[hW] at htl;have htl:w.2.2.1=er:=htl;rw[if_pos (by rw[htl];exact Ch hW),htl];rfl
   |ok v=>
    rw[hW] at htl;have htl:w=(v.1,v.2,0,()):=htl;subst htl;dsimp only;rw[if_neg (by decide)];have:=ih (i+1) (jy r v.1 v.2) (by omega) (by omega) (o5 hr _ _);rw[<- this];unfold Zad.j28 Zad.j7 jy;rw[W1];cases v.2 with
    |true=>rw[if_pos rfl,if_pos (by simp;omega),if_pos (by simp;omega)];rfl
    |false=>rw[if_neg (by decide),if_pos (by simp;omega)];rfl
  ·obtain rfl:i=l.length:=by omega
   rw[if_neg (by omega),PZ,ic];have:=BD t lb q fr wd (by omega) n d e y n 0 l.length r (by omega) (by omega) hr (by omega);rw[PV] at this;exact this
end
theorem yl(l:List Ln)(hl:l.length<=1000)(he:∀x∈l,um x):Zad.g l=some (pJ l):=by
 unfold Zad.g;generalize hn:1000+l.length=n;unfold Zad.f pJ Fb;rw[KO l (by omega) (fun x hx=>(he x hx).1),Pt];simp only[dt];by_cases h:(bG l).2.2.2.2.2.2.1=0;·obtain⟨h1,h2,h3,r,p,g1,g2,g3,g4⟩:=oq l h;rw[if_neg (by simpa using h),if_neg (by simpa using h)];have hld:=(qh r.2.1 l 0 [] g2 List.nodup_nil).2.2.1;have:=rl6 (bG l).1 (bG l).2.1 (bG l).2.2.1 (bG l).2.2.2.1 (bG l).2.2.2.2.1 l hl he h1 (by omega) (by omega) (fun x hx hx8=>by rw[g4];exact(hld x hx hx8).1) n (by omega) (by omega) [] [] [] (by omega) n 0 ([],[],[]) (by omega) (by omega) ⟨PI _,PI _,PI _,List.Pairwise.nil⟩;rw[PV] at this;exact this
 ·rw[if_pos (by simpa using h),if_pos (by simpa using h)];rfl
end Rv
namespace Rv
open Go
inductive Od
 |A|B|C|E|Q|N
def Od.rd:Od->Fn
 | .A=>K.rdA | .B=>K.rdB | .C=>K.rdC | .E=>K.rdE | .Q=>K.rdQ | .N=>K.rdN
def Od.wr:Od->Fn
 | .A=>K.wrA | .B=>K.wrB | .C=>K.wrC | .E=>K.wrE | .Q=>K.wrQ | .N=>K.wrN
def odL(k o:Int):List Od:=
 if k=1 then(if o=0 then[.A,.C] else[.A,.B,.C]) else
 if k=2 then(if o=0 then[.A,.E] else[.A,.B,.E]) else
 if k=3\/k=4 then[.A] else
 if k=5 then[.A,.B,.E] else
 if k=6 then[.C] else
 if k=7\/k=9 then[.E] else
 if k=8 then[.A,.Q] else
 if k=10 then[.N] else[]
abbrev odF(d:Od):Fn×Fn×Unit:=(d.rd,d.wr,())
theorem DU(k o:Int):L.opsR k o=(odL k o).map odF:=by
 unfold L.opsR odL;split;·split<;>rfl
 ·split
  ·split<;>rfl
  ·repeat' split
   all_goals rfl
theorem MO(k o:Int):(odL k o).length<=3:=by
 unfold odL
 repeat' split
 all_goals simp
theorem uw{o:Int}(h:0<o):odL 1 o=[.A,.B,.C]:=by unfold odL;rw[if_pos rfl,if_neg (by omega)]
theorem MN{o:Int}(h:0<o):odL 2 o=[.A,.B,.E]:=by unfold odL;rw[if_neg (by decide),if_pos rfl,if_neg (by omega)]
def et:Option Tr->Str
 |none=>[]
 |some t=>t.txt
def hk(k:Int):Int:=if k=2 then 1 else if k=6 then 7 else k
theorem Gm(k:Int):Zek.g k=some (decide (k=9\/k=10),()):=by
 unfold Zek.g Zek.f;simp only[df];by_cases h:k=9;·rw[if_neg (by simp[h])];simp[h]
 ·rw[if_pos h];simp[h]
end Rv
namespace Rv
open Go
end Rv
namespace Rv
open Go
def dR(l:List az)(p:Nat)(c:UInt8):Bool:=decide (p<l.length)&&decide ((l.getD p aT).1=3)&&decide ((l.getD p aT).2.2.1=[c])
abbrev XR:=Except Int (List Item×Nat)
def xF(l:List az)(S F:Nat->XR)(p:Nat):XR:=
 if dR l p 45=true then(match F (p+1) with | .error e=>.error e | .ok r=>.ok (r.1++[(3,0,[],())],r.2))
 else if dR l p 40=true then(match S (p+1) with | .error e=>.error e | .ok r=>if dR l r.2 41=true then .ok (r.1,r.2+1) else .error 23)
 else if p<l.length/\(l.getD p aT).1=2 then .ok ([(1,(l.getD p aT).2.2.2.1,[],())],p+1)
 else if p<l.length/\(l.getD p aT).1=1/\aK (l.getD p aT).2.2.1=true then .ok ([(2,0,(l.getD p aT).2.2.1,())],p+1)
 else .error 23
def lT(l:List az)(F:Nat->XR):Nat->List Item->Nat->XR
 |0,it,p=>.ok (it,p)
 |m+1,it,p=>if dR l p 42=true then(match F (p+1) with | .error e=>.error e | .ok r=>lT l F m (it++r.1++[(6,0,[],())]) r.2) else .ok (it,p)
def xT(l:List az)(F:Nat->XR)(p:Nat):XR:=match F p with | .error e=>.error e | .ok r=>lT l F (l.length+1) r.1 r.2
def lS(l:List az)(T:Nat->XR):Nat->List Item->Nat->XR
 |0,it,p=>.ok (it,p)
 |m+1,it,p=>if dR l p 43=true then(match T (p+1) with | .error e=>.error e | .ok r=>lS l T m (it++r.1++[(4,0,[],())]) r.2)
  else if dR l p 45=true then(match T (p+1) with | .error e=>.error e | .ok r=>lS l T m (it++r.1++[(5,0,[],())]) r.2) else .ok (it,p)
def xS(l:List az)(F:Nat->XR)(p:Nat):XR:=match xT l F p with | .error e=>.error e | .ok r=>lS l (xT l F) (l.length+1) r.1 r.2
def pF(l:List az):Nat->Nat->XR
 |0,_=>.error 24
 |q+1,p=>xF l (xS l (pF l q)) (pF l q) p
def dM(l:List az)(p:Nat):List Item×Int×Int×Unit:=
 match xS l (pF l 9) p with
 | .error e=>([],0,e,())
 | .ok r=>if 64<r.1.length then([],0,24,()) else(r.1,(r.2:Int),0,())
structure OkX (l:List az) (p:Nat) (it:List Item) (p':Nat):Prop where
 lt:p<p'
 le:p'<=l.length
 len:it.length<=p'-p
 well:cz it
 good:(∀t∈l,0<=t.2.2.2.1/\t.2.2.2.1<=4294967295)->∀x∈it,aZ x
def iW(l:List az)(p:Nat):XR->Prop
 | .error e=>e=23\/e=24
 | .ok r=>OkX l p r.1 r.2
theorem mq{l:List az}{p:Nat}{c:UInt8}(h:dR l p c=true):p<l.length:=by
 unfold dR at h;simp only[Pz,Px] at h;exact h.1.1
theorem kY{l:List az}{p:Nat}(h:p<l.length):l.getD p aT∈l:=by
 rw[PD,PH h];exact Qf h
theorem Mo{l:List az}{S F:Nat->XR}(hS:∀p,iW l p (S p))(hF:∀p,iW l p (F p))(p:Nat):iW l p (xF l S F p):=by
 unfold xF;split
 ·rename_i h;have:=hF (p+1);cases hr:F (p+1) with
  |error e=>rw[hr] at this;exact this
  |ok r=>
   rw[hr] at this;have h1:=this.lt;have h2:=this.len;have h3:=this.le;refine⟨by dsimp only;omega,h3,by simp;omega,Le this.well _ rfl,fun ht x hx=>?_⟩;simp only[PL,PS] at hx;rcases hx with hx|rfl;·exact this.good ht x hx
   ·exact⟨by decide,by decide,rfl⟩
 ·split
  ·have:=hS (p+1);cases hr:S (p+1) with
   |error e=>rw[hr] at this;exact this
   |ok r=>
    rw[hr] at this;dsimp only;split;·rename_i h;have h0:=mq h;have h1:=this.lt;have h2:=this.len;have h3:=this.le;exact⟨by dsimp only;omega,by dsimp only;omega,by dsimp only;omega,this.well,this.good⟩
    ·exact .inl rfl
  ·split
   ·rename_i h;refine⟨by dsimp only;omega,by have:=h.1;dsimp only;omega,by simp,rfl,fun ht x hx=>?_⟩;simp only[PS] at hx;subst hx;have:=ht _ (kY h.1);exact⟨this.1,this.2,rfl⟩
   ·split
    ·rename_i h;have hn:aj (2,0,(l.getD p aT).2.2.1,())=(0,true):=by
      generalize (l.getD p aT).2.2.1=tx at h;unfold aj;simp[h.2.2]
     refine⟨by dsimp only;omega,by have:=h.1;dsimp only;omega,by simp,?_,fun ht x hx=>?_⟩
     ·show enough 0 [((2,0,(l.getD p aT).2.2.1,()):Item)]=some 1;generalize ((2,0,(l.getD p aT).2.2.1,()):Item)=x at hn;simp[enough,hn]
     ·simp only[PS] at hx;subst hx;exact⟨by show(0:Int)<=0;decide,by show(0:Int)<=_;decide,by rw[hn]⟩
    ·exact .inl rfl
theorem rX{l:List az}{a b c:Nat}{A B:List Item}(ha:OkX l a A b)(hb:OkX l (b+1) B c)(x:Item)(hx:aj x=(2,true))(h0:x.2.1=0):OkX l a (A++B++[x]) c:=by
 have h1:=ha.lt;have h2:=ha.len;have h3:=hb.lt;have h4:=hb.len;refine⟨by omega,hb.le,by simp;omega,Lf ha.well hb.well x hx,fun ht y hy=>?_⟩;simp only[PL,PS] at hy;rcases hy with(hy|hy)|rfl;·exact ha.good ht y hy
 ·exact hb.good ht y hy
 ·exact⟨by rw[h0];decide,by rw[h0];decide,by rw[hx]⟩
theorem AB{l:List az}{F:Nat->XR}(hF:∀p,iW l p (F p))(a:Nat):∀(m:Nat) (it:List Item) (p:Nat),OkX l a it p->iW l a (lT l F m it p)
 |0,it,p,h=>h
 |m+1,it,p,h=>by
  rw[lT];split
  ·have:=hF (p+1);cases hr:F (p+1) with
   |error e=>rw[hr] at this;exact this
   |ok r=>
    rw[hr] at this;exact AB hF a m _ _ (rX h this _ rfl rfl)
  ·exact h
theorem mh{l:List az}{F:Nat->XR}(hF:∀p,iW l p (F p))(p:Nat):iW l p (xT l F p):=by
 unfold xT;have:=hF p;cases hr:F p with
 |error e=>rw[hr] at this;exact this
 |ok r=>rw[hr] at this;exact AB hF p _ _ _ this
theorem vJ{l:List az}{F:Nat->XR}(hF:∀p,iW l p (F p))(a:Nat):∀(m:Nat) (it:List Item) (p:Nat),OkX l a it p->iW l a (lS l F m it p)
 |0,it,p,h=>h
 |m+1,it,p,h=>by
  rw[lS];split
  ·have:=hF (p+1);cases hr:F (p+1) with
   |error e=>rw[hr] at this;exact this
   |ok r=>
    rw[hr] at this;exact vJ hF a m _ _ (rX h this _ rfl rfl)
  ·split
   ·have:=hF (p+1);cases hr:F (p+1) with
    |error e=>rw[hr] at this;exact this
    |ok r=>
     rw[hr] at this;exact vJ hF a m _ _ (rX h this _ rfl rfl)
   ·exact h
theorem jB{l:List az}{F:Nat->XR}(hF:∀p,iW l p (F p))(p:Nat):iW l p (xS l F p):=by
 unfold xS;have:=mh hF p;cases hr:xT l F p with
 |error e=>rw[hr] at this;exact this
 |ok r=>rw[hr] at this;exact vJ (mh hF) p _ _ _ this
theorem bM(l:List az):∀(q p:Nat),iW l p (pF l q p)
 |0,_=>.inr rfl
 |q+1,p=>Mo (jB (bM l q)) (bM l q) p
theorem qL(all:List Str)(hall:all.length<=100)(l:List az)(p:Nat)(hl:l.length<=1000000)(out:List Item):Zas.g all l p out 0 =
  if p<l.length/\(l.getD p aT).1=3/\(l.getD p aT).2.2.1∈all then some ((l.getD p aT).2.2.1,true,l,((p+1:Nat):Int),out,0,()) else some ([],false,l,(p:Int),out,0,()):=by
 unfold Zas.g Zas.f;by_cases hp:p<l.length
 ·rw[DI l p out hp,Pt];dsimp only;have:=tT (1000+all.length+l.length+(p:Int).toNat+out.length+(0:Int).toNat) all hall true l p out 0 (l.getD p aT).1 (l.getD p aT).2.1 (l.getD p aT).2.2.1 (l.getD p aT).2.2.2.1 (1000+all.length+l.length+(p:Int).toNat+out.length+(0:Int).toNat) 0 (by omega) (by omega);rw[show((0:Nat):Int)=0 from rfl] at this;rw[this,w64 (by omega),PV];by_cases h:(l.getD p aT).1=3/\(l.getD p aT).2.2.1∈all
  ·rw[if_pos ⟨rfl,h⟩,if_pos ⟨hp,h⟩];rfl
  ·rw[if_neg (fun g=>h g.2),if_neg (fun g=>h g.2)]
 ·rw[A7 l p out (by omega),Pt];dsimp only;have:=tT (1000+all.length+l.length+(p:Int).toNat+out.length+(0:Int).toNat) all hall false l p out 0 0 0 [] 0 (1000+all.length+l.length+(p:Int).toNat+out.length+(0:Int).toNat) 0 (by omega) (by omega);rw[show((0:Nat):Int)=0 from rfl] at this;rw[this,if_neg (fun g=>by cases g.1),if_neg (fun g=>hp g.1)]
theorem bC{l:List az}{p:Nat}{c:UInt8}:dR l p c=true↔p<l.length/\(l.getD p aT).1=3/\(l.getD p aT).2.2.1=[c]:=by
 unfold dR;simp only[Pz,Px,and_assoc]
theorem jD(a b:Int)(c:Str)(l:List az)(p:Int)(out:List Item)(e:Int)(ho:out.length<=3000000):Zbk.g a b c l p out e=some (l,p,out++[(a,b,c,())],e,()):=by
 unfold Zbk.g Zbk.f;rw[if_pos (by simp;omega)]
def El(l:List az)(out:List Item)(B:Nat)(r:Option (List az×Int×List Item×Int×Unit)):XR->Prop
 | .ok x=>r=some (l,(x.2:Int),out++x.1,0,())
 | .error e=>∃p' out',r=some (l,p',out',e,())/\out'.length<=B
def I5(l:List az)(out:List Item)(d:Int)(B:Nat)(r:Option (List az×Int×List Item×Int×Unit×Int×Unit)):XR->Prop
 | .ok x=>r=some (l,(x.2:Int),out++x.1,0,(),d,())
 | .error e=>∃p' out',r=some (l,p',out',e,(),d,())/\out'.length<=B
def Bd(l:List az)(q:Nat):Prop:=∀(p:Nat) (out:List Item) (Q:Nat),out.length+(l.length-p)<=1000000->6*q+1<=Q->El l out (2000000+3*q) ((R Q).expr_parser_factor ((9-q:Nat):Int) l p out 0) (pF l q p)
def Kj(l:List az)(q:Nat):Prop:=∀(p:Nat) (out:List Item) (Q:Nat),out.length+(l.length-p)<=1000000->6*q+4<=Q->∃r,(R Q).expr_parser_sum_1 ((9-q:Nat):Int) l p out 0=r.map (fun y=>((),((9-q:Nat):Int),y))/\El l out (2000000+3*q+1) r (xT l (pF l q) p)
def N8(l:List az)(q:Nat):Prop:=∀(p:Nat) (out:List Item) (Q:Nat),out.length+(l.length-p)<=1000000->6*q+6<=Q->El l out (2000000+3*q+2) ((R Q).expr_parser_sum ((9-q:Nat):Int) l p out 0) (xS l (pF l q) p)
theorem gZ{l:List az}{p:Nat}{x:XR}{e:Int}(h:iW l p x)(hx:x=.error e):e≠0:=by
 subst hx;rcases h with rfl|rfl<;>decide
theorem ND{l:List az}(hl:l.length<=1000000){q:Nat}(hq9:q<=9)(hF:Bd l q)(n:Nat)(Q:Nat)(hQ:6*q+2<=Q)(out:List Item):∀(m M:Nat) (it:List Item) (p:Nat),l.length-p<m->l.length-p<M->(out++it).length+(l.length-p)<=1000000 ->
  I5 l out ((9-q:Nat):Int) (2000000+3*q+1) (expr_parser_row_c257.l1 n (R Q) M tO l p (out++it) 0 ((9-q:Nat):Int)) (lT l (pF l q) m it p):=by
 intro m
 induction m with
 |zero=>intro M it p h;omega
 |succ m ih=>
  intro M it p hm hM ho;obtain⟨M,rfl⟩:∃M',M=M'+1:=⟨M-1,by omega⟩
  rw[expr_parser_row_c257.l1,qL tO (by simp) l p hl,lT];by_cases hs:dR l p 42=true
  ·have hs':=bC.1 hs;rw[if_pos ⟨hs'.1,hs'.2.1,by rw[hs'.2.2];decide⟩,if_pos hs,Pt,hs'.2.2];dsimp only;rw[if_neg (by decide)];obtain⟨Q,rfl⟩:∃Q',Q=Q'+1:=⟨Q-1,by omega⟩
   have e:(R (Q+1)).expr_parser_sum_1_1 ((9-q:Nat):Int) l ((p+1:Nat):Int) (out++it) 0=expr_parser_sum_1_1.h (R Q) ((9-q:Nat):Int) l ((p+1:Nat):Int) (out++it) 0:=rfl;rw[e];unfold expr_parser_sum_1_1.h expr_parser_sum_1_1.f;have hg:=bM l q (p+1);have hr:=hF (p+1) (out++it) Q (by omega) (by omega);cases hx:pF l q (p+1) with
   |error e=>
    rw[hx] at hr;obtain⟨p',out',h1,h2⟩:=hr;have hne:=gZ hg hx;have hlt:=hs'.1;rw[h1,Pt,Pt];dsimp only;rw[jD _ _ _ _ _ _ _ (by omega),Pt];dsimp only;obtain⟨M,rfl⟩:∃M',M=M'+1:=⟨M-1,by omega⟩
    rw[Dx n _ M l p' _ e _ hne];exact⟨p',_,rfl,by simp;omega⟩
   |ok r=>
    rw[hx] at hr hg;have hr:(R Q).expr_parser_factor ((9-q:Nat):Int) l ((p+1:Nat):Int) (out++it) 0=some (l,(r.2:Int),(out++it)++r.1,0,()):=hr;have g1:=hg.lt;have g2:=hg.len;have g3:=hg.le;rw[hr,Pt,Pt];dsimp only;rw[jD _ _ _ _ _ _ _ (by simp at ho⊢;omega),Pt];dsimp only;have:=ih M (it++r.1++[(6,0,[],())]) r.2 (by omega) (by omega) (by simp at ho⊢;omega);rw[show out++it++r.1++[((L.kinds [42]).1,0,[],())]=out++(it++r.1++[(6,0,[],())]) by simp[L.kinds]];exact this
  ·rw[if_neg (fun h=>hs (bC.2 ⟨h.1,h.2.1,by simpa using h.2.2⟩)),if_neg hs,Pt];rfl
theorem NE{l:List az}(hl:l.length<=1000000){q:Nat}(hq9:q<=9)(hF:Bd l q):Kj l q:=by
 intro p out Q ho hQ;obtain⟨Q,rfl⟩:∃Q',Q=Q'+2:=⟨Q-2,by omega⟩
 have e:(R (Q+2)).expr_parser_sum_1 ((9-q:Nat):Int) l (p:Int) out 0=expr_parser_sum_1.h (R (Q+1)) ((9-q:Nat):Int) l (p:Int) out 0:=rfl;rw[e];unfold expr_parser_sum_1.h expr_parser_sum_1.f;have e2:(R (Q+1)).expr_parser_row_c257 tO l (p:Int) out 0 ((9-q:Nat):Int)=expr_parser_row_c257.h (R Q) tO l (p:Int) out 0 ((9-q:Nat):Int):=rfl;rw[e2];unfold expr_parser_row_c257.h expr_parser_row_c257.f;obtain⟨N,hN⟩:∃N,1000+tO.length+l.length+(p:Int).toNat+out.length+(0:Int).toNat+(((9-q:Nat):Int)).toNat=N:=⟨_,rfl⟩
 rw[hN];obtain⟨Q,rfl⟩:∃Q',Q=Q'+1:=⟨Q-1,by omega⟩
 have e3:(R (Q+1)).expr_parser_sum_1_1 ((9-q:Nat):Int) l (p:Int) out 0=expr_parser_sum_1_1.h (R Q) ((9-q:Nat):Int) l (p:Int) out 0:=rfl;rw[e3];unfold expr_parser_sum_1_1.h expr_parser_sum_1_1.f;have hg:=bM l q p;have hr:=hF p out Q (by omega) (by omega);unfold xT;cases hx:pF l q p with
 |error e=>
  rw[hx] at hr;obtain⟨p',out',h1,h2⟩:=hr;have hne:=gZ hg hx;rw[h1,Pt,Pt];dsimp only;obtain⟨M,rfl⟩:∃M',N=M'+1:=⟨N-1,by omega⟩
  rw[Dx _ _ M l p' _ e _ hne,Pt];exact⟨some (l,p',out',e,()),rfl,p',out',rfl,by omega⟩
 |ok r=>
  rw[hx] at hr hg;have hr:(R Q).expr_parser_factor ((9-q:Nat):Int) l (p:Int) out 0=some (l,(r.2:Int),out++r.1,0,()):=hr;have g1:=hg.lt;have g2:=hg.len;have g3:=hg.le;rw[hr,Pt,Pt];dsimp only;have:=ND hl hq9 hF N (Q+1) (by omega) out (l.length+1) N r.1 r.2 (by omega) (by omega) (by simp;omega);generalize expr_parser_row_c257.l1 N (R (Q+1)) N tO l (r.2:Int) (out++r.1) 0 ((9-q:Nat):Int)=X at this;cases hy:lT l (pF l q) (l.length+1) r.1 r.2 with
  |error e=>
   rw[hy] at this;obtain⟨p',out',h1,h2⟩:=this;rw[h1,Pt];exact⟨some (l,p',out',e,()),rfl,p',out',rfl,h2⟩
  |ok x=>
   rw[hy] at this;have this:X=some (l,(x.2:Int),out++x.1,0,(),((9-q:Nat):Int),()):=this;rw[this,Pt];exact⟨some (l,(x.2:Int),out++x.1,0,()),rfl,rfl⟩
theorem NA{l:List az}(hl:l.length<=1000000){q:Nat}(hq9:q<=9)(hT:Kj l q)(n:Nat)(Q:Nat)(hQ:6*q+4<=Q)(out:List Item):∀(m M:Nat) (it:List Item) (p:Nat),l.length-p<m->l.length-p<M->(out++it).length+(l.length-p)<=1000000 ->
  I5 l out ((9-q:Nat):Int) (2000000+3*q+2) (expr_parser_row_c256.l1 n (R Q) M qK l p (out++it) 0 ((9-q:Nat):Int)) (lS l (xT l (pF l q)) m it p):=by
 intro m
 induction m with
 |zero=>intro M it p h;omega
 |succ m ih=>
  intro M it p hm hM ho;obtain⟨M,rfl⟩:∃M',M=M'+1:=⟨M-1,by omega⟩
  rw[expr_parser_row_c256.l1,qL qK (by simp) l p hl,lS];have step:∀(c:UInt8) (K:Int),(L.kinds [c]).1=K->dR l p c=true ->
    I5 l out ((9-q:Nat):Int) (2000000+3*q+2) (((R Q).expr_parser_sum_1 ((9-q:Nat):Int) l ((p+1:Nat):Int) (out++it) 0).bind fun y2=>(Zbk.g ((L.kinds [c]).1) 0 ([]:Str) y2.2.2.1 y2.2.2.2.1 y2.2.2.2.2.1 y2.2.2.2.2.2.1).bind fun y3=>(expr_parser_row_c256.l1 n (R Q) M) qK y3.1 y3.2.1 y3.2.2.1 y3.2.2.2.1 y2.2.1)
     (match xT l (pF l q) (p+1) with | .error e=>.error e | .ok r=>lS l (xT l (pF l q)) m (it++r.1++[(K,0,[],())]) r.2):=by
   intro c K hK hs;have hs':=bC.1 hs;have hlt:=hs'.1;have hg:=mh (bM l q) (p+1);obtain⟨rr,h0,hr⟩:=hT (p+1) (out++it) Q (by omega) hQ;rw[h0];cases hx:xT l (pF l q) (p+1) with
   |error e=>
    rw[hx] at hr;obtain⟨p',out',h1,h2⟩:=hr;have hne:=gZ hg hx;rw[h1,Ql,Pt];dsimp only;rw[jD _ _ _ _ _ _ _ (by omega),Pt];dsimp only;obtain⟨M,rfl⟩:∃M',M=M'+1:=⟨M-1,by omega⟩
    rw[Dw n _ M l p' _ e _ hne];exact⟨p',_,rfl,by simp;omega⟩
   |ok r=>
    rw[hx] at hr hg;have hr:rr=some (l,(r.2:Int),(out++it)++r.1,0,()):=hr;have g1:=hg.lt;have g2:=hg.len;have g3:=hg.le;rw[hr,Ql,Pt];dsimp only;rw[jD _ _ _ _ _ _ _ (by simp at ho⊢;omega),Pt];dsimp only;have:=ih M (it++r.1++[(K,0,[],())]) r.2 (by omega) (by omega) (by simp at ho⊢;omega);rw[hK,show out++it++r.1++[(K,0,[],())]=out++(it++r.1++[(K,0,[],())]) by simp];exact this
  by_cases hs:dR l p 43=true;·have hs':=bC.1 hs;rw[if_pos ⟨hs'.1,hs'.2.1,by rw[hs'.2.2];decide⟩,if_pos hs,Pt,hs'.2.2];dsimp only;rw[if_neg (by decide)];exact step 43 4 rfl hs
  ·by_cases hs2:dR l p 45=true
   ·have hs':=bC.1 hs2;rw[if_pos ⟨hs'.1,hs'.2.1,by rw[hs'.2.2];decide⟩,if_neg hs,if_pos hs2,Pt,hs'.2.2];dsimp only;rw[if_neg (by decide)];exact step 45 5 rfl hs2
   ·rw[if_neg (fun h=>by
     have h3:=h.2.2;simp only[PM,List.not_mem_nil,or_false] at h3;rcases h3 with h3|h3;·exact hs (bC.2 ⟨h.1,h.2.1,h3⟩)
     ·exact hs2 (bC.2 ⟨h.1,h.2.1,h3⟩)),if_neg hs,if_neg hs2,Pt]
    rfl
theorem NB{l:List az}(hl:l.length<=1000000){q:Nat}(hq9:q<=9)(hT:Kj l q):N8 l q:=by
 intro p out Q ho hQ;obtain⟨Q,rfl⟩:∃Q',Q=Q'+2:=⟨Q-2,by omega⟩
 have e:(R (Q+2)).expr_parser_sum ((9-q:Nat):Int) l (p:Int) out 0=expr_parser_sum.h (R (Q+1)) ((9-q:Nat):Int) l (p:Int) out 0:=rfl;rw[e];unfold expr_parser_sum.h expr_parser_sum.f;have e2:(R (Q+1)).expr_parser_row_c256 qK l (p:Int) out 0 ((9-q:Nat):Int)=expr_parser_row_c256.h (R Q) qK l (p:Int) out 0 ((9-q:Nat):Int):=rfl;rw[e2];unfold expr_parser_row_c256.h expr_parser_row_c256.f;obtain⟨N,hN⟩:∃N,1000+qK.length+l.length+(p:Int).toNat+out.length+(0:Int).toNat+(((9-q:Nat):Int)).toNat=N:=⟨_,rfl⟩
 rw[hN];have hg:=mh (bM l q) p;obtain⟨rr,h0,hr⟩:=hT p out Q (by omega) (by omega);rw[h0];unfold xS;cases hx:xT l (pF l q) p with
 |error e=>
  rw[hx] at hr;obtain⟨p',out',h1,h2⟩:=hr;have hne:=gZ hg hx;rw[h1,Ql,Pt];dsimp only;obtain⟨M,rfl⟩:∃M',N=M'+1:=⟨N-1,by omega⟩
  rw[Dw _ _ M l p' _ e _ hne,Pt];exact⟨p',out',rfl,by omega⟩
 |ok r=>
  rw[hx] at hr hg;have hr:rr=some (l,(r.2:Int),out++r.1,0,()):=hr;have g1:=hg.lt;have g2:=hg.len;have g3:=hg.le;rw[hr,Ql,Pt];dsimp only;have:=NA hl hq9 hT N Q (by omega) out (l.length+1) N r.1 r.2 (by omega) (by omega) (by simp;omega);generalize expr_parser_row_c256.l1 N (R Q) N qK l (r.2:Int) (out++r.1) 0 ((9-q:Nat):Int)=X at this;cases hy:lS l (xT l (pF l q)) (l.length+1) r.1 r.2 with
  |error e=>
   rw[hy] at this;obtain⟨p',out',h1,h2⟩:=this;rw[h1,Pt];exact⟨p',out',rfl,h2⟩
  |ok x=>
   rw[hy] at this;have this:X=some (l,(x.2:Int),out++x.1,0,(),((9-q:Nat):Int),()):=this;rw[this,Pt];rfl
theorem O0{l:List az}(hl:l.length<=1000000){q:Nat}(hq9:q+1<=9)(hF:Bd l q)(hS:N8 l q):Bd l (q+1):=by
 intro p out Q ho hQ;obtain⟨Q,rfl⟩:∃Q',Q=Q'+1:=⟨Q-1,by omega⟩
 have e:(R (Q+1)).expr_parser_factor ((9-(q+1):Nat):Int) l (p:Int) out 0=expr_parser_factor.h (R Q) ((9-(q+1):Nat):Int) l (p:Int) out 0:=rfl;rw[e];unfold expr_parser_factor.h expr_parser_factor.f;have hd:IntKind.i64.wrap (((9-(q+1):Nat):Int)+1)=((9-q:Nat):Int):=by rw[w64 (by omega)];omega
 rw[if_neg (by decide),if_neg (by simp;omega),qL [[45],[40]] (by simp) l p hl,hd];show El l out _ _ (xF l (xS l (pF l q)) (pF l q) p);unfold xF;by_cases h1:dR l p 45=true
 ·have hs':=bC.1 h1;rw[if_pos ⟨hs'.1,hs'.2.1,by rw[hs'.2.2];decide⟩,if_pos h1,Pt,hs'.2.2];dsimp only;rw[if_pos (by decide)];have hlt:=hs'.1;have hg:=bM l q (p+1);have hr:=hF (p+1) out Q (by omega) (by omega);cases hx:pF l q (p+1) with
  |error e=>
   rw[hx] at hr;obtain⟨p',out',h3,h2⟩:=hr;rw[h3,Pt];dsimp only;rw[jD _ _ _ _ _ _ _ (by omega),Pt];exact⟨p',_,rfl,by simp;omega⟩
  |ok r=>
   rw[hx] at hr hg;have hr:(R Q).expr_parser_factor ((9-q:Nat):Int) l ((p+1:Nat):Int) out 0=some (l,(r.2:Int),out++r.1,0,()):=hr;have g1:=hg.lt;have g2:=hg.len;have g3:=hg.le;rw[hr,Pt];dsimp only;rw[jD _ _ _ _ _ _ _ (by simp;omega),Pt];show some (l,(r.2:Int),out++r.1++[(3,0,[],())],0,())=some (l,(r.2:Int),out++(r.1++[(3,0,[],())]),0,());rw[PU]
 ·by_cases h2:dR l p 40=true
  ·have hs':=bC.1 h2;rw[if_pos ⟨hs'.1,hs'.2.1,by rw[hs'.2.2];decide⟩,if_neg h1,if_pos h2,Pt,hs'.2.2];dsimp only;rw[if_neg (by decide),if_pos (by decide)];have hlt:=hs'.1;have hg:=jB (bM l q) (p+1);have hr:=hS (p+1) out Q (by omega) (by omega);cases hx:xS l (pF l q) (p+1) with
   |error e=>
    rw[hx] at hr;obtain⟨p',out',h3,h4⟩:=hr;have hne:=gZ hg hx;rw[h3,Pt];dsimp only;rw[wo _ (by simp) l p' out' e hne,Pt];dsimp only;rw[if_pos (show(!false)=true from rfl),JB 23 l p' out' e hne,Pt];exact⟨p',out',rfl,by omega⟩
   |ok r=>
    rw[hx] at hr hg;have hr:(R Q).expr_parser_sum ((9-q:Nat):Int) l ((p+1:Nat):Int) out 0=some (l,(r.2:Int),out++r.1,0,()):=hr;have g1:=hg.lt;have g2:=hg.len;have g3:=hg.le;rw[hr,Pt];dsimp only;rw[qL [[41]] (by simp) l r.2 hl];by_cases h3:dR l r.2 41=true;·have hs2:=bC.1 h3;rw[if_pos ⟨hs2.1,hs2.2.1,by rw[hs2.2.2];decide⟩,if_pos h3,Pt];dsimp only;rw[if_neg (by decide)];rfl
    ·rw[if_neg (fun h=>h3 (bC.2 ⟨h.1,h.2.1,by simpa using h.2.2⟩)),if_neg h3,Pt];dsimp only;rw[if_pos (show(!false)=true from rfl),oK,Pt];exact⟨_,_,rfl,by simp;omega⟩
  ·rw[if_neg (fun h=>by
     have h3:=h.2.2;simp only[PM,List.not_mem_nil,or_false] at h3;rcases h3 with h3|h3;·exact h1 (bC.2 ⟨h.1,h.2.1,h3⟩)
     ·exact h2 (bC.2 ⟨h.1,h.2.1,h3⟩)),if_neg h1,if_neg h2,Pt]
   dsimp only;rw[if_neg (show ¬decide (([]:Str)=[45])=true by decide),if_neg (show ¬decide (([]:Str)=[40])=true by decide)];by_cases hp:p<l.length
   ·rw[DI l p out hp,Pt];dsimp only;generalize ht:l.getD p aT=t;by_cases k2:t.1=2
    ·rw[if_pos (show true=true from rfl),if_pos (show decide (t.1=2)=true by simp[k2]),if_pos (show p<l.length/\t.1=2 from⟨hp,k2⟩),jD _ _ _ _ _ _ _ (by omega),Pt];unfold expr_parser_factor.j19;dsimp only;rw[w64 (by omega)];rfl
    ·rw[if_pos (show true=true from rfl),if_neg (show ¬decide (t.1=2)=true by simp[k2]),if_pos (show true=true from rfl),if_neg (show ¬(p<l.length/\t.1=2) from fun h=>k2 h.2)];by_cases k1:t.1=1
     ·rw[if_pos (show decide (t.1=1)=true by simp[k1]),vP,Pt];dsimp only;by_cases hL:aK t.2.2.1=true
      ·rw[if_pos hL,if_pos (show p<l.length/\t.1=1/\aK t.2.2.1=true from⟨hp,k1,hL⟩),jD _ _ _ _ _ _ _ (by omega),Pt];unfold expr_parser_factor.j19;dsimp only;rw[w64 (by omega)];rfl
      ·rw[if_neg hL,if_neg (show ¬(p<l.length/\t.1=1/\aK t.2.2.1=true) from fun h=>hL h.2.2),oK,Pt];exact⟨_,_,rfl,by dsimp only;omega⟩
     ·rw[if_neg (show ¬decide (t.1=1)=true by simp[k1]),if_neg (show ¬(p<l.length/\t.1=1/\aK t.2.2.1=true) from fun h=>k1 h.2.1),oK,Pt];exact⟨_,_,rfl,by dsimp only;omega⟩
   ·rw[A7 l p out (by omega),Pt];dsimp only;rw[if_neg (show ¬false=true by decide),if_neg (show ¬false=true by decide),if_neg (show ¬(p<l.length/\(l.getD p aT).1=2) from fun h=>hp h.1),if_neg (show ¬(p<l.length/\(l.getD p aT).1=1/\aK (l.getD p aT).2.2.1=true) from fun h=>hp h.1),oK,Pt];exact⟨_,_,rfl,by dsimp only;omega⟩
theorem Ej{l:List az}(hl:l.length<=1000000):∀q,q<=9->Bd l q
 |0,_=>fun p out Q ho hQ=>by
  obtain⟨Q,rfl⟩:∃Q',Q=Q'+1:=⟨Q-1,by omega⟩
  exact⟨_,_,Ny Q l p out,by omega⟩
 |q+1,h=>O0 hl h (Ej hl q (by omega)) (NB hl (by omega) (NE hl (by omega) (Ej hl q (by omega))))
theorem He(l:List az)(hl:l.length<=1000000)(p:Nat):Zci.g l p=some (dM l p):=by
 unfold Zci.g Zci.f expr_parser_sum.g;have hr:=NB hl (by decide) (NE hl (by decide) (Ej hl 9 (by decide))) p [] (1000+(0:Int).toNat+l.length+(p:Int).toNat+([]:List Item).length+(0:Int).toNat) (by simp;omega) (by omega);have hg:=jB (bM l 9) p;unfold dM;cases hx:xS l (pF l 9) p with
 |error e=>
  rw[hx] at hr;obtain⟨p',out',h3,_⟩:=hr;have hne:=gZ hg hx;rw[show((9-9:Nat):Int)=0 from rfl] at h3;rw[h3,Pt];dsimp only;rw[if_neg (by simpa using hne)];unfold Zci.j5;rw[if_pos (by simpa using hne)]
 |ok r=>
  rw[hx] at hr;have hr:(R (1000+(0:Int).toNat+l.length+(p:Int).toNat+([]:List Item).length+(0:Int).toNat)).expr_parser_sum ((9-9:Nat):Int) l (p:Int) [] 0=some (l,(r.2:Int),[]++r.1,0,()):=hr;rw[show((9-9:Nat):Int)=0 from rfl] at hr;rw[hr,Pt];dsimp only;rw[if_pos (show decide ((0:Int)=0)=true from rfl),Qi];by_cases h64:64<r.1.length;·rw[if_pos (by simp;omega),if_pos h64];unfold Zci.j5;rw[if_pos (by decide)]
  ·rw[if_neg (by simp;omega),if_neg h64];unfold Zci.j5;rw[if_neg (by decide)]
end Rv
