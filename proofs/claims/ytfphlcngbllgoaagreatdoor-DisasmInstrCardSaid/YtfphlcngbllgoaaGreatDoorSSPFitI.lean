/- Texts put together. -/
import Derived.Test.YtfphlcngbllgoaaGreatDoorSS3
set_option linter.all false
namespace Rv
open Go
theorem yG(x:Int)(m:Nat)(hm:m<9223372036854775808):0<=aC .and .i64 x (m:Int)/\aC .and .i64 x (m:Int)<=(m:Int):=by
 have h1:(BitVec.ofInt 64 x &&& BitVec.ofInt 64 (m:Int)).toNat<=m:=by
  rw[BitVec.toNat_and];refine UW Nat.and_le_right ?_;rw[BitVec.toNat_ofInt];omega
 show 0<=IntKind.i64.wrap (((BitVec.ofInt 64 x &&& BitVec.ofInt 64 (m:Int)).toNat:Nat):Int)/\IntKind.i64.wrap (((BitVec.ofInt 64 x &&& BitVec.ofInt 64 (m:Int)).toNat:Nat):Int)<=(m:Int);rw[w64 (by omega)];omega
theorem Mv(x:Int):-65536<=IntKind.i64.wrap (aC .and .i64 x 131071-65536)/\IntKind.i64.wrap (aC .and .i64 x 131071-65536)<=65535:=by
 have:=yG x 131071 (by decide);simp only[Int.cast_ofNat_Int] at this;rw[w64 (by omega)];omega
theorem PU(x:Int):-524288<=IntKind.i64.wrap (aC .and .i64 x 1048575-524288)/\IntKind.i64.wrap (aC .and .i64 x 1048575-524288)<=524287:=by
 have:=yG x 1048575 (by decide);simp only[Int.cast_ofNat_Int] at this;rw[w64 (by omega)];omega
theorem PV(x:Int):-8388608<=IntKind.i64.wrap (aC .and .i64 x 16777215-8388608)/\IntKind.i64.wrap (aC .and .i64 x 16777215-8388608)<=8388607:=by
 have:=yG x 16777215 (by decide);simp only[Int.cast_ofNat_Int] at this;rw[w64 (by omega)];omega
def yX(K:Int)(r:Option (Int×Int×Int×Int×Int×Int×Bool×Unit)):Prop:=∃O A B C I U,r=some (K,O,A,B,C,I,U,())/\bB K O A B C U/\gG K O I U
theorem gz{a b c d e f:Int}{g:Bool}(h:bB a b c d e g)(hi:gG a b f g):yX a (some (a,b,c,d,e,f,g,())):=⟨_,_,_,_,_,_,rfl,h,hi⟩
theorem Jb(n:Nat)(op a0 a1 a2 a3 a4 a5:Int)(a6:Bool)(b0 b1 b2 b3 b4 b5:Int)(b6:Bool)(k c d:Int)(u:Bool)(hk:k=1\/k=2)(ho:0<=op/\op<12)(hu:u=true->8<=op/\op<=10)(hc:rg c)(hd:rg d)(h0:op=0->d=0) :
  yX k (Zag.j10 n op a0 a1 a2 a3 a4 a5 a6 b0 b1 b2 b3 b4 b5 b6 k op c d 0 0 u):=by
 unfold Zag.j10;by_cases e1:k=1
 ·rw[if_pos (by simp[e1])];subst e1;by_cases e2:op=0
  ·subst e2;obtain rfl:=h0 rfl;have:u=false:=by cases u;rfl;exact absurd (hu rfl).1 (by decide)
   subst this;exact gz (.mov hc (ed _)) (.inr (.inr (.inr ⟨by decide,by decide,by decide,rfl⟩)))
  ·exact gz (.reg (by omega) ho.2 hc hd (ed _) hu) (.inr (.inr (.inr ⟨by decide,by decide,by decide,rfl⟩)))
 ·obtain rfl:k=2:=by omega
  rw[if_neg (by decide)];by_cases e2:op=0
  ·subst e2;obtain rfl:=h0 rfl;have:u=false:=by cases u;rfl;exact absurd (hu rfl).1 (by decide)
   subst this;rw[if_pos (by decide)];unfold Zag.j25;split;·have:=yG a5 65535 (by decide);simp only[Int.cast_ofNat_Int] at this;exact gz (.movi hc) (.inl ⟨rfl,by omega,by omega,fun _ _=>this.1⟩)
   ·have:=Mv a5;exact gz (.movi hc) (.inl ⟨rfl,this.1,this.2,fun _ h=>by cases h⟩)
  ·rw[if_neg (by simp[e2])];have:=Mv a5;exact gz (.imm (by omega) ho.2 hc hd hu) (.inl ⟨rfl,this.1,this.2,fun h=>absurd h e2⟩)
theorem Sg(n:Nat)(op a0 a1 a2 a3 a4 a5:Int)(a6:Bool)(b0 b1 b2 b3 b4 b5:Int)(b6:Bool)(k c:Int)(hk:k=1\/k=2)(ho:0<=op/\op<12)(hc:rg c) :
  yX k (Zag.j7 n op a0 a1 a2 a3 a4 a5 a6 b0 b1 b2 b3 b4 b5 b6 k op c 0 0 0 false):=by
 have h9:∀d,rg d->(op=0->d=0)->yX k (Zag.j9 n op a0 a1 a2 a3 a4 a5 a6 b0 b1 b2 b3 b4 b5 b6 k op c d 0 0 false):=by
  intro d hd h0;unfold Zag.j9;by_cases e1:a6=true
  ·rw[if_pos e1];by_cases e2:(8:Int)<=op
   ·rw[if_pos (by simpa using e2)];exact Jb _ _ _ _ _ _ _ _ _ _ _ _ _ _ _ _ _ _ _ _ hk ho (fun h=>⟨e2,by simpa using h⟩) hc hd h0
   ·rw[if_neg (by simpa using e2)];exact Jb _ _ _ _ _ _ _ _ _ _ _ _ _ _ _ _ _ _ _ _ hk ho (fun h=>by cases h) hc hd h0
  ·rw[if_neg e1];exact Jb _ _ _ _ _ _ _ _ _ _ _ _ _ _ _ _ _ _ _ _ hk ho (fun h=>by cases h) hc hd h0
 unfold Zag.j7;by_cases e:op=0;·rw[if_neg (by simp[e])];exact h9 0 ⟨by decide,by decide⟩ fun _=>rfl
 ·rw[if_pos (by simp[e])];exact h9 _ (ed _) fun h=>absurd h e
theorem Qw(i0 i1 i2 i3 i4 i5:Int)(u:Bool):yX (1+Int.tmod (Int.tmod i0 7+7) 7) (Zag.g i0 i1 i2 i3 i4 i5 u):=by
 unfold Zag.g;generalize 1000+i0.toNat+i1.toNat+i2.toNat+i3.toNat+i4.toNat+i5.toNat=n;unfold Zag.f;have t1:=Dq i0 (m:=7) (by decide);have t2:=Dq i1 (m:=12) (by decide);have e1:IntKind.i64.wrap (Int.tmod i0 7+7)=Int.tmod i0 7+7:=w64 (by omega);have e2:IntKind.i64.wrap (Int.tmod i1 12+12)=Int.tmod i1 12+12:=w64 (by omega);rw[e1,e2];have t3:=Dq (Int.tmod i0 7+7) (m:=7) (by decide);have t4:=Dq (Int.tmod i1 12+12) (m:=12) (by decide);have t5:0<=Int.tmod (Int.tmod i0 7+7) 7:=Int.tmod_nonneg _ (by omega);have t6:0<=Int.tmod (Int.tmod i1 12+12) 12:=Int.tmod_nonneg _ (by omega);generalize Int.tmod (Int.tmod i0 7+7) 7=q at *;generalize Int.tmod (Int.tmod i1 12+12) 12=op at *;have e3:IntKind.i64.wrap (1+q)=1+q:=w64 (by omega);rw[e3];clear e1 e2 e3 t1 t2;generalize hk:1+q=k;simp only[dt];have hop:0<=op/\op<12:=⟨t6,t4.2⟩
 have m3:=P5 i1;by_cases k1:k=1;·rw[if_pos k1,if_pos k1];exact Sg _ _ _ _ _ _ _ _ _ _ _ _ _ _ _ _ _ _ (Or.inl k1) hop (ed _)
 ·rw[if_neg k1];by_cases k2:k=2
  ·rw[if_pos k2];exact Sg _ _ _ _ _ _ _ _ _ _ _ _ _ _ _ _ _ _ (Or.inr k2) hop (ed _)
  ·rw[if_neg k2];by_cases k5:k=5
   ·rw[if_pos k5,k5];exact gz (.mem m3.1 m3.2 (ed _) (ed _)) (.inr (.inl ⟨rfl,(PU _).1,(PU _).2⟩))
   ·rw[if_neg k5];by_cases k6:k=6
    ·rw[if_pos k6,k6];exact gz (.br (ed _) (ed _)) (.inr (.inr (.inr ⟨by decide,by decide,by decide,rfl⟩)))
    ·rw[if_neg k6];by_cases k7:k=7
     ·rw[if_pos k7,k7];exact gz (.jmp (ed _)) (.inr (.inr (.inl ⟨rfl,(PV _).1,(PV _).2⟩)))
     ·rw[if_neg k7];have:k=3\/k=4:=by omega
      rcases this with rfl|rfl;·exact gz (.hi (ed _)) (.inr (.inr (.inr ⟨by decide,by decide,by decide,rfl⟩)))
      ·exact gz (.fl (ed _)) (.inr (.inr (.inr ⟨by decide,by decide,by decide,rfl⟩)))
end Rv
