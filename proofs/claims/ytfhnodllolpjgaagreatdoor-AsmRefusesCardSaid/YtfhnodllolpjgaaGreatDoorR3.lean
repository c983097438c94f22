/- Texts put together. -/
import Derived.Test.YtfhnodllolpjgaaGreatDoorR2
import Derived.Test.YtfhnodllolpjgaaGreatDoorR1
set_option linter.all false
namespace Rv
open Go
def ImmP (k o i:Int) (u:Bool):Prop:=
 (k=2∧-65536≤i∧i≤65535∧(o=0→u=true→0≤i))∨(k=5∧-524288≤i∧i≤524287)∨(k=7∧-8388608≤i∧i≤8388607)∨(k≠2∧k≠5∧k≠7∧i=0)
instance (k o i:Int) (u:Bool):Decidable (ImmP k o i u):=by unfold ImmP; infer_instance
theorem get_mod (W:W32) {n:Nat} (hn:n≤32):(getV W 0 n).toNat=W.toNat % 2 ^ n:=by
 refine Nat.eq_of_testBit_eq fun j=>?_
 rw [Nat.testBit_mod_two_pow]
 by_cases hj:j < 32
 ·have:=getV_bit W (a:=0) hn hj
  rw [Nat.zero_add] at this
  exact this
 ·have h1:(getV W 0 n).toNat.testBit j=false:=BitVec.getLsbD_of_ge _ _ (by omega)
  rw [h1,decide_eq_false (by omega),Bool.false_and]
theorem gn_imm (W:W32) (i:Int) {n:Nat} (hn:n≤32):Gn (setV W (BitVec.ofInt 32 i) 0 n) 0 n=i % 2 ^ n:=by
 unfold Gn
 rw [get_in W _ (by omega) (Nat.le_refl _) (Nat.le_refl _),Nat.sub_self,get_mod _ hn,BitVec.toNat_ofInt]
 have e:((2 ^ n:Nat):Int)=2 ^ n:=by rw [Int.natCast_pow]; rfl
 have e2:((2 ^ 32:Nat):Int)=2 ^ 32:=rfl
 rw [Int.natCast_emod,Int.toNat_of_nonneg (Int.emod_nonneg _ (by decide)),e]
 refine Int.emod_emod_of_dvd i ?_
 obtain ⟨d,hd⟩:=Nat.exists_eq_add_of_le hn
 refine ⟨2 ^ d,?_⟩
 rw [e2,← Int.pow_add,← hd]
theorem sg20 (W:W32):sgV W 20=if Gn W 0 20 < 524288 then Gn W 0 20 else Gn W 0 20 - 1048576:=by
 unfold sgV Gn
 rw [get_mod W (by decide),BitVec.toNat_shiftLeft,Nat.shiftLeft_eq,Int.fdiv_eq_ediv_of_nonneg _ (by decide),IntKind.wrap_i32,IntKind.wrap_i64]
 have:=W.isLt
 generalize W.toNat=q at *
 show _=if ((q % 1048576:Nat):Int) < 524288 then ((q % 1048576:Nat):Int) else ((q % 1048576:Nat):Int) - 1048576
 simp only [Nat.reducePow,Nat.reduceSub,Int.reducePow]
 split <;> omega
theorem sg24 (W:W32):sgV W 24=if Gn W 0 24 < 8388608 then Gn W 0 24 else Gn W 0 24 - 16777216:=by
 unfold sgV Gn
 rw [get_mod W (by decide),BitVec.toNat_shiftLeft,Nat.shiftLeft_eq,Int.fdiv_eq_ediv_of_nonneg _ (by decide),IntKind.wrap_i32,IntKind.wrap_i64]
 have:=W.isLt
 generalize W.toNat=q at *
 show _=if ((q % 16777216:Nat):Int) < 8388608 then ((q % 16777216:Nat):Int) else ((q % 16777216:Nat):Int) - 16777216
 simp only [Nat.reducePow,Nat.reduceSub,Int.reducePow]
 split <;> omega
theorem read_immI {o a b i:Int} {u:Bool} (ho:rg o) (ha:rg a) (hb:rg b) (hi:-65536≤i∧i≤65535):readT (wordV 2 o a b 0 i u)=(2,o,a,b,0,i,u,()):=by
 obtain ⟨h1,h2,h3⟩:=hd_gn 1 (by decide) u (decide (i < 0))
 generalize hW:wordV 2 o a b 0 i u=W
 unfold wordV flds at hW
 rw [if_neg (by decide),if_neg (by decide),if_pos rfl] at hW
 simp only [layF] at hW
 have w1:Gn W 30 2=1:=by rw [← hW,gn_out _ _ (by decide) (by decide) (by decide),gn_out _ _ (by decide) (by decide) (by decide),gn_out _ _ (by decide) (by decide) (by decide),gn_out _ _ (by decide) (by decide) (by decide),gn_sub _ _ (by decide) (by decide) (by decide)]; exact h1
 have w2:Gn W 29 1=if u then 1 else 0:=by rw [← hW,gn_out _ _ (by decide) (by decide) (by decide),gn_out _ _ (by decide) (by decide) (by decide),gn_out _ _ (by decide) (by decide) (by decide),gn_out _ _ (by decide) (by decide) (by decide),gn_sub _ _ (by decide) (by decide) (by decide)]; exact h2
 have w7:Gn W 28 1=if decide (i < 0) then 1 else 0:=by rw [← hW,gn_out _ _ (by decide) (by decide) (by decide),gn_out _ _ (by decide) (by decide) (by decide),gn_out _ _ (by decide) (by decide) (by decide),gn_out _ _ (by decide) (by decide) (by decide),gn_sub _ _ (by decide) (by decide) (by decide)]; exact h3
 have w3:Gn W 24 4=a:=by rw [← hW,gn_out _ _ (by decide) (by decide) (by decide),gn_out _ _ (by decide) (by decide) (by decide),gn_out _ _ (by decide) (by decide) (by decide),gn_r _ (by decide) ha]
 have w4:Gn W 20 4=b:=by rw [← hW,gn_out _ _ (by decide) (by decide) (by decide),gn_out _ _ (by decide) (by decide) (by decide),gn_r _ (by decide) hb]
 have w5:Gn W 16 4=o:=by rw [← hW,gn_out _ _ (by decide) (by decide) (by decide),gn_r _ (by decide) ho]
 have w6:Gn W 0 16=i % 65536:=by rw [← hW]; exact gn_imm _ i (by decide)
 unfold readT
 rw [w1,w2,w3,w4,w5,w6,w7,if_neg (by decide),if_pos rfl]
 have e:i % 65536 - (if decide (i < 0) then 1 else 0) * 65536=i:=by
  by_cases h:i < 0
  ·rw [decide_eq_true h,if_pos rfl]; omega
  ·rw [decide_eq_false h,if_neg (by decide)]; omega
 rw [e]
 cases u <;> simp
theorem read_memI {o a b i:Int} (ho:0≤o∧o < 4) (ha:rg a) (hb:rg b) (hi:-524288≤i∧i≤524287):readT (wordV 5 o a b 0 i false)=(5,o,a,b,0,i,false,()):=by
 obtain ⟨h1,h2,h3⟩:=hd_gn 2 (by decide) (decide (2≤o)) (decide (Int.tmod o 2=1))
 generalize hW:wordV 5 o a b 0 i false=W
 unfold wordV flds at hW
 rw [if_neg (by decide),if_neg (by decide),if_neg (by decide),if_pos rfl] at hW
 simp only [layF] at hW
 have w1:Gn W 30 2=2:=by rw [← hW,gn_out _ _ (by decide) (by decide) (by decide),gn_out _ _ (by decide) (by decide) (by decide),gn_out _ _ (by decide) (by decide) (by decide),gn_sub _ _ (by decide) (by decide) (by decide)]; exact h1
 have w2:Gn W 29 1=if decide (2≤o) then 1 else 0:=by rw [← hW,gn_out _ _ (by decide) (by decide) (by decide),gn_out _ _ (by decide) (by decide) (by decide),gn_out _ _ (by decide) (by decide) (by decide),gn_sub _ _ (by decide) (by decide) (by decide)]; exact h2
 have w7:Gn W 28 1=if decide (Int.tmod o 2=1) then 1 else 0:=by rw [← hW,gn_out _ _ (by decide) (by decide) (by decide),gn_out _ _ (by decide) (by decide) (by decide),gn_out _ _ (by decide) (by decide) (by decide),gn_sub _ _ (by decide) (by decide) (by decide)]; exact h3
 have w3:Gn W 24 4=a:=by rw [← hW,gn_out _ _ (by decide) (by decide) (by decide),gn_out _ _ (by decide) (by decide) (by decide),gn_r _ (by decide) ha]
 have w4:Gn W 20 4=b:=by rw [← hW,gn_out _ _ (by decide) (by decide) (by decide),gn_r _ (by decide) hb]
 have w6:sgV W 20=i:=by
  have e:Gn W 0 20=i % 1048576:=by rw [← hW]; exact gn_imm _ i (by decide)
  rw [sg20,e]
  split <;> omega
 have:o=0∨o=1∨o=2∨o=3:=by omega
 unfold readT
 rw [w1,w2,w3,w4,w6,w7,if_neg (by decide),if_neg (by decide),if_pos rfl]
 rcases this with rfl | rfl | rfl | rfl <;> rfl
theorem read_jmpI {o i:Int} {u:Bool} (ho:rg o) (hi:-8388608≤i∧i≤8388607):readT (wordV 7 o 0 0 0 i u)=(7,o,0,0,0,i,u,()):=by
 obtain ⟨h1,h2,h3⟩:=hd_gn 3 (by decide) true u
 generalize hW:wordV 7 o 0 0 0 i u=W
 unfold wordV flds at hW
 rw [if_neg (by decide),if_neg (by decide),if_neg (by decide),if_neg (by decide),if_neg (by decide)] at hW
 simp only [layF] at hW
 have w1:Gn W 30 2=3:=by rw [← hW,gn_out _ _ (by decide) (by decide) (by decide),gn_out _ _ (by decide) (by decide) (by decide),gn_sub _ _ (by decide) (by decide) (by decide)]; exact h1
 have w2:Gn W 29 1=1:=by rw [← hW,gn_out _ _ (by decide) (by decide) (by decide),gn_out _ _ (by decide) (by decide) (by decide),gn_sub _ _ (by decide) (by decide) (by decide)]; exact h2
 have w7:Gn W 28 1=if u then 1 else 0:=by rw [← hW,gn_out _ _ (by decide) (by decide) (by decide),gn_out _ _ (by decide) (by decide) (by decide),gn_sub _ _ (by decide) (by decide) (by decide)]; exact h3
 have w3:Gn W 24 4=o:=by rw [← hW,gn_out _ _ (by decide) (by decide) (by decide),gn_r _ (by decide) ho]
 have w6:sgV W 24=i:=by
  have e:Gn W 0 24=i % 16777216:=by rw [← hW]; exact gn_imm _ i (by decide)
  rw [sg24,e]
  split <;> omega
 unfold readT
 rw [w1,w2,w3,w6,w7,if_neg (by decide),if_neg (by decide),if_neg (by decide),if_pos rfl]
 cases u <;> simp
theorem read_goodI {k o a b c i:Int} {u:Bool} (h:GoodI0 k o a b c u) (hi:ImmP k o i u):readT (wordV k o a b c i u)=(k,o,a,b,c,i,u,()):=by
 have z:rg 0:=⟨by decide,by decide⟩
 unfold ImmP at hi
 have i0:k≠2→k≠5→k≠7→i=0:=fun h2 h5 h7=>by
  rcases hi with ⟨h,_⟩ | ⟨h,_⟩ | ⟨h,_⟩ | ⟨_,_,_,h⟩
  ·exact absurd h h2
  ·exact absurd h h5
  ·exact absurd h h7
  ·exact h
 have hg:=h
 cases h with
 | imm h1 h2 ha hb hu=>exact read_immI ⟨by omega,by omega⟩ ha hb (by omega)
 | movi ha=>exact read_immI z ha z (by omega)
 | mem h1 h2 ha hb=>exact read_memI ⟨h1,h2⟩ ha hb (by omega)
 | jmp ho=>exact read_jmpI ho (by omega)
 | reg h1 h2 ha hb hc hu=>rw [i0 (by decide) (by decide) (by decide)]; exact read_good hg
 | mov ha hc=>rw [i0 (by decide) (by decide) (by decide)]; exact read_good hg
 | hi ha=>rw [i0 (by decide) (by decide) (by decide)]; exact read_good hg
 | fl ha=>rw [i0 (by decide) (by decide) (by decide)]; exact read_good hg
 | br ho hc=>rw [i0 (by decide) (by decide) (by decide)]; exact read_good hg
theorem isa_goodI {k o a b c i:Int} {u:Bool} (h:GoodI0 k o a b c u) (hi:ImmP k o i u):Zas.g k o a b c i u=some (true,()):=by
 have hr:=read_goodI h hi
 have hk:=i0_range h
 unfold Zas.g
 generalize 1000+k.toNat+o.toNat+a.toNat+b.toNat+c.toNat+i.toNat=n
 unfold Zas.f
 rw [between_eq,Option.bind_some]
 dsimp only
 rw [decide_eq_true hk.1,decide_eq_true hk.2.1,if_pos (by decide),between_eq,Option.bind_some]
 dsimp only
 rw [decide_eq_true hk.2.2.1,decide_eq_true hk.2.2.2,if_pos (by decide),iword_eq,Option.bind_some]
 dsimp only
 rw [iread_eq,Option.bind_some,hr]
 dsimp only
 rw [if_neg (by simp)]
 simp only [dt,df,Zas.j10,between_eq,Option.bind_some]
 have i0:k=1→i=0:=fun h1=>by unfold ImmP at hi; omega
 cases h with
 | reg h1 h2 ha hb hc hu=>
  rw [if_pos rfl,if_pos rfl,if_neg (by omega),if_neg (by omega)]
  cases u with
  | false=>rfl
  | true=>simp [hu rfl]
 | mov ha hc=>rw [i0 rfl]; rfl
 | imm h1 h2 ha hb hu=>
  rw [if_neg (by decide),if_pos rfl,if_neg (by omega),if_neg (by omega)]
  cases u with
  | false=>rfl
  | true=>simp [hu rfl]
 | movi ha=>
  cases u with
  | false=>rfl
  | true=>
   have:0≤i:=by unfold ImmP at hi; simp at hi; omega
   show some (decide (0≤i),())=_
   rw [decide_eq_true this]
 | hi ha=>rfl
 | fl ha=>rfl
 | mem h1 h2 ha hb=>rfl
 | br ho hc=>rfl
 | jmp ho=>rfl
theorem isa_onlyI {k o a b c i:Int} {u:Bool} (h:Zas.g k o a b c i u=some (true,())):GoodI0 k o a b c u∧ImmP k o i u:=by
 unfold Zas.g at h
 generalize 1000+k.toNat+o.toNat+a.toNat+b.toNat+c.toNat+i.toNat=n at h
 unfold Zas.f at h
 rw [between_eq,Option.bind_some] at h
 dsimp only at h
 by_cases hk:1≤k∧k≤7
 case neg=>rw [if_neg (by simp; omega)] at h; cases h
 rw [if_pos (by simp [hk]),between_eq,Option.bind_some] at h
 dsimp only at h
 by_cases ho:0≤o∧o≤15
 case neg=>rw [if_neg (by simp; omega)] at h; cases h
 rw [if_pos (by simp [ho]),iword_eq,Option.bind_some] at h
 dsimp only at h
 rw [iread_eq,Option.bind_some] at h
 have s20:=sg20 (wordV k o a b c i u)
 have s24:=sg24 (wordV k o a b c i u)
 have r20:=gn_range (wordV k o a b c i u) 0 (n:=20) (by decide)
 have r24:=gn_range (wordV k o a b c i u) 0 (n:=24) (by decide)
 have r16:=gn_range (wordV k o a b c i u) 0 (n:=16) (by decide)
 generalize hW:wordV k o a b c i u=W at h s20 s24 r20 r24 r16
 have g4:∀ p,rg (Gn W p 4):=fun p=>gn_range W p (n:=4) (by decide)
 have g1:∀ p,0≤Gn W p 1∧Gn W p 1 < 2:=fun p=>gn_range W p (n:=1) (by decide)
 split at h
 ·cases h
 ·rename_i he
  simp only [Bool.not_eq_true',Bool.not_eq_false,Bool.and_eq_true,decide_eq_true_eq,beq_iff_eq,and_true] at he
  obtain ⟨e1,e2,e3,e4,e5,e6,e7⟩:=he
  simp only [dt,df,Zas.j10,between_eq,Option.bind_some] at h
  unfold readT at e1 e2 e3 e4 e5 e6 e7
  split at e1
  ·rename_i f0
   rw [if_pos f0] at e2 e3 e4 e5 e6 e7
   split at e1
   ·rename_i f1
    rw [if_pos f1] at e2 e3 e4 e5 e6 e7
    dsimp only at e1 e2 e3 e4 e5 e6 e7
    have:=g1 28
    subst e2 e4 e5 e7
    have hk3:k=3∨k=4:=by omega
    rcases hk3 with rfl | rfl
    ·exact ⟨.hi (e3 ▸ g4 _),.inr (.inr (.inr ⟨by decide,by decide,by decide,e6⟩))⟩
    ·exact ⟨.fl (e3 ▸ g4 _),.inr (.inr (.inr ⟨by decide,by decide,by decide,e6⟩))⟩
   ·rename_i f1
    rw [if_neg f1] at e2 e3 e4 e5 e6 e7
    dsimp only at e1 e2 e3 e4 e5 e6 e7
    subst e1
    rw [if_pos rfl,if_pos rfl] at h
    by_cases ho0:o=0
    ·subst ho0
     rw [if_pos rfl] at h
     by_cases hb0:b=0
     ·subst hb0
      rw [if_pos rfl,if_pos (by decide)] at h
      cases u with
      | false=>exact ⟨.mov (e3 ▸ g4 _) (e5 ▸ g4 _),.inr (.inr (.inr ⟨by decide,by decide,by decide,e6⟩))⟩
      | true=>rw [if_neg (by decide)] at h; cases h
     ·rw [if_neg hb0] at h; cases h
    ·rw [if_neg ho0] at h
     by_cases h11:11 < o
     ·rw [if_pos h11] at h; cases h
     ·rw [if_neg h11] at h
      refine ⟨.reg (by omega) (by omega) (e3 ▸ g4 _) (e4 ▸ g4 _) (e5 ▸ g4 _) fun hu=>?_,.inr (.inr (.inr ⟨by decide,by decide,by decide,e6⟩))⟩
      subst hu
      simp at h
      exact h
  ·rename_i f0
   rw [if_neg f0] at e2 e3 e4 e5 e6 e7
   split at e1
   ·rename_i f1
    rw [if_pos f1] at e2 e3 e4 e5 e6 e7
    dsimp only at e1 e2 e3 e4 e5 e6 e7
    subst e1 e5
    rw [if_neg (by decide),if_pos rfl] at h
    by_cases ho0:o=0
    ·subst ho0
     rw [if_pos rfl] at h
     by_cases hb0:b=0
     ·subst hb0
      exact ⟨.movi (e3 ▸ g4 _),.inl ⟨rfl,by have:=g1 28; omega,by have:=g1 28; omega,fun _ hu=>by subst hu; simpa using h⟩⟩
     ·rw [if_neg hb0] at h; cases h
    ·rw [if_neg ho0] at h
     by_cases h11:11 < o
     ·rw [if_pos h11] at h; cases h
     ·rw [if_neg h11] at h
      refine ⟨.imm (by omega) (by omega) (e3 ▸ g4 _) (e4 ▸ g4 _) fun hu=>?_,.inl ⟨rfl,by have:=g1 28; omega,by have:=g1 28; omega,fun h0=>absurd h0 ho0⟩⟩
      subst hu
      simp at h
      exact h
   ·rename_i f1
    rw [if_neg f1] at e2 e3 e4 e5 e6 e7
    split at e1
    ·rename_i f2
     rw [if_pos f2] at e2 e3 e4 e5 e6 e7
     dsimp only at e1 e2 e3 e4 e5 e6 e7
     have q1:=g1 29
     have q2:=g1 28
     subst e1 e5 e7
     exact ⟨.mem (by omega) (by omega) (e3 ▸ g4 _) (e4 ▸ g4 _),.inr (.inl ⟨rfl,by rw [e6,s20]; split <;> omega,by rw [e6,s20]; split <;> omega⟩)⟩
    ·rename_i f2
     rw [if_neg f2] at e2 e3 e4 e5 e6 e7
     split at e1
     ·rename_i f3
      rw [if_pos f3] at e2 e3 e4 e5 e6 e7
      dsimp only at e1 e2 e3 e4 e5 e6 e7
      subst e1 e3 e4 e5
      exact ⟨.jmp (e2 ▸ g4 _),.inr (.inr (.inl ⟨rfl,by rw [e6,s24]; split <;> omega,by rw [e6,s24]; split <;> omega⟩))⟩
     ·rename_i f3
      rw [if_neg f3] at e2 e3 e4 e5 e6 e7
      dsimp only at e1 e2 e3 e4 e5 e6 e7
      subst e1 e3 e4
      exact ⟨.br (e2 ▸ g4 _) (e5 ▸ g4 _),.inr (.inr (.inr ⟨by decide,by decide,by decide,e6⟩))⟩
end Rv
namespace Rv
open Go
end Rv
namespace Rv
open Go
section
variable {W X:W32}
end
def encV (k o a b c i:Int) (u:Bool):Int×Int×Unit:=if I0P k o a b c u∧ImmP k o i u∧(0≤a∧a < 16)∧(0≤b∧b < 16)∧(0≤c∧c < 16) then (((wordV k o a b c i u).toNat:Int),0,()) else (0,1,())
theorem good_iff (k o a b c i:Int) (u:Bool):(GoodI0 k o a b c u∧ImmP k o i u)↔I0P k o a b c u∧ImmP k o i u∧(0≤a∧a < 16)∧(0≤b∧b < 16)∧(0≤c∧c < 16):=by
 constructor
 ·rintro ⟨h,hi⟩
  obtain ⟨ha,hb,hc⟩:=i0_rg h
  exact ⟨(i0P_iff ha hb hc).1 h,hi,ha,hb,hc⟩
 ·rintro ⟨h,hi,ha,hb,hc⟩
  exact ⟨(i0P_iff ha hb hc).2 h,hi⟩
theorem ienc_eq (k o a b c i:Int) (u:Bool):Zbw.g k o a b c i u=some (encV k o a b c i u):=by
 unfold encV
 by_cases h:I0P k o a b c u∧ImmP k o i u∧(0≤a∧a < 16)∧(0≤b∧b < 16)∧(0≤c∧c < 16)
 ·rw [if_pos h]
  obtain ⟨h1,h2⟩:=(good_iff k o a b c i u).2 h
  unfold Zbw.g Zbw.f
  rw [isa_goodI h1 h2,Option.bind_some]
  dsimp only
  rw [if_neg (by decide),iword_eq,Option.bind_some]
 ·rw [if_neg h]
  obtain ⟨r,hr,_⟩:=isa_total k o a b c i u
  have:r=false:=by
   cases r with
   | false=>rfl
   | true=>exact absurd ((good_iff k o a b c i u).1 (isa_onlyI hr)) h
  subst this
  unfold Zbw.g Zbw.f
  rw [hr,Option.bind_some]
  rfl
end Rv
namespace Rv
open Go
theorem leis_tab:((List.range 256).all fun k=>decide (Zbl.g (k:Int) true=some (isA (UInt8.ofNat k),())) && decide (Zbl.g (k:Int) false=some (isW (UInt8.ofNat k),())))=true:=by decide +kernel
theorem leis_eq (b:UInt8) (f:Bool):Zbl.g (b.toNat:Int) f=some (if f then isA b else isW b,()):=by
 have h:=List.all_eq_true.1 leis_tab b.toNat (by simp; exact b.toNat_lt)
 simp at h
 cases f
 ·exact h.2
 ·exact h.1
theorem lename_loop (s:Str) (hs:s.length≤12) (n:Nat):∀ (m i:Nat),1≤i→i≤s.length→s.length - i < m →
  Zap.l4 n m s (s.length:Int) (i:Int)=if (s.drop i).all isW=true then Zap.l4 n 1 s (s.length:Int) (s.length:Int) else some (false,()):=by
 intro m
 induction m with
 | zero=>intro i _ _ h; omega
 | succ m ih=>
  intro i h0 hi hm
  by_cases h1:i < s.length
  ·rw [Zap.l4,if_pos (by simp; omega),if_pos (by omega),bt_nat,leis_eq,Option.bind_some,drop_cons h1,List.all_cons]
   dsimp only
   rw [if_neg (show ¬ decide ((i:Int)=0)=true by simp; omega),w64 (by omega),show (i:Int)+1=((i+1:Nat):Int) by omega,ih (i+1) (by omega) (by omega) (by omega)]
   cases isW (s.getD i 0) <;> simp
  ·have hi':i=s.length:=by omega
   subst hi'
   rw [List.drop_length,List.all_nil,if_pos rfl]
   have hlt:¬ ((s.length:Int) < s.length):=by omega
   simp only [Zap.l4,dt,hlt,if_false]
theorem lename_eq (s:Str):Zap.g s=some (nameOk s,()):=by
 unfold Zap.g Zap.f
 simp only [dt,df]
 by_cases h0:s=[]
 ·subst h0; rw [if_neg (by simp)]; rfl
 ·have hl0:0 < s.length:=List.length_pos_iff.2 h0
  rw [if_pos (by omega)]
  by_cases h12:s.length≤12
  ·rw [if_neg (by omega)]
   obtain ⟨m,hm⟩:∃ m,1000+s.length=m+1:=⟨999+s.length,by omega⟩
   rw [show Zap.l4 (1000+s.length) (1000+s.length) s (s.length:Int) 0=Zap.l4 (1000+s.length) (m+1) s (s.length:Int) 0 by rw [hm],Zap.l4,if_pos (by simp; omega),if_pos (by omega)]
   have hb0:bt s 0=((s.getD 0 0).toNat:Int):=rfl
   rw [hb0,leis_eq,Option.bind_some]
   dsimp only
   have hdd:decide ((0:Int)=0)=true:=rfl
   rw [hdd,if_pos (show true=true from rfl),show IntKind.i64.wrap ((0:Int)+1)=((1:Nat):Int) from rfl,lename_loop s h12 (1000+s.length) m 1 (by omega) (by omega) (by omega)]
   have hall:s.all isW=(isW (s.getD 0 0) && (s.drop 1).all isW):=by
    have:=drop_cons (s:=s) (k:=0) hl0
    rw [List.drop_zero] at this
    conv=>lhs; rw [this]
    rw [List.all_cons]
   unfold nameOk
   rw [decide_eq_true h0,decide_eq_true h12,hall]
   have hAW:isA (s.getD 0 0)=true→isW (s.getD 0 0)=true:=fun h=>by unfold isW; rw [isA_L,h]; rfl
   cases hA:isA (s.getD 0 0) with
   | false=>rw [if_pos (by simp)]; simp
   | true=>
    rw [if_neg (by simp),hAW hA]
    by_cases hw:(s.drop 1).all isW=true
    ·rw [if_pos hw,hw]
     simp only [Zap.l4,dt,df]
     rw [if_neg (by omega),if_pos (by omega),hb0]
     have h82:(((s.getD 0 0).toNat:Int)=82)=(s.getD 0 0=82):=byte_is _ 82 (by omega)
     simp only [h82]
     have htake:(s.take (s.length:Int).toNat).drop (1:Int).toNat=s.drop 1:=by
      rw [show (s.length:Int).toNat=s.length by omega,List.take_length]; rfl
     have htrim:s.length≤3→L.trimO ((s.take (s.length:Int).toNat).drop (1:Int).toNat) [48,49,50,51,52,53,54,55,56,57]=some (L.trimDig (s.drop 1),()):=fun h=>by
      rw [htake]
      unfold L.trimO
      rw [if_pos ⟨rfl,by simp; omega⟩]
     have hT:decide (L.trimDig (s.drop 1)=[])=(s.drop 1).all isD:=by
      rw [Bool.eq_iff_iff,decide_eq_true_eq,trim_nil]
     unfold regLike
     by_cases hR:s.getD 0 0=82
     ·rw [if_pos hR,decide_eq_true hR]
      by_cases h2:s.length=2
      ·rw [if_neg (by omega),if_pos (by omega),htrim (by omega),Option.bind_some,decide_eq_true h2]
       dsimp only
       rw [hT]; simp
      ·rw [if_pos (by omega),decide_eq_false h2]
       by_cases h3:s.length=3
       ·rw [if_pos (by omega),if_pos (by omega),htrim (by omega),Option.bind_some,decide_eq_true h3]
        dsimp only
        rw [hT]; simp
       ·rw [if_neg (by omega),decide_eq_false h3]; simp
     ·rw [if_neg hR,decide_eq_false hR]; simp
    ·rw [if_neg hw,Bool.eq_false_iff.2 hw]; simp
  ·rw [if_pos (by omega)]
   unfold nameOk
   rw [decide_eq_false h12]; simp
end Rv
namespace Rv
open Go
def encX (k o a b c i:Int) (u:Bool):Except Int (Int×Bool):=if (encV k o a b c i u).2.1=0 then .ok ((encV k o a b c i u).1,false) else .error (encV k o a b c i u).2.1
def numV (lb:List Sym) (e:List Item) (low high:Int):Int×Int×Unit:=
 if (vOf lb e).2.2.1≠0 then (0,(vOf lb e).2.2.1,()) else if (vOf lb e).2.1≠0 then (0,27,()) else numR (IntKind.i64.wrap (IntKind.i32.wrap (vOf lb e).1)) (IntKind.i64.wrap (vOf lb e).1) low high
def farD (v pl:Int):Int:=IntKind.i64.wrap (IntKind.i32.wrap (IntKind.u32.wrap (IntKind.u32.wrap (v - IntKind.u32.wrap pl) - 4)))
def farV (v ad pl:Int):Int×Int×Unit:=
 if ad≠1 then (0,27,()) else if Int.tmod (farD v pl) 4≠0∨IntKind.i64.wrap (Int.tdiv (farD v pl) 4) < -8388608∨8388608≤IntKind.i64.wrap (Int.tdiv (farD v pl) 4) then (0,28,())
 else (IntKind.i64.wrap (Int.tdiv (farD v pl) 4),0,())
def adrV (n ad words:Int):Int:=if ad < 0∨1 < ad then 27 else if ad=1∧IntKind.i64.wrap (4 * words) < IntKind.i64.wrap n then 28 else 0
abbrev Snt:=Int×Int×Int×Int×Int×Bool×List Item×Str×Unit
def encE (k o a b c:Int) (r:Int×Int×Unit) (u:Bool):Except Int (Int×Bool):=if r.2.1≠0 then .error r.2.1 else encX k o a b c r.1 u
def wordR (lb:List Sym) (q:List Val) (fr wd:Int) (s:Snt) (pl:Int):Except Int (Int×Bool):=
 if s.1=2 then encE s.1 s.2.1 s.2.2.1 s.2.2.2.1 s.2.2.2.2.1 (numV lb s.2.2.2.2.2.2.1 (if s.2.1=0∧s.2.2.2.2.2.1=true then 0 else -65536) 65535) s.2.2.2.2.2.1
 else if s.1=5 then encE s.1 s.2.1 s.2.2.1 s.2.2.2.1 s.2.2.2.2.1 (numV lb s.2.2.2.2.2.2.1 (-524288) 524287) s.2.2.2.2.2.1
 else if s.1=7 then
  (if (vOf lb s.2.2.2.2.2.2.1).2.2.1≠0 then .error (vOf lb s.2.2.2.2.2.2.1).2.2.1 else encE s.1 s.2.1 s.2.2.1 s.2.2.2.1 s.2.2.2.2.1 (farV (vOf lb s.2.2.2.2.2.2.1).1 (vOf lb s.2.2.2.2.2.2.1).2.1 pl) s.2.2.2.2.2.1)
 else if s.1=8 then
  (if (vOf lb s.2.2.2.2.2.2.1).2.2.1≠0 then .error (vOf lb s.2.2.2.2.2.2.1).2.2.1
  else encE 5 0 s.2.2.1 13 0 (IntKind.i64.wrap (fr+IntKind.i64.wrap (4 * (posR ((vOf lb s.2.2.2.2.2.2.1).1,(vOf lb s.2.2.2.2.2.2.1).2.1,()) q:Int))),adrV (vOf lb s.2.2.2.2.2.2.1).1 (vOf lb s.2.2.2.2.2.2.1).2.1 wd,()) false)
 else if s.1=9 then
  (if (vOf lb s.2.2.2.2.2.2.1).2.2.1≠0 then .error (vOf lb s.2.2.2.2.2.2.1).2.2.1
  else if adrV (vOf lb s.2.2.2.2.2.2.1).1 (vOf lb s.2.2.2.2.2.2.1).2.1 wd≠0 then .error (adrV (vOf lb s.2.2.2.2.2.2.1).1 (vOf lb s.2.2.2.2.2.2.1).2.1 wd)
  else .ok ((vOf lb s.2.2.2.2.2.2.1).1,decide ((vOf lb s.2.2.2.2.2.2.1).2.1=1)))
 else encX s.1 s.2.1 s.2.2.1 s.2.2.2.1 s.2.2.2.2.1 0 s.2.2.2.2.2.1
abbrev WrT:=List Int×List Int×List Sym
def putW (r:WrT) (w:Int) (st:Bool):WrT:=(r.1++[w],if st=true then r.2.1++[(r.1.length:Int)] else r.2.1,r.2.2)
def exportR (lb:List Sym) (nm:Str) (y:List Sym):Except Int (List Sym):=
 if nameOk nm=false then .error 9 else if (findR nm lb).isSome=false then .error 25 else if isSy y nm=true then .error 26 else .ok (insS y (nm,(findR nm lb).getD 0,()))
def lineA (lb:List Sym) (q:List Val) (fr wd:Int) (s:Snt) (pl:Int) (r:WrT):Except Int WrT:=
 if s.1=0 then .ok r
 else if s.1=10 then (match exportR lb s.2.2.2.2.2.2.2.1 r.2.2 with | .error x=>.error x | .ok y=>.ok (r.1,r.2.1,y))
 else match wordR lb q fr wd s pl with | .error x=>.error x | .ok w=>.ok (putW r w.1 w.2)
abbrev OutT:=Int×List Int×List Sym×List Val×Int×Int×List Int×List Int×List Sym×Unit
def outW (t:List Int) (lb:List Sym) (q:List Val) (fr wd:Int) (r:WrT):Except Int WrT→OutT
 | .error x=>(x,t,lb,q,fr,wd,r.1,r.2.1,r.2.2,())
 | .ok r'=>(0,t,lb,q,fr,wd,r'.1,r'.2.1,r'.2.2,())
theorem enc_err (k o a b c i:Int) (u:Bool) {x:Int} (h:encX k o a b c i u=.error x):x≠0:=by
 unfold encX at h
 split at h
 ·cases h
 ·rename_i h1; cases h; exact h1
section
variable (t:List Int) (lb:List Sym) (q:List Val) (fr wd:Int) (r:WrT)
theorem aword_eq (h1:r.1.length≤1000000) (h2:r.2.1.length≤1000000) (v ad:Int) :
  Zbd.g v ad t lb q fr wd r.1 r.2.1 r.2.2=some (t,lb,q,fr,wd,(putW r v (decide (ad=1))).1,(putW r v (decide (ad=1))).2.1,(putW r v (decide (ad=1))).2.2,()):=by
 unfold Zbd.g Zbd.f Zbd.j3 putW
 simp only [dt]
 by_cases h:ad=1
 ·rw [if_pos h,if_pos (by simp; omega),if_pos (by simp; omega),if_pos h]
 ·rw [if_neg h,if_pos (by simp; omega),if_neg h]
theorem ainstr_eq (h1:r.1.length≤1000000) (h2:r.2.1.length≤1000000) (k o a b c i:Int) (u:Bool) :
  Zco.g k o a b c i u t lb q fr wd r.1 r.2.1 r.2.2=some (outW t lb q fr wd r (match encX k o a b c i u with | .error x=>.error x | .ok w=>.ok (putW r w.1 w.2))):=by
 unfold Zco.g Zco.f encX
 rw [ienc_eq,Option.bind_some]
 simp only [dt]
 by_cases h:(encV k o a b c i u).2.1=0
 ·rw [if_pos h,if_pos h,aword_eq t lb q fr wd r h1 h2,Option.bind_some]
  dsimp only [outW]
  rw [h]; rfl
 ·rw [if_neg h,if_neg h]; rfl
theorem aadr_eq (v ad:Int):Zcc.g v ad t lb q fr wd r.1 r.2.1 r.2.2=some (adrV v ad wd,t,lb,q,fr,wd,r.1,r.2.1,r.2.2,()):=by
 unfold Zcc.g Zcc.f adrV
 simp only [dt,df]
 by_cases h1:ad < 0
 ·rw [if_neg (by omega),if_pos (.inl h1)]
 ·rw [if_pos (by omega)]
  by_cases h2:1 < ad
  ·rw [if_pos h2,if_pos (.inr h2)]
  ·rw [if_neg h2,if_neg (show ¬ (ad < 0∨1 < ad) by omega)]
   by_cases h3:ad=1
   ·rw [if_pos h3]
    by_cases h4:IntKind.i64.wrap (4 * wd) < IntKind.i64.wrap v
    ·rw [if_pos h4,if_pos ⟨h3,h4⟩]
    ·rw [if_neg h4,if_neg (fun h=>h4 h.2)]
   ·rw [if_neg h3,if_neg (fun h=>h3 h.1)]
theorem afar_eq (v ad pl:Int):Zcp.g v ad pl=some (farV v ad pl):=by
 unfold Zcp.g Zcp.f farV
 simp only [dt,df]
 rw [show IntKind.i64.wrap (IntKind.i32.wrap (IntKind.u32.wrap (IntKind.u32.wrap (v - IntKind.u32.wrap pl) - 4)))=farD v pl from rfl]
 generalize farD v pl=d
 generalize IntKind.i64.wrap (Int.tdiv d 4)=n
 by_cases h1:ad=1
 ·by_cases h2:Int.tmod d 4=0
  ·by_cases h3:n < -8388608
   ·simp [h1,h2,h3]
   ·by_cases h4:8388608≤n
    ·simp [h1,h2,h3,h4]
    ·simp [h1,h2,h3,h4]
  ·simp [h1,h2]
 ·simp [h1]
theorem aexport_eq (hy:sortedS r.2.2) (hl:r.2.2.length≤1000000) (hlb:lb.length≤1000000) (nm:Str) :
  Zcn.g nm t lb q fr wd r.1 r.2.1 r.2.2=some (outW t lb q fr wd r (match exportR lb nm r.2.2 with | .error x=>.error x | .ok y=>.ok (r.1,r.2.1,y))):=by
 unfold Zcn.g Zcn.f exportR
 rw [find_eq lb nm (by omega),Option.bind_some,bs_eq r.2.2 nm hy hl,Option.bind_some,lename_eq,Option.bind_some]
 dsimp only
 cases nameOk nm with
 | false=>rfl
 | true=>
  cases (findR nm lb).isSome with
  | false=>rfl
  | true=>
   cases hi:isSy r.2.2 nm with
   | true=>rfl
   | false=>
    have hk:=kS_le r.2.2 nm
    have e:L.insertO r.2.2 (kS r.2.2 nm:Int) [(nm,(findR nm lb).getD 0,())]=some (insS r.2.2 (nm,(findR nm lb).getD 0,()),()):=by
     unfold L.insertO
     rw [if_pos ⟨by omega,by omega,rfl,by omega⟩]
     rfl
    simp only [Bool.not_true,Bool.false_eq_true,if_false]
    rw [e]
    rfl
theorem anum_eq (hlb:lb.length≤1000000) (e:List Item) (he:e.length≤4611686018427387904) (low high:Int):Zai.g e lb low high=some (numV lb e low high):=by
 obtain ⟨v1,v2,x,h⟩:=ofR_any lb e
 rw [vnumber_eq e lb low high v1 v2 x (by rw [of_eq lb (by omega) e he,h])]
 unfold numV vOf
 rw [h]
 rfl
theorem aof_eq (hlb:lb.length≤1000000) (e:List Item) (he:e.length≤4611686018427387904):Zae.g e lb=some (vOf lb e):=by
 rw [of_eq lb (by omega) e he,ofR_vOf]
theorem aline_eq (h1:r.1.length≤1000000) (h2:r.2.1.length≤1000000) (hy:sortedS r.2.2) (hl:r.2.2.length≤1000000) (hlb:lb.length≤1000000) (hq:q.length≤1000000) (s:Snt) (he:s.2.2.2.2.2.2.1.length≤4611686018427387904) (pl:Int) :
  Zah.g s.1 s.2.1 s.2.2.1 s.2.2.2.1 s.2.2.2.2.1 s.2.2.2.2.2.1 s.2.2.2.2.2.2.1 s.2.2.2.2.2.2.2.1 pl t lb q fr wd r.1 r.2.1 r.2.2=some (outW t lb q fr wd r (lineA lb q fr wd s pl r)):=by
 obtain ⟨k,o,a,b,c,u,e,nm,z⟩:=s
 dsimp only at he ⊢
 unfold Zah.g
 generalize 1000+_+_+_+_+_+_+_+_+_+_+_+_+_+_+_+_=n
 have J32:∀ (x k o a b c i:Int) (u:Bool),Zah.j32 n t lb q fr wd r.1 r.2.1 r.2.2 x k o a b c i u=some (outW t lb q fr wd r (match encE k o a b c (i,x,()) u with | .error x=>.error x | .ok w=>.ok (putW r w.1 w.2))):=by
  intro x k o a b c i u
  unfold Zah.j32 encE
  simp only [dt]
  by_cases hx:x=0
  ·rw [if_neg (by simpa using hx),if_neg (by simpa using hx),ainstr_eq t lb q fr wd r h1 h2,Option.bind_some]
  ·rw [if_pos (by simpa using hx),if_pos (by simpa using hx)]; rfl
 have hof:=aof_eq lb hlb e he
 obtain ⟨v1,v2,x,hv⟩:∃ v1 v2 x,vOf lb e=(v1,v2,x,()):=⟨(vOf lb e).1,(vOf lb e).2.1,(vOf lb e).2.2.1,rfl⟩
 have J1:Zbz.g k o a b c u e nm 0 t lb q fr wd r.1 r.2.1 r.2.2=some (v1,v2,k,o,a,b,c,u,e,nm,(),x,t,lb,q,fr,wd,r.1,r.2.1,r.2.2,()):=by
  unfold Zbz.g Zbz.f
  rw [hof,Option.bind_some,hv]
 unfold Zah.f lineA wordR
 simp only [dt,Zah.j12,anum_eq lb hlb e he,Option.bind_some,J1,J32,hv]
 by_cases k0:k=0
 ·rw [if_pos k0,if_pos k0]; rfl
 rw [if_neg k0,if_neg k0]
 by_cases k10:k=10
 ·rw [if_pos k10,if_pos k10,aexport_eq t lb q fr wd r hy hl hlb,Option.bind_some]
 rw [if_neg k10,if_neg k10]
 by_cases k2:k=2
 ·rw [if_pos k2,if_pos k2]
  by_cases o0:o=0
  ·rw [if_pos o0]
   cases u with
   | true=>rw [if_pos rfl,if_pos ⟨o0,rfl⟩]
   | false=>rw [if_neg (by decide),if_neg (fun h=>by cases h.2)]
  ·rw [if_neg o0,if_neg (fun h=>o0 h.1)]
 rw [if_neg k2,if_neg k2]
 by_cases k5:k=5
 ·rw [if_pos k5,if_pos k5]
 rw [if_neg k5,if_neg k5]
 by_cases k7:k=7
 ·rw [if_pos k7,if_pos k7]
  by_cases hx:x=0
  ·rw [if_pos hx,if_neg (by simpa using hx),afar_eq,Option.bind_some]
  ·rw [if_neg hx,if_pos (by simpa using hx)]
   unfold encE
   dsimp only
   rw [if_pos (by simpa using hx)]
 rw [if_neg k7,if_neg k7]
 by_cases k8:k=8
 ·rw [if_pos k8,if_pos k8]
  by_cases hx:x=0
  ·rw [if_pos hx,if_neg (by simpa using hx),pool_eq q v1 v2 hq,Option.bind_some,aadr_eq t lb q fr wd r,Option.bind_some,J32]
  ·rw [if_neg hx,if_pos (by simpa using hx)]
   unfold encE
   dsimp only
   rw [if_pos (by simpa using hx)]
 rw [if_neg k8,if_neg k8]
 by_cases k9:k=9
 ·rw [if_pos k9,if_pos k9]
  unfold Zah.j29 Zah.j31
  simp only [dt]
  by_cases hx:x=0
  ·rw [if_pos hx,if_neg (by simpa using hx),aadr_eq t lb q fr wd r,Option.bind_some]
   dsimp only
   by_cases ha:adrV v1 v2 wd=0
   ·rw [if_pos ha,if_neg (by simpa using ha),aword_eq t lb q fr wd r h1 h2,Option.bind_some,ha]; rfl
   ·rw [if_neg ha,if_pos (by simpa using ha)]; rfl
  ·rw [if_neg hx,if_neg hx,if_pos (by simpa using hx)]; rfl
 rw [if_neg k9,if_neg k9]
 unfold encE
 dsimp only
 rw [if_neg (by decide)]
end
end Rv
namespace Rv
open Go
theorem placeR_err:∀ (l:List Ln) (i:Nat) (a:List Int) (lb:List Sym) (c:Nat) {x:Nat×Int},placeR l i a lb c=.error x→x.2=26∧i < x.1∧x.1≤i+l.length
 | [],_,_,_,_,_,h=>by (rw [placeR] at h; cases h)
 | y::r,i,a,lb,c,x,h=>by
  rw [placeR] at h
  split at h
  ·have:=placeR_err r _ _ _ _ h; simp; omega
  ·split at h
   ·cases h; exact ⟨rfl,by show i < i+1; omega,by simp⟩
   ·have:=placeR_err r _ _ _ _ h; simp; omega
theorem loadR_err (lb:List Sym):∀ (l:List Ln) (i:Nat) (p:List Val) {x:Nat×Int},loadR lb l i p=.error x→x.2≠0∧i < x.1∧x.1≤i+l.length∧(l.getD (x.1 - 1 - i) zL).2.1.1=8∧(x.2=27∨x.2=(vOf lb (eL (l.getD (x.1 - 1 - i) zL))).2.2.1)
 | [],_,_,_,h=>by (rw [loadR] at h; cases h)
 | y::r,i,p,x,h=>by
  have step:∀ {q},loadR lb r (i+1) q=.error x→x.2≠0∧i < x.1∧x.1≤i+(y::r).length∧((y::r).getD (x.1 - 1 - i) zL).2.1.1=8∧(x.2=27∨x.2=(vOf lb (eL ((y::r).getD (x.1 - 1 - i) zL))).2.2.1):=fun {q} hq=>by
   obtain ⟨h1,h2,h3,h4,h5⟩:=loadR_err lb r (i+1) q hq
   have e:x.1 - 1 - i=(x.1 - 1 - (i+1))+1:=by omega
   rw [e,List.getD_cons_succ]
   exact ⟨h1,by omega,by simp; omega,h4,h5⟩
  rw [loadR] at h
  split at h
  ·rename_i h8
   split at h
   ·rename_i hne
    cases h
    have e:i+1 - 1 - i=0:=by omega
    dsimp only
    rw [e,List.getD_cons_zero]
    exact ⟨hne,by omega,by simp,h8,.inr rfl⟩
   ·split at h
    ·cases h
     have e:i+1 - 1 - i=0:=by omega
     dsimp only
     rw [e,List.getD_cons_zero]
     exact ⟨by decide,by omega,by simp,h8,.inl rfl⟩
    ·exact step h
  ·exact step h
theorem planR_ways (w:List Ln):(∃ x:Nat×Int,planR w=noPlan x.1 x.2∧x.2≠0∧0 < x.1∧x.1≤w.length∧((∃ y,placeR w 0 [] [] 0=.error y)∨∃ r,placeR w 0 [] [] 0=.ok r∧loadR r.2.1 w 0 []=.error x)) ∨
  ∃ r p,placeR w 0 [] [] 0=.ok r∧loadR r.2.1 w 0 []=.ok p∧planR w=plEnd r.1 r.2.1 r.2.2 (.ok p):=by
 unfold planR plFin
 cases hp:placeR w 0 [] [] 0 with
 | error x=>
  have:=placeR_err _ _ _ _ _ hp
  exact .inl ⟨x,rfl,by omega,by omega,by omega,.inl ⟨x,rfl⟩⟩
 | ok r=>
  dsimp only
  cases hq:loadR r.2.1 w 0 [] with
  | error x=>
   obtain ⟨h1,h2,h3,_⟩:=loadR_err _ _ _ _ hq
   exact .inl ⟨x,rfl,h1,by omega,by omega,.inr ⟨r,rfl,hq⟩⟩
  | ok p=>exact .inr ⟨r,p,rfl,hq,rfl⟩
end Rv
namespace Rv
open Go
end Rv
namespace Rv
open Go
end Rv
namespace Rv
open Go
set_option maxRecDepth 100000
end Rv
namespace Rv
open Go
end Rv
namespace Rv
open Go
abbrev TokL:=Int×Int×Str×Int×Unit
end Rv
namespace Rv
open Go
inductive Opr
 | add | sub | mul
def Opr.kind:Opr→Int
 | .add=>4 | .sub=>5 | .mul=>6
def Opr.byte:Opr→UInt8
 | .add=>43 | .sub=>45 | .mul=>42
def Opr.tight:Opr→Nat
 | .mul=>1 | _=>0
inductive Tr
 | num (n:Int) | nam (s:Str) | neg (x:Tr) | bin (o:Opr) (a b:Tr) | br (x:Tr)
namespace Tr
def post:Tr→List Item
 | .num n=>[(1,n,[],())]
 | .nam s=>[(2,0,s,())]
 | .neg x=>x.post++[(3,0,[],())]
 | .bin o a b=>a.post++b.post++[(o.kind,0,[],())]
 | .br x=>x.post
def ok:Tr→Prop
 | .num n=>0≤n∧n≤4294967295
 | .nam s=>labelOk s=true
 | .neg x=>x.ok
 | .bin _ a b=>a.ok∧b.ok
 | .br x=>x.ok
def plain:Tr→Prop
 | .neg x=>x.plain
 | .bin _ a b=>a.plain∧b.plain
 | .br _=>False
 | _=>True
def tight:Tr→Nat
 | .bin o _ _=>o.tight
 | _=>2
end Tr
abbrev Bt:=Int×Str×Int
def bare (t:TokL):Bt:=(t.1,t.2.2.1,t.2.2.2.1)
namespace Tr
theorem post_pos:∀ x:Tr,1≤x.post.length
 | .num _=>by simp [post]
 | .nam _=>by simp [post]
 | .neg _=>by simp [post]
 | .bin _ _ _=>by simp [post]; omega
 | .br x=>post_pos x
def cnt (l:List Bt):Nat:=l.countP fun b=>decide (b.2.1=[45]) || decide (b.2.1=[40])
end Tr
theorem item_cases {x:Item} (h:(needsR x).2=true):(∃ n,x=(1,n,[],()))∨(∃ s,x=(2,0,s,())∧labelOk s=true)∨x=(3,0,[],())∨∃ o:Opr,x=(o.kind,0,[],()):=by
 obtain ⟨a,b,c,u⟩:=x
 cases u
 unfold needsR at h
 dsimp only at h
 split at h
 ·rename_i h1
  simp only [decide_eq_true_eq] at h
  exact .inl ⟨b,by rw [h1,h]⟩
 ·split at h
  ·rename_i h2
   simp only [Bool.and_eq_true,decide_eq_true_eq] at h
   exact .inr (.inl ⟨c,by rw [h2,h.1],h.2⟩)
  ·split at h
   ·rename_i h3
    simp only [Bool.and_eq_true,decide_eq_true_eq] at h
    exact .inr (.inr (.inl (by rw [h3,h.1,h.2])))
   ·split at h
    ·rename_i h4
     simp only [Bool.and_eq_true,decide_eq_true_eq] at h
     obtain ⟨rfl,rfl⟩:=h
     rcases h4 with rfl | rfl | rfl
     ·exact .inr (.inr (.inr ⟨.add,rfl⟩))
     ·exact .inr (.inr (.inr ⟨.sub,rfl⟩))
     ·exact .inr (.inr (.inr ⟨.mul,rfl⟩))
    ·cases h
theorem snocT (l:List Tr):l=[]∨∃ a x,l=a++[x]:=by
 rcases List.eq_nil_or_concat l with h | ⟨a,x,h⟩
 ·exact .inl h
 ·exact .inr ⟨a,x,by simpa using h⟩
def posts (st:List Tr):List Item:=(st.map Tr.post).flatten
theorem posts_app (a b:List Tr):posts (a++b)=posts a++posts b:=by simp [posts]
theorem posts_one (x:Tr):posts [x]=x.post:=by simp [posts]
theorem trees_of:∀ (e:List Item) (st:List Tr) (k:Int),enough (st.length:Int) e=some k→(∀ x∈e,goodItem x)→(∀ x∈st,x.ok∧x.plain) →
  ∃ st':List Tr,(st'.length:Int)=k∧posts st++e=posts st'∧∀ x∈st',x.ok∧x.plain
 | [],st,k,h,_,ho=>by
  simp only [enough,Option.some.injEq] at h
  exact ⟨st,h,by simp,ho⟩
 | x::e,st,k,h,hg,ho=>by
  have hgx:=hg x (by simp)
  unfold enough at h
  split at h
  case isFalse=>cases h
  rename_i hc
  have push:∀ (l:List Tr) (t:Tr),(∀ y∈l,y.ok∧y.plain)→t.ok∧t.plain→((l.length:Int)+1=st.length+(1 - (needsR x).1))→posts st++[x]=posts l++t.post→∃ st':List Tr,(st'.length:Int)=k∧posts st++x::e=posts st'∧∀ x∈st',x.ok∧x.plain:=by
   intro l t hl ht hlen hp
   obtain ⟨st',h1,h2,h3⟩:=trees_of e (l++[t]) k (by rw [show ((l++[t]).length:Int)=st.length+(1 - (needsR x).1) by rw [← hlen]; simp]; exact h) (fun y hy=>hg y (by simp [hy])) (fun y hy=>by
    rcases List.mem_append.1 hy with hy | hy
    ·exact hl y hy
    ·rw [List.mem_singleton] at hy; subst hy; exact ht)
   refine ⟨st',h1,?_,h3⟩
   rw [← h2,posts_app,posts_one,← hp]; simp
  rcases item_cases hc.1 with ⟨n,rfl⟩ | ⟨s,rfl,hs⟩ | rfl | ⟨o,rfl⟩
  ·exact push st (.num n) ho ⟨⟨hgx.1,hgx.2.1⟩,trivial⟩ (by rw [show (needsR (1,n,[],())).1=0 from rfl]; omega) rfl
  ·exact push st (.nam s) ho ⟨hs,trivial⟩ (by rw [show (needsR (2,0,s,())).1=0 from rfl]; omega) rfl
  ·have e1:(needsR (3,0,[],())).1=1:=rfl
   rcases snocT st with rfl | ⟨l,v,rfl⟩
   ·exact absurd hc.2 (by rw [e1]; simp)
   ·have hv:=ho v (by simp)
    exact push l (.neg v) (fun y hy=>ho y (by simp [hy])) hv (by rw [e1]; simp <;> omega) (by rw [posts_app,posts_one]; simp [Tr.post])
  ·have e2:(needsR (o.kind,0,[],())).1=2:=by cases o <;> rfl
   rcases snocT st with rfl | ⟨l0,v,rfl⟩
   ·exact absurd hc.2 (by rw [e2]; simp)
   ·rcases snocT l0 with rfl | ⟨l,w,rfl⟩
    ·exact absurd hc.2 (by rw [e2]; simp)
    ·exact push l (.bin o w v) (fun y hy=>ho y (by simp [hy])) ⟨⟨(ho w (by simp)).1,(ho v (by simp)).1⟩,(ho w (by simp)).2,(ho v (by simp)).2⟩ (by rw [e2]; simp <;> omega) (by rw [posts_app,posts_app,posts_one,posts_one]; simp [Tr.post])
theorem tree_of {e:List Item} (h:wellL e) (hg:∀ x∈e,goodItem x):∃ t:Tr,t.post=e∧t.ok∧t.plain:=by
 obtain ⟨st,h1,h2,h3⟩:=trees_of e [] 1 h hg (fun x hx=>by cases hx)
 match st,h1,h2,h3 with
 | [t],_,h2,h3=>exact ⟨t,by rw [posts_one] at h2; exact h2.symm,h3 t (by simp)⟩
 | [],h1,_,_=>simp at h1
 | _::_::_,h1,_,_=>simp at h1; omega
end Rv
namespace Rv
open Go
end Rv
namespace Rv
open Go
def brkT (b:Bool) (s:Str):Str:=if b then 40::(s++[41]) else s
namespace Tr
def txt:Tr→Str
 | .num n=>Lib.itoa n
 | .nam s=>s
 | .neg x=>45::brkT (decide (x.tight < 2)) x.txt
 | .bin o a b=>brkT (decide (a.tight < o.tight)) a.txt++([32,o.byte,32]++brkT (decide (b.tight < o.tight+1)) b.txt)
 | .br x=>40::(x.txt++[41])
end Tr
end Rv
namespace Rv
open Go
def parts (st:List Tr):List (Str×Int×Unit):=st.map fun t=>(t.txt,(t.tight:Int),())
end Rv
namespace Rv
open Go
abbrev R:=rec_expr_parser_sum
def mc:Tr→Nat
 | .bin .mul a _=>mc a+1
 | _=>0
end Rv
namespace Rv
open Go
end Rv
namespace Rv
open Go
theorem fit_tree (l:List Item) (hl:l.length≤9223372036854775807) (hw:wfItems l):∃ t:Tr,Zac.g l=some (t.post,())∧t.ok∧t.plain∧wellL t.post∧t.post.length≤19:=by
 obtain ⟨r,h1,h2,h3,h4⟩:=fit15_eq l hl hw
 obtain ⟨t,rfl,ho,hp⟩:=tree_of h2 h4
 exact ⟨t,h1,ho,hp,h2,h3⟩
end Rv
namespace Rv
open Go
structure Sm where
 k:Int
 o:Int
 a:Int
 b:Int
 c:Int
 u:Bool
 e:List Item
 nm:Str
def okT' (t:Tr):Prop:=t.ok∧t.plain∧wellL t.post∧t.post.length≤64
def postO:Option Tr→List Item
 | none=>[]
 | some t=>t.post
inductive GoodS:Sm→Option Tr→Prop
 | none:GoodS ⟨0,0,0,0,0,false,[],[]⟩ none
 | ins0 {k o a b c:Int} {u:Bool}:GoodI0 k o a b c u→(k=1∨k=3∨k=4∨k=6)→GoodS ⟨k,o,a,b,c,u,[],[]⟩ none
 | ins1 {k o a b c:Int} {u:Bool} {t:Tr}:GoodI0 k o a b c u→(k=2∨k=5∨k=7)→okT' t→GoodS ⟨k,o,a,b,c,u,t.post,[]⟩ (some t)
 | load {a:Int} {t:Tr}:rg a→okT' t→GoodS ⟨8,0,a,0,0,false,t.post,[]⟩ (some t)
 | word {t:Tr}:okT' t→GoodS ⟨9,0,0,0,0,false,t.post,[]⟩ (some t)
 | exp {nm:Str}:nameOk nm=true→GoodS ⟨10,0,0,0,0,false,[],nm⟩ none
end Rv
namespace Rv
open Go
theorem and15_rg (x:Int):rg (bitsI .and .i64 x 15):=by
 have h1:(BitVec.ofInt 64 x &&& BitVec.ofInt 64 15).toNat≤15:=by
  rw [BitVec.toNat_and]
  exact Nat.and_le_right
 show rg (IntKind.i64.wrap (((BitVec.ofInt 64 x &&& BitVec.ofInt 64 15).toNat:Nat):Int))
 rw [w64 (by omega)]
 exact ⟨by omega,by omega⟩
theorem and3_rg (x:Int):0≤bitsI .and .i64 x 3∧bitsI .and .i64 x 3 < 4:=by
 have h1:(BitVec.ofInt 64 x &&& BitVec.ofInt 64 3).toNat≤3:=by
  rw [BitVec.toNat_and]
  exact Nat.and_le_right
 show 0≤IntKind.i64.wrap (((BitVec.ofInt 64 x &&& BitVec.ofInt 64 3).toNat:Nat):Int)∧IntKind.i64.wrap (((BitVec.ofInt 64 x &&& BitVec.ofInt 64 3).toNat:Nat):Int) < 4
 rw [w64 (by omega)]
 omega
def goodQ (K:Int) (r:Option (Int×Int×Int×Int×Int×Int×Bool×Unit)):Prop:=∃ O A B C I U,r=some (K,O,A,B,C,I,U,())∧GoodI0 K O A B C U
theorem goodQ_mk {a b c d e f:Int} {g:Bool} (h:GoodI0 a b c d e g):goodQ a (some (a,b,c,d,e,f,g,())):=⟨_,_,_,_,_,_,rfl,h⟩
theorem j10_q (n:Nat) (op a0 a1 a2 a3 a4 a5:Int) (a6:Bool) (b0 b1 b2 b3 b4 b5:Int) (b6:Bool) (k c d f:Int) (u:Bool) (hk:k=1∨k=2) (ho:0≤op∧op < 12) (hu:u=true→8≤op∧op≤10) (hc:rg c) (hd:rg d) (h0:op=0→d=0) :
  goodQ k (Zaf.j10 n op a0 a1 a2 a3 a4 a5 a6 b0 b1 b2 b3 b4 b5 b6 k op c d 0 f u):=by
 unfold Zaf.j10
 by_cases e1:k=1
 ·rw [if_pos (by simp [e1])]
  subst e1
  by_cases e2:op=0
  ·subst e2
   obtain rfl:=h0 rfl
   have:u=false:=by cases u; rfl; exact absurd (hu rfl).1 (by decide)
   subst this
   exact goodQ_mk (.mov hc (and15_rg _))
  ·exact goodQ_mk (.reg (by omega) ho.2 hc hd (and15_rg _) hu)
 ·obtain rfl:k=2:=by omega
  rw [if_neg (by decide)]
  by_cases e2:op=0
  ·subst e2
   obtain rfl:=h0 rfl
   have:u=false:=by cases u; rfl; exact absurd (hu rfl).1 (by decide)
   subst this
   rw [if_pos (by decide)]
   unfold Zaf.j25
   split
   ·exact goodQ_mk (.movi hc)
   ·exact goodQ_mk (.movi hc)
  ·rw [if_neg (by simp [e2])]
   exact goodQ_mk (.imm (by omega) ho.2 hc hd hu)
theorem j7_q (n:Nat) (op a0 a1 a2 a3 a4 a5:Int) (a6:Bool) (b0 b1 b2 b3 b4 b5:Int) (b6:Bool) (k c f:Int) (hk:k=1∨k=2) (ho:0≤op∧op < 12) (hc:rg c) :
  goodQ k (Zaf.j7 n op a0 a1 a2 a3 a4 a5 a6 b0 b1 b2 b3 b4 b5 b6 k op c 0 0 f false):=by
 have h9:∀ d,rg d→(op=0→d=0)→goodQ k (Zaf.j9 n op a0 a1 a2 a3 a4 a5 a6 b0 b1 b2 b3 b4 b5 b6 k op c d 0 f false):=by
  intro d hd h0
  unfold Zaf.j9
  by_cases e1:a6=true
  ·rw [if_pos e1]
   by_cases e2:(8:Int)≤op
   ·rw [if_pos (by simpa using e2)]
    exact j10_q _ _ _ _ _ _ _ _ _ _ _ _ _ _ _ _ _ _ _ _ _ hk ho (fun h=>⟨e2,by simpa using h⟩) hc hd h0
   ·rw [if_neg (by simpa using e2)]
    exact j10_q _ _ _ _ _ _ _ _ _ _ _ _ _ _ _ _ _ _ _ _ _ hk ho (fun h=>by cases h) hc hd h0
  ·rw [if_neg e1]
   exact j10_q _ _ _ _ _ _ _ _ _ _ _ _ _ _ _ _ _ _ _ _ _ hk ho (fun h=>by cases h) hc hd h0
 unfold Zaf.j7
 by_cases e:op=0
 ·rw [if_neg (by simp [e])]; exact h9 0 ⟨by decide,by decide⟩ fun _=>rfl
 ·rw [if_pos (by simp [e])]; exact h9 _ (and15_rg _) fun h=>absurd h e
theorem tmodB (x:Int) {m:Int} (hm:0 < m):-m < Int.tmod x m∧Int.tmod x m < m:=⟨Int.lt_tmod_of_pos x hm,Int.tmod_lt_of_pos x hm⟩
theorem fit03_q (i0 i1 i2 i3 i4 i5:Int) (u:Bool):goodQ (1+Int.tmod (Int.tmod i0 7+7) 7) (Zaf.g i0 i1 i2 i3 i4 i5 u):=by
 unfold Zaf.g
 generalize 1000+i0.toNat+i1.toNat+i2.toNat+i3.toNat+i4.toNat+i5.toNat=n
 unfold Zaf.f
 have t1:=tmodB i0 (m:=7) (by decide)
 have t2:=tmodB i1 (m:=12) (by decide)
 have e1:IntKind.i64.wrap (Int.tmod i0 7+7)=Int.tmod i0 7+7:=w64 (by omega)
 have e2:IntKind.i64.wrap (Int.tmod i1 12+12)=Int.tmod i1 12+12:=w64 (by omega)
 rw [e1,e2]
 have t3:=tmodB (Int.tmod i0 7+7) (m:=7) (by decide)
 have t4:=tmodB (Int.tmod i1 12+12) (m:=12) (by decide)
 have t5:0≤Int.tmod (Int.tmod i0 7+7) 7:=Int.tmod_nonneg _ (by omega)
 have t6:0≤Int.tmod (Int.tmod i1 12+12) 12:=Int.tmod_nonneg _ (by omega)
 generalize Int.tmod (Int.tmod i0 7+7) 7=q at *
 generalize Int.tmod (Int.tmod i1 12+12) 12=op at *
 have e3:IntKind.i64.wrap (1+q)=1+q:=w64 (by omega)
 rw [e3]
 clear e1 e2 e3 t1 t2
 generalize hk:1+q=k
 simp only [dt]
 have hop:0≤op∧op < 12:=⟨t6,t4.2⟩
 have m3:=and3_rg i1
 by_cases k1:k=1
 ·rw [if_pos k1,if_pos k1]; exact j7_q _ _ _ _ _ _ _ _ _ _ _ _ _ _ _ _ _ _ _ (Or.inl k1) hop (and15_rg _)
 ·rw [if_neg k1]
  by_cases k2:k=2
  ·rw [if_pos k2]; exact j7_q _ _ _ _ _ _ _ _ _ _ _ _ _ _ _ _ _ _ _ (Or.inr k2) hop (and15_rg _)
  ·rw [if_neg k2]
   by_cases k5:k=5
   ·rw [if_pos k5,k5]; exact goodQ_mk (.mem m3.1 m3.2 (and15_rg _) (and15_rg _))
   ·rw [if_neg k5]
    by_cases k6:k=6
    ·rw [if_pos k6,k6]; exact goodQ_mk (.br (and15_rg _) (and15_rg _))
    ·rw [if_neg k6]
     by_cases k7:k=7
     ·rw [if_pos k7,k7]; exact goodQ_mk (.jmp (and15_rg _))
     ·rw [if_neg k7]
      have:k=3∨k=4:=by omega
      rcases this with rfl | rfl
      ·exact goodQ_mk (.hi (and15_rg _))
      ·exact goodQ_mk (.fl (and15_rg _))
theorem fit07_name (s:Str) (hs:s.length≤9223372036854775807):∃ r,Zaj.g s=some (r,())∧nameOk r=true:=by
 have key:∃ r,Zaj.g s=some (r,())∧(∃ c t,r=c::t∧isA c=true∧c≠82)∧r.all isW=true∧r.length≤7:=by
  unfold Zaj.g Zaj.f
  have e1:Int.tmod (s.length:Int) 26=((s.length % 26:Nat):Int):=by
   have:Int.tmod (s.length:Int) 26=(s.length:Int) % 26:=Int.tmod_eq_emod_of_nonneg (by omega)
   rw [this]; omega
  have hk:s.length % 26 < 26:=Nat.mod_lt _ (by omega)
  rw [e1]
  have e2:IntKind.u8.wrap (97+IntKind.u8.wrap ((s.length % 26:Nat):Int))=((97+s.length % 26:Nat):Int):=by
   rw [w8u (x:=((s.length % 26:Nat):Int)) (by omega),w8u (by omega)]; omega
  rw [e2]
  have hb:bytesOf [((97+s.length % 26:Nat):Int)]=[UInt8.ofNat (97+s.length % 26)]:=rfl
  rw [hb]
  have hn:(UInt8.ofNat (97+s.length % 26)).toNat=97+s.length % 26:=by rw [UInt8.toNat_ofNat',Nat.mod_eq_of_lt (by omega)]
  have hA:isA (UInt8.ofNat (97+s.length % 26))=true:=by unfold isA; rw [hn]; simp; omega
  have hne:UInt8.ofNat (97+s.length % 26)≠82:=fun e=>by have:=congrArg UInt8.toNat e; rw [hn] at this; simp at this; omega
  exact fit07_loop (Q:=fun c=>isA c=true∧c≠82) s hs (1000+s.length) (1000+s.length) 0 _ (by omega) (by omega) (by omega) rfl ⟨_,_,rfl,hA,hne⟩ (by rw [List.all_cons,isW,isA_L,hA]; rfl)
 obtain ⟨r,hr,⟨c,t,rfl,hA,hne⟩,ha,hl⟩:=key
 refine ⟨_,hr,?_⟩
 unfold nameOk regLike
 have h1:(c::t:Str).getD 0 0=c:=rfl
 have h2:decide ((c::t:Str).length≤12)=true:=by rw [decide_eq_true_eq]; omega
 rw [h1,h2,hA,ha,decide_eq_false hne]
 rfl
def smF (s:Sm):Int×Int×Int×Int×Int×Bool×List Item×Str×Unit:=(s.k,s.o,s.a,s.b,s.c,s.u,s.e,s.nm,())
abbrev wfSm (s:Sm):Prop:=s.e.length≤9223372036854775807∧wfItems s.e∧s.nm.length≤9223372036854775807
theorem fit17 (s:Sm) (hw:wfSm s):∃ x t,Zav.g s.k s.o s.a s.b s.c s.u s.e s.nm=some (smF x)∧GoodS x t:=by
 unfold Zav.g
 generalize 1000+s.k.toNat+s.o.toNat+s.a.toNat+s.b.toNat+s.c.toNat+s.e.length+s.nm.length=n
 unfold Zav.f
 obtain ⟨t,hf,ho,hp,hwl,hlen⟩:=fit_tree s.e hw.1 hw.2.1
 have hT:okT' t:=⟨ho,hp,hwl,by omega⟩
 rw [hf,Option.bind_some]
 have t1:=tmodB s.k (m:=11) (by decide)
 have e1:IntKind.i64.wrap (Int.tmod s.k 11+11)=Int.tmod s.k 11+11:=w64 (by omega)
 rw [e1]
 have t3:=tmodB (Int.tmod s.k 11+11) (m:=11) (by decide)
 have t5:0≤Int.tmod (Int.tmod s.k 11+11) 11:=Int.tmod_nonneg _ (by omega)
 generalize Int.tmod (Int.tmod s.k 11+11) 11=k at *
 simp only [dt,df]
 have J9:(k=0∨8≤k)→∃ x t',Zav.j9 n k t.post s.k s.o s.a s.b s.c s.u s.e s.nm 0 0 0 0 0 false [] []=some (smF x)∧GoodS x t':=by
  intro hk
  unfold Zav.j9
  simp only [dt]
  by_cases h8:k=8
  ·rw [if_pos h8,h8]; exact ⟨_,_,rfl,.load (and15_rg s.a) hT⟩
  ·rw [if_neg h8]
   by_cases h9:k=9
   ·rw [if_pos h9,h9]; exact ⟨_,_,rfl,.word hT⟩
   ·rw [if_neg h9]
    by_cases h10:k=10
    ·have hmn:0≤mn (s.nm.length:Int) 6∧mn (s.nm.length:Int) 6≤s.nm.length:=by unfold mn; split <;> omega
     obtain ⟨r,hr,hn⟩:=fit07_name ((s.nm.take ((mn (s.nm.length:Int) 6)).toNat).drop 0) (by simp; omega)
     rw [if_pos h10,if_pos hmn,hr,Option.bind_some,h10]
     exact ⟨_,_,rfl,.exp hn⟩
    ·rw [if_neg h10]; exact ⟨_,_,rfl,.none⟩
 by_cases h1:1≤k
 ·rw [if_pos h1]
  by_cases h7:k≤7
  ·rw [if_pos h7,w64 (x:=k - 1) (by omega)]
   have hq:=fit03_q (k - 1) s.o s.a s.b s.c 0 s.u
   have hkk:1+Int.tmod (Int.tmod (k - 1) 7+7) 7=k:=by
    have a1:Int.tmod (k - 1) 7=k - 1:=by rw [Int.tmod_eq_emod_of_nonneg (by omega)]; omega
    rw [a1,Int.tmod_eq_emod_of_nonneg (by omega)]; omega
   rw [hkk] at hq
   obtain ⟨O,A,B,C,I,U,hr,hg⟩:=hq
   rw [hr,Option.bind_some]
   unfold Zav.j8
   by_cases h2:k=2
   ·rw [if_neg (by simp [h2])]; exact ⟨_,_,rfl,.ins1 hg (by omega) hT⟩
   ·rw [if_pos h2]
    by_cases h5:k=5
    ·rw [if_neg (by simp [h5])]; exact ⟨_,_,rfl,.ins1 hg (by omega) hT⟩
    ·rw [if_pos h5]
     by_cases h77:k=7
     ·rw [if_pos h77]; exact ⟨_,_,rfl,.ins1 hg (by omega) hT⟩
     ·rw [if_neg h77]; exact ⟨_,_,rfl,.ins0 hg (by omega)⟩
  ·rw [if_neg h7]; exact J9 (by omega)
 ·rw [if_neg h1]; exact J9 (by omega)
theorem good_elen {s:Sm} {t:Option Tr} (h:GoodS s t):s.e.length≤64∧s.e=postO t∧(∀ x,t=some x→okT' x):=by
 cases h with
 | none=>exact ⟨by simp,rfl,fun x h=>by cases h⟩
 | ins0 _ _=>exact ⟨by simp,rfl,fun x h=>by cases h⟩
 | ins1 _ _ ht=>exact ⟨ht.2.2.2,rfl,fun x h=>by obtain rfl:=Option.some.inj h; exact ht⟩
 | load _ ht=>exact ⟨ht.2.2.2,rfl,fun x h=>by obtain rfl:=Option.some.inj h; exact ht⟩
 | word ht=>exact ⟨ht.2.2.2,rfl,fun x h=>by obtain rfl:=Option.some.inj h; exact ht⟩
 | exp _=>exact ⟨by simp,rfl,fun x h=>by cases h⟩
end Rv
namespace Rv
open Go
abbrev wfE2 (l:List Item):Prop:=l.length≤maxLen∧∀ x∈l,(Lit.int .i64 x.1).wf=true∧(Lit.int .u32 x.2.1).wf=true∧x.2.2.1.length≤maxLen∧True
abbrev wfLn2 (x:Ln):Prop:=x.1.length≤maxLen∧((Lit.int .i64 x.2.1.1).wf=true∧(Lit.int .i64 x.2.1.2.1).wf=true∧(Lit.int .i64 x.2.1.2.2.1).wf=true∧(Lit.int .i64 x.2.1.2.2.2.1).wf=true∧(Lit.int .i64 x.2.1.2.2.2.2.1).wf=true∧True∧wfE2 x.2.1.2.2.2.2.2.2.1∧x.2.1.2.2.2.2.2.2.2.1.length≤maxLen∧True)∧True
theorem fit07_x (s:Str) (hs:s.length≤9223372036854775807):∃ t,Zaj.g s=some (UInt8.ofNat (97+s.length % 26)::t,())∧t.length=min s.length 6:=by
 have loop:∀ (n m i:Nat) (out:Str),i≤s.length→6 - i < m→i≤6→out.length=i+1 →
   ∃ u,Zaj.l4 n m s ([97,98,99,88,89,90,95,48,49,57,82,109]:Str) out (i:Int)=some (out++u,())∧u.length=min s.length 6 - i:=by
  intro n m
  induction m with
  | zero=>intro i out _ h; omega
  | succ m ih=>
   intro i out hi hm h6 hl
   rw [Zaj.l4]
   simp only [dt]
   by_cases h1:i < s.length
   ·rw [if_pos (by omega)]
    by_cases h2:i < 6
    ·rw [if_pos (by omega),if_pos (by omega),if_pos (by omega),bt_nat]
     have hb:=byte_lt (s.getD i 0)
     generalize s.getD i 0=b at *
     have e0:Int.tmod (IntKind.i64.wrap (b.toNat:Int)) 12=((b.toNat % 12:Nat):Int):=by
      rw [w64 (by omega)]
      have:Int.tmod (b.toNat:Int) 12=(b.toNat:Int) % 12:=Int.tmod_eq_emod_of_nonneg (by omega)
      rw [this]; omega
     rw [e0]
     have hk:b.toNat % 12 < 12:=Nat.mod_lt _ (by omega)
     generalize b.toNat % 12=k at *
     rw [w64 (x:=(k:Int)+1) (by omega),w64 (x:=(i:Int)+1) (by omega),show (k:Int)+1=((k+1:Nat):Int) by omega,show (i:Int)+1=((i+1:Nat):Int) by omega,Int.toNat_natCast,Int.toNat_natCast]
     have hf:=List.all_eq_true.1 fit_byte k (by simpa using hk)
     simp only [Bool.and_eq_true,decide_eq_true_eq] at hf
     obtain ⟨f1,f2⟩:=hf
     generalize ((([97,98,99,88,89,90,95,48,49,57,82,109]:Str).take (k+1)).drop k)=w at *
     rw [if_pos ⟨by omega,by simp only [List.length_cons,List.length_nil]; omega⟩,if_pos ⟨by omega,by omega⟩,if_pos (by omega)]
     obtain ⟨u,hu,hul⟩:=ih (i+1) (out++w) (by omega) (by omega) (by omega) (by rw [List.length_append,f2,hl])
     exact ⟨w++u,by rw [hu,List.append_assoc],by rw [List.length_append,f2,hul]; omega⟩
    ·rw [if_neg (by omega)]
     exact ⟨[],by rw [List.append_nil],by simp; omega⟩
   ·rw [if_neg (by omega)]
    exact ⟨[],by rw [List.append_nil],by simp; omega⟩
 unfold Zaj.g Zaj.f
 have e1:Int.tmod (s.length:Int) 26=((s.length % 26:Nat):Int):=by
  have:Int.tmod (s.length:Int) 26=(s.length:Int) % 26:=Int.tmod_eq_emod_of_nonneg (by omega)
  rw [this]; omega
 have hk:s.length % 26 < 26:=Nat.mod_lt _ (by omega)
 rw [e1]
 have e2:IntKind.u8.wrap (97+IntKind.u8.wrap ((s.length % 26:Nat):Int))=((97+s.length % 26:Nat):Int):=by
  rw [w8u (x:=((s.length % 26:Nat):Int)) (by omega),w8u (by omega)]; omega
 rw [e2]
 have hb:bytesOf [((97+s.length % 26:Nat):Int)]=[UInt8.ofNat (97+s.length % 26)]:=rfl
 rw [hb]
 obtain ⟨u,h1,h2⟩:=loop (1000+s.length) (1000+s.length) 0 [UInt8.ofNat (97+s.length % 26)] (by omega) (by omega) (by omega) rfl
 exact ⟨u,h1,by omega⟩
abbrev twice:Str:=[95,116,119,105,99,101]
def okLb (s:Str):Prop:=labelOk s=true∧s.length≤8∧s≠twice∧s.getD 0 0≠122
theorem fit13_ok (s:Str) (hs:s.length≤20):∃ r,Zay.g s=some (r,())∧okLb r:=by
 obtain ⟨r,h1,h2,h3,_⟩:=fit13_label s (by omega)
 refine ⟨r,h1,h2,h3,fun e=>?_,fun e=>?_⟩
 ·subst e
  unfold Zay.g Zay.f at h1
  obtain ⟨t,ht,hl⟩:=fit07_x s (by omega)
  have hn:(UInt8.ofNat (97+s.length % 26)).toNat=97+s.length % 26:=by rw [UInt8.toNat_ofNat',Nat.mod_eq_of_lt (by omega)]
  rw [ht,Option.bind_some] at h1
  simp only [dt] at h1
  split at h1
  ·have e1:mn ((UInt8.ofNat (97+s.length % 26)::t).length:Int) 11=((UInt8.ofNat (97+s.length % 26)::t).length:Int):=by unfold mn; rw [if_neg (by simp; omega)]
   rw [e1,if_pos (by omega)] at h1
   simp only [Int.toNat_natCast,List.take_length,List.drop_zero] at h1
   split at h1
   ·simp only [Option.some.injEq,Prod.mk.injEq,and_true] at h1
    have h1:([95]++UInt8.ofNat (97+s.length % 26)::t:Str)=[95,116,119,105,99,101]:=h1
    simp only [List.cons_append,List.nil_append,List.cons.injEq,true_and] at h1
    have a1:=congrArg UInt8.toNat h1.1
    have a2:=congrArg List.length h1.2
    rw [hn] at a1
    simp at a1 a2
    omega
   ·cases h1
  ·simp only [Option.some.injEq,Prod.mk.injEq,and_true,List.cons.injEq] at h1
   have a1:=congrArg UInt8.toNat h1.1
   rw [hn] at a1
   simp at a1
   omega
 ·revert e
  show r.getD 0 0=122→False
  intro e
  unfold Zay.g Zay.f at h1
  obtain ⟨t,ht,hl⟩:=fit07_x s (by omega)
  have hn:(UInt8.ofNat (97+s.length % 26)).toNat=97+s.length % 26:=by rw [UInt8.toNat_ofNat',Nat.mod_eq_of_lt (by omega)]
  rw [ht,Option.bind_some] at h1
  simp only [dt] at h1
  split at h1
  ·have e1:mn ((UInt8.ofNat (97+s.length % 26)::t).length:Int) 11=((UInt8.ofNat (97+s.length % 26)::t).length:Int):=by unfold mn; rw [if_neg (by simp; omega)]
   rw [e1,if_pos (by omega)] at h1
   simp only [Int.toNat_natCast,List.take_length,List.drop_zero] at h1
   split at h1
   ·simp only [Option.some.injEq,Prod.mk.injEq,and_true] at h1
    subst h1
    have e:(95:UInt8)=122:=e
    exact absurd e (by decide)
   ·cases h1
  ·simp only [Option.some.injEq,Prod.mk.injEq,and_true] at h1
   subst h1
   have e:UInt8.ofNat (97+s.length % 26)=122:=e
   have a1:=congrArg UInt8.toNat e
   rw [hn] at a1
   simp at a1
   omega
theorem take_ok (s:Str) (hs:s.length≤9223372036854775807):0≤mn (s.length:Int) 20∧mn (s.length:Int) 20≤(s.length:Int)∧∃ r,Zay.g ((s.take ((mn (s.length:Int) 20)).toNat).drop 0)=some (r,())∧okLb r:=by
 have hmn:0≤mn (s.length:Int) 20∧mn (s.length:Int) 20≤s.length∧mn (s.length:Int) 20≤20:=by unfold mn; split <;> omega
 obtain ⟨r,hr,hn⟩:=fit13_ok ((s.take ((mn (s.length:Int) 20)).toNat).drop 0) (by simp; omega)
 exact ⟨hmn.1,hmn.2.1,r,hr,hn⟩
abbrev smX (x:Ln):Sm:=⟨x.2.1.1,x.2.1.2.1,x.2.1.2.2.1,x.2.1.2.2.2.1,x.2.1.2.2.2.2.1,x.2.1.2.2.2.2.2.1,x.2.1.2.2.2.2.2.2.1,x.2.1.2.2.2.2.2.2.2.1⟩
def okLn (x:Ln):Prop:=(x.1=[]∨okLb x.1)∧∃ t,GoodS (smX x) t
theorem fitX_loop (a:List Ln) (ha:∀ x∈a,wfLn2 x) (n:Nat):∀ (m i:Nat) (out:List Ln),i≤a.length→i≤20→20 - i < m→out.length=i→(∀ x∈out,okLn x) →
  ∃ r:List Ln,Zat.l3 n m a out (i:Int)=some (r,())∧r.length≤20∧∀ x∈r,okLn x:=by
 intro m
 induction m with
 | zero=>intro i out _ _ h; omega
 | succ m ih=>
  intro i out hi h20 hm ho hout
  rw [Zat.l3]
  simp only [dt,Int.toNat_natCast]
  by_cases h:i < a.length
  ·rw [if_pos (by omega)]
   by_cases h2:i < 20
   ·rw [if_pos (by omega),if_pos (by omega)]
    have hmem:a.getD i zL∈a:=by rw [List.getD_eq_getElem?_getD,List.getElem?_eq_getElem h]; exact List.getElem_mem h
    obtain ⟨w1,⟨_,_,_,_,_,_,w2,w3,_⟩,_⟩:=ha _ hmem
    generalize a.getD i zL=x at w1 w2 w3
    obtain ⟨lb,⟨k,o,A,b,c,u,e,nm,_⟩,_⟩:=x
    dsimp only at w1 w2 w3 ⊢
    obtain ⟨s,t,hf,hg⟩:=fit17 ⟨k,o,A,b,c,u,e,nm⟩ ⟨wfLen w2.1,fun x hx=>⟨(wfU32 (w2.2 x hx).2.1).1,(wfU32 (w2.2 x hx).2.1).2,wfLen (w2.2 x hx).2.2.1⟩,wfLen w3⟩
    dsimp only at hf
    rw [hf,Option.bind_some]
    unfold smF
    dsimp only
    rw [if_pos (by omega)]
    have W1:IntKind.i64.wrap ((i:Int)+1)=((i+1:Nat):Int):=by rw [w64 (by omega)]; omega
    have J8:∀ lb',(lb'=[]∨okLb lb')→∃ r:List Ln,Zat.j8 n (Zat.l3 n m) a out (i:Int) lb' s.k s.o s.a s.b s.c s.u s.e s.nm=some (r,())∧r.length≤20∧∀ x∈r,okLn x:=fun lb' hl=>by
     unfold Zat.j8
     rw [if_pos (by simp; omega),W1]
     refine ih (i+1) _ (by omega) (by omega) (by omega) (by simp [ho]) fun y hy=>?_
     rcases List.mem_append.1 hy with hy | hy
     ·exact hout y hy
     ·rw [List.mem_singleton.1 hy]; exact ⟨hl,t,hg⟩
    obtain ⟨m1,m2,r,hr,hl⟩:=take_ok lb (wfLen w1)
    by_cases h3:(2:Int) < (lb.length:Int)
    ·rw [if_pos h3,if_pos (by omega),if_pos (by omega),if_pos ⟨m1,m2⟩,hr,Option.bind_some]
     exact J8 r (.inr hl)
    ·rw [if_neg h3]
     exact J8 [] (.inl rfl)
   ·rw [if_neg (by omega)]
    exact ⟨out,rfl,by omega,hout⟩
  ·rw [if_neg (by omega)]
   exact ⟨out,rfl,by omega,hout⟩
theorem fitX (a:List Ln) (ha:∀ x∈a,wfLn2 x):∃ r:List Ln,Zat.g a=some (r,())∧r.length≤20∧∀ x∈r,okLn x:=by
 unfold Zat.g Zat.f
 exact fitX_loop a ha _ _ 0 [] (by omega) (by omega) (by omega) rfl fun x hx=>by cases hx
theorem getD_ln' {a:List Ln} {i:Nat} (h:i < a.length):a.getD i zL∈a:=by
 rw [List.getD_eq_getElem?_getD,List.getElem?_eq_getElem h]; exact List.getElem_mem h
theorem post_good:∀ t:Tr,t.ok→∀ y∈t.post,goodItem y
 | .num n,h=>fun y hy=>by rw [show y=(1,n,[],()) from List.mem_singleton.1 hy]; exact ⟨h.1,h.2,rfl⟩
 | .nam s,h=>fun y hy=>by
  rw [show y=(2,0,s,()) from List.mem_singleton.1 hy]
  refine ⟨Int.le_refl _,(by decide:(0:Int)≤4294967295),?_⟩
  have h:labelOk s=true:=h
  unfold needsR
  dsimp only
  rw [if_neg (by decide),if_pos rfl,h]; rfl
 | .neg x,h=>fun y hy=>by
  rcases List.mem_append.1 hy with hy | hy
  ·exact post_good x h y hy
  ·rw [List.mem_singleton.1 hy]; exact ⟨Int.le_refl _,by decide,rfl⟩
 | .bin o a b,h=>fun y hy=>by
  rcases List.mem_append.1 hy with hy | hy
  ·rcases List.mem_append.1 hy with hy | hy
   ·exact post_good a h.1 y hy
   ·exact post_good b h.2 y hy
  ·rw [List.mem_singleton.1 hy]; cases o <;> exact ⟨Int.le_refl _,by decide,rfl⟩
 | .br x,h=>fun y hy=>post_good x h y hy
end Rv
namespace Rv
open Go
theorem labelOk_ne {s:Str} (h:labelOk s=true):s≠[]:=by
 intro e; subst e; revert h; decide
theorem findR_isSome {s:Str}:∀ {l:List Sym} {x:Sym},x∈l→x.1=s→(findR s l).isSome=true
 | y::l,x,hm,hs=>by
  unfold findR
  split
  ·rfl
  ·rename_i hne
   rcases List.mem_cons.1 hm with rfl | hm
   ·exact absurd hs hne
   ·exact findR_isSome hm hs
theorem enough_congr:∀ {a b:List Item} (t:Int),a.map needsR=b.map needsR→enough t a=enough t b
 | [],[],_,_=>rfl
 | [],_::_,_,h=>by simp at h
 | _::_,[],_,h=>by simp at h
 | x::a,y::b,t,h=>by
  simp only [List.map_cons,List.cons.injEq] at h
  unfold enough
  rw [h.1]
  split
  ·exact enough_congr _ h.2
  ·rfl
theorem set_needs {l:List Item} {i:Nat} {x:Item} (hi:i < l.length) (h:needsR x=needsR (l.getD i ((0:Int),((0:Int),(([]:Str),()))))):(l.set i x).map needsR=l.map needsR:=by
 rw [List.map_set,h]
 apply List.ext_getElem?
 intro j
 rw [List.getElem?_set]
 split
 ·rename_i e
  subst e
  simp [hi,List.getD_eq_getElem?_getD]
 ·rfl
theorem take_set {α:Type} {l:List α} {i:Nat} {x:α} (hi:i < l.length):(l.set i x).take (i+1)=l.take i++[x]:=by
 rw [List.take_succ_eq_append_getElem (by simpa using hi)]
 simp [List.take_set_of_le]
theorem named_loop (labels:List Sym) (hlab:labels.length≤100) (hg:∀ x∈labels,labelOk x.1=true∧x.1.length≤12) (n:Nat):∀ (m i:Nat) (out:List Item),i≤out.length→out.length≤19→out.length - i < m→(∀ x∈out,goodItem x)→(∀ x∈out,x.2.2.1.length≤12)→(∀ x∈out.take i,x.1=2→(findR x.2.2.1 labels).isSome=true) →
  ∃ r,Zam.l3 n m labels out (i:Int)=some (r,())∧r.map needsR=out.map needsR∧r.length=out.length∧(∀ x∈r,goodItem x)∧∀ x∈r,x.1=2→(findR x.2.2.1 labels).isSome=true:=by
 intro m
 induction m with
 | zero=>intro i out _ _ h; omega
 | succ m ih=>
  intro i out hi h19 hm hgo hnl ht
  simp only [Zam.l3,dt,Int.toNat_natCast]
  by_cases h1:i < out.length
  ·have hmem:out.getD i ((0:Int),((0:Int),(([]:Str),())))∈out:=by
    rw [List.getD_eq_getElem?_getD,List.getElem?_eq_getElem h1]; exact List.getElem_mem h1
   have hgx:=hgo _ hmem
   have hnx:=hnl _ hmem
   have htk:out.take (i+1)=out.take i++[out.getD i ((0:Int),((0:Int),(([]:Str),())))]:=by
    rw [List.take_succ_eq_append_getElem h1,List.getD_eq_getElem?_getD,List.getElem?_eq_getElem h1]; rfl
   rw [if_pos (by omega),if_pos (by omega)]
   have put:∀ x:Item,needsR x=needsR (out.getD i ((0:Int),((0:Int),(([]:Str),()))))→goodItem x→x.2.2.1.length≤12→(x.1=2→(findR x.2.2.1 labels).isSome=true)→∃ r,Zam.j4 n (Zam.l3 n m) labels (out.set i x) (i:Int)=some (r,())∧r.map needsR=out.map needsR∧r.length=out.length∧(∀ x∈r,goodItem x)∧∀ x∈r,x.1=2→(findR x.2.2.1 labels).isSome=true:=by
    intro x hx hxg hxn hxf
    unfold Zam.j4
    rw [w64 (by omega)]
    obtain ⟨r,h1',h2',h3',h4',h5'⟩:=ih (i+1) (out.set i x) (by simp; omega) (by simp; omega) (by simp; omega) (fun y hy=>by
      rcases List.mem_or_eq_of_mem_set hy with hy | rfl
      ·exact hgo y hy
      ·exact hxg) (fun y hy=>by
      rcases List.mem_or_eq_of_mem_set hy with hy | rfl
      ·exact hnl y hy
      ·exact hxn) (fun y hy=>by
      rw [take_set h1] at hy
      rcases List.mem_append.1 hy with hy | hy
      ·exact ht y hy
      ·rw [List.mem_singleton] at hy; subst hy; exact hxf)
    exact ⟨r,h1',by rw [h2',set_needs h1 hx],by rw [h3',List.length_set],h4',h5'⟩
   generalize hxe:out.getD i ((0:Int),((0:Int),(([]:Str),())))=x at *
   by_cases h2:x.1=2
   ·rw [if_neg (by simpa using h2)]
    have hn:needsR x=(0,true):=by
     have h3:=hgx.2.2
     unfold needsR at h3 ⊢
     rw [if_neg (by omega),if_pos h2] at h3 ⊢
     simp only at h3
     rw [h3]
    by_cases h0:labels.length=0
    ·rw [if_pos (by omega),if_pos (by omega),if_pos (by omega)]
     refine put _ ?_ ?_ ?_ ?_
     ·rw [hn]; rfl
     ·exact ⟨(u32_range _).1,(u32_range _).2,rfl⟩
     ·simp
     ·intro h; simp at h
    ·have hx1:IntKind.i64.wrap ((i:Int)+(x.2.2.1.length:Int))=((i+x.2.2.1.length:Nat):Int):=by rw [w64 (by omega)]; omega
     have hx2:Int.tmod ((i+x.2.2.1.length:Nat):Int) (labels.length:Int)=(((i+x.2.2.1.length) % labels.length:Nat):Int):=by
      rw [Int.tmod_eq_emod_of_nonneg (by omega)]; omega
     have hx3:(i+x.2.2.1.length) % labels.length < labels.length:=Nat.mod_lt _ (by omega)
     rw [if_neg (by omega),if_pos (by omega),if_neg (by omega),hx1,hx2,if_pos (by omega),if_pos (by omega),Int.toNat_natCast]
     have hlm:labels.getD ((i+x.2.2.1.length) % labels.length) (([]:Str),((0:Int),()))∈labels:=by
      rw [List.getD_eq_getElem?_getD,List.getElem?_eq_getElem hx3]; exact List.getElem_mem hx3
     generalize labels.getD ((i+x.2.2.1.length) % labels.length) (([]:Str),((0:Int),()))=y at hlm ⊢
     obtain ⟨g1,g2⟩:=hg y hlm
     have hx0:x.2.1=0:=by
      have h3:=hgx.2.2
      unfold needsR at h3
      rw [if_neg (by omega),if_pos h2] at h3
      simp only [Bool.and_eq_true,decide_eq_true_eq] at h3
      exact h3.1
     have hy:needsR (x.1,x.2.1,y.1,())=(0,true):=by
      unfold needsR
      dsimp only
      rw [if_neg (by omega),if_pos h2,hx0,g1]; rfl
     refine put _ ?_ ?_ ?_ ?_
     ·rw [hn,hy]
     ·exact ⟨hgx.1,hgx.2.1,by rw [hy]⟩
     ·show y.1.length≤12; omega
     ·intro _; exact findR_isSome hlm rfl
   ·rw [if_pos (by simpa using h2)]
    unfold Zam.j4
    rw [w64 (by omega)]
    obtain ⟨r,h1',h2',h3',h4',h5'⟩:=ih (i+1) out (by omega) h19 (by omega) hgo hnl (fun y hy=>by
      rw [htk] at hy
      rcases List.mem_append.1 hy with hy | hy
      ·exact ht y hy
      ·rw [List.mem_singleton] at hy; subst hy; exact fun h=>absurd h h2)
    exact ⟨r,h1',h2',h3',h4',h5'⟩
  ·rw [if_neg (by omega)]
   have:out.take i=out:=List.take_of_length_le (by omega)
   rw [this] at ht
   exact ⟨out,rfl,rfl,rfl,hgo,ht⟩
theorem good_len {x:Item} (h:goodItem x):x.2.2.1.length≤12:=by
 have h3:=h.2.2
 unfold needsR at h3
 split at h3
 ·simp only [decide_eq_true_eq] at h3; rw [h3]; simp
 ·split at h3
  ·simp only [Bool.and_eq_true] at h3
   have:=h3.2
   unfold labelOk at this
   simp only [Bool.and_eq_true,decide_eq_true_eq] at this
   exact this.1.1.1.2
  ·split at h3
   ·simp only [Bool.and_eq_true,decide_eq_true_eq] at h3; rw [h3.2]; simp
   ·split at h3
    ·simp only [Bool.and_eq_true,decide_eq_true_eq] at h3; rw [h3.2]; simp
    ·cases h3
theorem named_eq (l:List Item) (hl:l.length≤9223372036854775807) (hw:wfItems l) (labels:List Sym) (hlab:labels.length≤100) (hg:∀ x∈labels,labelOk x.1=true∧x.1.length≤12) :
  ∃ e,Zam.g l labels=some (e,())∧wellL e∧e.length≤19∧(∀ x∈e,goodItem x)∧∀ x∈e,x.1=2→(findR x.2.2.1 labels).isSome=true:=by
 unfold Zam.g Zam.f
 obtain ⟨r,hr,hwell,hlen,hgood⟩:=fit15_eq l hl hw
 rw [hr,Option.bind_some]
 obtain ⟨e,h1,h2,h3,h4,h5⟩:=named_loop labels hlab hg (1000+l.length+labels.length) (1000+l.length+labels.length) 0 r (by omega) hlen (by omega) hgood (fun x hx=>good_len (hgood x hx)) (fun x hx=>by simp at hx)
 refine ⟨e,h1,?_,by omega,h4,h5⟩
 unfold wellL
 rw [enough_congr 0 h2]
 exact hwell
end Rv
namespace Rv
open Go
def lnLabs (l:List Ln):List Str:=(l.map (·.1)).filter fun s=>decide (s≠[])
theorem lnLabs_app (a b:List Ln):lnLabs (a++b)=lnLabs a++lnLabs b:=by unfold lnLabs; rw [List.map_append,List.filter_append]
theorem lnLabs_none {x:Ln} (h:x.1=[]):lnLabs [x]=[]:=by simp [lnLabs,h]
theorem lnLabs_one {x:Ln} (h:x.1≠[]):lnLabs [x]=[x.1]:=by simp [lnLabs,h]
theorem lnLabs_map {a b:List Ln} (h:a.map (·.1)=b.map (·.1)):lnLabs a=lnLabs b:=by unfold lnLabs; rw [h]
theorem f20_a (a:List Ln) (ha:∀ x∈a,okLn x) (n:Nat):∀ (m i:Nat) (out:List Ln) (lb:List Sym),i≤a.length→i≤20→20 - i < m→out.length=i→lb.length≤i→lb.map (·.1)=lnLabs out→(lnLabs out).Nodup→(∀ x∈out,okLn x) →
  ∃ (out':List Ln) (lb':List Sym),Zaa.l4 n m a out lb (i:Int)=Zaa.l14 n n out' lb' 0∧out'.length≤20∧lb'.length≤20∧lb'.map (·.1)=lnLabs out'∧(lnLabs out').Nodup∧∀ x∈out',okLn x:=by
 intro m
 induction m with
 | zero=>intro i out lb _ _ h; omega
 | succ m ih=>
  intro i out lb hi h20 hm ho hlb hls hnd hout
  rw [Zaa.l4]
  simp only [dt,Int.toNat_natCast]
  by_cases h:i < a.length
  ·rw [if_pos (by omega)]
   by_cases h2:i < 20
   ·have hx:=ha _ (getD_ln' h)
    rw [if_pos (by omega),if_pos (by omega),find16_eq lb _ (by omega),Option.bind_some]
    generalize a.getD i zL=x at hx
    have W1:IntKind.i64.wrap ((i:Int)+1)=((i+1:Nat):Int):=by rw [w64 (by omega)]; omega
    have J:∀ s:Str,(s=[]∨okLb s)→(s≠[]→s ∉ lnLabs out)→∃ (out':List Ln) (lb':List Sym),Zaa.j10 n (Zaa.l4 n m) a out lb (i:Int) s x.2.1.1 x.2.1.2.1 x.2.1.2.2.1 x.2.1.2.2.2.1 x.2.1.2.2.2.2.1 x.2.1.2.2.2.2.2.1 x.2.1.2.2.2.2.2.2.1 x.2.1.2.2.2.2.2.2.2.1=Zaa.l14 n n out' lb' 0∧out'.length≤20∧lb'.length≤20∧lb'.map (·.1)=lnLabs out'∧(lnLabs out').Nodup∧∀ x∈out',okLn x:=by
     intro s hs hns
     unfold Zaa.j10 Zaa.j12
     rw [W1]
     have hok:okLn (s,(x.2.1.1,x.2.1.2.1,x.2.1.2.2.1,x.2.1.2.2.2.1,x.2.1.2.2.2.2.1,x.2.1.2.2.2.2.2.1,x.2.1.2.2.2.2.2.2.1,x.2.1.2.2.2.2.2.2.2.1,()),()):=⟨hs,hx.2⟩
     generalize hl:((s,(x.2.1.1,x.2.1.2.1,x.2.1.2.2.1,x.2.1.2.2.2.1,x.2.1.2.2.2.2.1,x.2.1.2.2.2.2.2.1,x.2.1.2.2.2.2.2.2.1,x.2.1.2.2.2.2.2.2.2.1,()),()):Ln)=y at hok
     have hy:y.1=s:=by rw [← hl]
     have hout':∀ z∈out++[y],okLn z:=fun z hz=>by
      rcases List.mem_append.1 hz with hz | hz
      ·exact hout z hz
      ·rw [List.mem_singleton.1 hz]; exact hok
     by_cases he:s=[]
     ·rw [if_neg (by simpa using he),if_pos (by simp; omega)]
      have e:lnLabs (out++[y])=lnLabs out:=by rw [lnLabs_app,lnLabs_none (by rw [hy]; exact he),List.append_nil]
      exact ih (i+1) _ lb (by omega) (by omega) (by omega) (by simp [ho]) (by omega) (by rw [e]; exact hls) (by rw [e]; exact hnd) hout'
     ·rw [if_pos (by simpa using he),if_pos (by simp; omega),if_pos (by simp; omega)]
      have e:lnLabs (out++[y])=lnLabs out++[s]:=by rw [lnLabs_app,lnLabs_one (by rw [hy]; exact he),hy]
      refine ih (i+1) _ _ (by omega) (by omega) (by omega) (by simp [ho]) (by simp; omega) (by rw [e,List.map_append,hls]; rfl) ?_ hout'
      rw [e,List.nodup_append]
      refine ⟨hnd,by simp,fun u hu v hv=>?_⟩
      rw [List.mem_singleton.1 hv]
      intro huv; subst huv; exact hns he hu
    dsimp only
    by_cases hf:(findR x.1 lb).isSome=true
    ·rw [if_pos hf]
     exact J [] (.inl rfl) (fun h=>absurd rfl h)
    ·rw [if_neg hf]
     refine J x.1 hx.1 fun _ hm=>?_
     rw [← hls] at hm
     exact findR_mem (by simpa using hf) hm
   ·rw [if_neg (by omega)]
    exact ⟨out,lb,rfl,by omega,by omega,hls,hnd,hout⟩
  ·rw [if_neg (by omega)]
   exact ⟨out,lb,rfl,by omega,by omega,hls,hnd,hout⟩
theorem getD_set_eq {α:Type} {l:List α} {i:Nat} {x d:α} (h:i < l.length):(l.set i x).getD i d=x:=by
 simp [List.getD_eq_getElem?_getD,h]
theorem getD_set_ne {α:Type} {l:List α} {i j:Nat} {x d:α} (h:i≠j):(l.set i x).getD j d=l.getD j d:=by
 simp [List.getD_eq_getElem?_getD,List.getElem?_set_ne h]
theorem map_set_at {α β:Type} {l:List α} {i:Nat} {x d:α} {f:α→β} (hi:i < l.length) (h:f x=f (l.getD i d)):(l.set i x).map f=l.map f:=by
 rw [List.map_set,h]
 apply List.ext_getElem?
 intro j
 rw [List.getElem?_set]
 split
 ·rename_i e
  subst e
  simp [hi,List.getD_eq_getElem?_getD]
 ·rfl
def nearX (lb:List Sym) (x:Ln):Prop:=
 okLn x∧(eL x).length≤19∧(∀ y∈eL x,y.2.1 < 50)∧(∀ y∈eL x,y.1=2→(findR y.2.2.1 lb).isSome=true)∧(x.2.1.1=10→(findR x.2.1.2.2.2.2.2.2.2.1 lb).isSome=true) ∧
  ((x.2.1.1=7∨x.2.1.1=8)→lb≠[]→∃ s,(findR s lb).isSome=true∧eL x=[(2,0,s,())])
def md (y:Item):Item:=(y.1,Int.tmod y.2.1 50,y.2.2.1,())
theorem md_needs {y:Item} (h:goodItem y):needsR (md y)=needsR y∧0≤(md y).2.1∧(md y).2.1 < 50:=by
 have e:(md y).2.1=y.2.1 % 50:=Int.tmod_eq_emod_of_nonneg h.1
 refine ⟨?_,by rw [e]; omega,by rw [e]; omega⟩
 have hb:=h.2.2
 have h0:y.2.1=0→(md y).2.1=0:=fun h0=>by rw [e,h0]; rfl
 unfold needsR at hb ⊢
 show (if y.1=1 then _ else if y.1=2 then (0,decide ((md y).2.1=0) && labelOk y.2.2.1) else if y.1=3 then (1,decide ((md y).2.1=0) && decide (y.2.2.1=[])) else if y.1=4∨y.1=5∨y.1=6 then (2,decide ((md y).2.1=0) && decide (y.2.2.1=[])) else _)=_
 by_cases h1:y.1=1
 ·rw [if_pos h1,if_pos h1]; rfl
 ·rw [if_neg h1] at hb
  rw [if_neg h1,if_neg h1]
  by_cases h2:y.1=2
  ·rw [if_pos h2] at hb
   simp only [Bool.and_eq_true,decide_eq_true_eq] at hb
   rw [if_pos h2,if_pos h2,h0 hb.1,hb.1]
  ·rw [if_neg h2] at hb
   rw [if_neg h2,if_neg h2]
   by_cases h3:y.1=3
   ·rw [if_pos h3] at hb
    simp only [Bool.and_eq_true,decide_eq_true_eq] at hb
    rw [if_pos h3,if_pos h3,h0 hb.1,hb.1]
   ·rw [if_neg h3] at hb
    rw [if_neg h3,if_neg h3]
    by_cases h4:y.1=4∨y.1=5∨y.1=6
    ·rw [if_pos h4] at hb
     simp only [Bool.and_eq_true,decide_eq_true_eq] at hb
     rw [if_pos h4,if_pos h4,h0 hb.1,hb.1]
    ·rw [if_neg h4,if_neg h4]
theorem l20_eq (n:Nat) (rl) (a:List Ln) (b:List Sym) (c k o A B C:Int) (u:Bool) (e0:List Item) (nm:Str):∀ (m i:Nat) (d:List Item),i≤d.length→d.length≤19→d.length - i < m →
  Zaa.l20 n rl m a b c d (i:Int) k o A B C u e0 nm=Zaa.l20 n rl 1 a b c (d.take i++(d.drop i).map md) (d.length:Int) k o A B C u e0 nm:=by
 intro m
 induction m with
 | zero=>intro i d _ _ h; omega
 | succ m ih=>
  intro i d hi h19 hm
  by_cases h:i < d.length
  ·have hd:d.drop i=d.getD i zI::d.drop (i+1):=by
    rw [List.drop_eq_getElem_cons h,List.getD_eq_getElem?_getD,List.getElem?_eq_getElem h]; rfl
   conv=>lhs; rw [Zaa.l20]
   simp only [dt,Int.toNat_natCast]
   rw [if_pos (by omega),if_pos (by omega),if_pos (by omega),w64 (by omega),show (i:Int)+1=((i+1:Nat):Int) by omega]
   show Zaa.l20 n rl m a b c (d.set i (md (d.getD i zI))) ((i+1:Nat):Int) k o A B C u e0 nm=_
   rw [ih (i+1) _ (by simp; omega) (by simp; omega) (by simp; omega),take_set h,List.length_set,List.drop_set_of_lt (by omega),hd]
   simp
  ·obtain rfl:i=d.length:=by omega
   have e:d.take d.length++(d.drop d.length).map md=d:=by simp
   rw [e]
   conv=>lhs; rw [Zaa.l20]
   conv=>rhs; rw [Zaa.l20]
   simp only [dt]
   rw [if_neg (show ¬ ((d.length:Int) < (d.length:Int)) by omega),if_neg (show ¬ ((d.length:Int) < (d.length:Int)) by omega)]
theorem setE {s:Sm} {t0 t':Tr} (h:GoodS s (some t0)) (ht:okT' t'):GoodS ⟨s.k,s.o,s.a,s.b,s.c,s.u,t'.post,s.nm⟩ (some t'):=by
 cases h with
 | ins1 h hk _=>exact .ins1 h hk ht
 | load h _=>exact .load h ht
 | word _=>exact .word ht
theorem good_kind {s:Sm} {t0:Tr} (h:GoodS s (some t0)):s.k≠10:=by
 cases h with
 | @ins1 k o a b c u t h hk _=>exact (by omega:k≠10)
 | load h _=>exact (by decide:(8:Int)≠10)
 | word _=>exact (by decide:(9:Int)≠10)
theorem noI {p:Item→Prop}:∀ y∈([]:List Item),p y:=fun y hy=>by cases hy
theorem name_of {s:Str} (h:labelOk s=true) (h2:bt s 0≠95):nameOk s=true:=by
 unfold labelOk at h
 simp only [Bool.and_eq_true,decide_eq_true_eq] at h
 obtain ⟨⟨⟨⟨h1,h3⟩,h4⟩,h5⟩,h6⟩:=h
 unfold nameOk
 simp only [Bool.and_eq_true,decide_eq_true_eq]
 refine ⟨⟨⟨⟨h1,h3⟩,?_⟩,h6⟩,h5⟩
 match s,h1 with
 | c::r,_=>
  have hw:isW c=true:=(List.all_eq_true.1 h5) c (by simp)
  have h2:¬ ((c.toNat:Int)=95):=h2
  unfold isW at hw
  rw [isA_L] at hw
  have hd:isD c=false:=by simpa using h4
  rw [hd] at hw
  have h95:decide (c.toNat=95)=false:=by rw [decide_eq_false_iff_not]; omega
  rw [h95] at hw
  simpa using hw
theorem f20_b (lb:List Sym) (hlb:lb.length≤20) (hg:∀ x∈lb,okLb x.1) (n:Nat) (hn:100≤n):∀ (m i:Nat) (out:List Ln),i≤out.length→out.length≤20→out.length - i < m→(∀ x∈out,okLn x)→(∀ j,j < i→nearX lb (out.getD j zL)) →
  ∃ r:List Ln,Zaa.l14 n m out lb (i:Int)=some (r,())∧r.map (·.1)=out.map (·.1)∧r.length=out.length∧∀ j,j < r.length→nearX lb (r.getD j zL):=by
 intro m
 induction m with
 | zero=>intro i out _ _ h; omega
 | succ m ih=>
  intro i out hi h20 hm hout hnear
  rw [Zaa.l14]
  simp only [dt,Int.toNat_natCast]
  by_cases h:i < out.length
  ·have hx:=hout _ (getD_ln' h)
   rw [if_pos (by omega),if_pos (by omega)]
   have W1:IntKind.i64.wrap ((i:Int)+1)=((i+1:Nat):Int):=by rw [w64 (by omega)]; omega
   have J36:∀ (k o A B C:Int) (u:Bool) (e:List Item) (nm:Str),nearX lb ((out.getD i zL).1,(k,o,A,B,C,u,e,nm,()),())→∃ r:List Ln,Zaa.j36 n (Zaa.l14 n m) out lb (i:Int) k o A B C u e nm=some (r,())∧r.map (·.1)=out.map (·.1)∧r.length=out.length∧∀ j,j < r.length→nearX lb (r.getD j zL):=by
    intro k o A B C u e nm hN
    unfold Zaa.j36
    rw [if_pos (by omega),Int.toNat_natCast,W1]
    obtain ⟨r,h1,h2,h3,h4⟩:=ih (i+1) (out.set i ((out.getD i zL).1,(k,o,A,B,C,u,e,nm,()),())) (by simp; omega) (by simp; omega) (by simp; omega) (fun y hy=>by
     rcases List.mem_or_eq_of_mem_set hy with hy | rfl
     ·exact hout y hy
     ·exact hN.1) (fun j hj=>by
     by_cases hij:i=j
     ·subst hij; rw [getD_set_eq h]; exact hN
     ·rw [getD_set_ne hij]; exact hnear j (by omega))
    exact ⟨r,h1,by rw [h2]; exact map_set_at (d:=zL) h rfl,by rw [h3,List.length_set],h4⟩
   generalize hxe:out.getD i zL=x at hx J36
   obtain ⟨hl,t,hgs⟩:=hx
   cases t with
   | none=>
    have he:eL x=[]:=(good_elen hgs).2.1
    have he':x.2.1.2.2.2.2.2.2.1=[]:=he
    rw [he',if_neg (by simp)]
    unfold Zaa.j27
    by_cases h10:x.2.1.1=10
    ·rw [if_pos (by simpa using h10)]
     have l30:∀ (q m' d:Nat) (nm:Str),d≤lb.length→lb.length - d < m'→(nm=[]∨(nameOk nm=true∧(findR nm lb).isSome=true)) →
       ∃ r:List Ln,Zaa.l30 n (Zaa.l14 n m) m' out lb (i:Int) (d:Int) x.2.1.1 x.2.1.2.1 x.2.1.2.2.1 x.2.1.2.2.2.1 x.2.1.2.2.2.2.1 x.2.1.2.2.2.2.2.1 [] nm=some (r,())∧r.map (·.1)=out.map (·.1)∧r.length=out.length∧∀ j,j < r.length→nearX lb (r.getD j zL):=by
      intro q m'
      induction m' with
      | zero=>intro d nm _ h; omega
      | succ m' ih2=>
       intro d nm hd hm' hnm
       rw [Zaa.l30]
       simp only [dt,Int.toNat_natCast]
       by_cases hd2:d < lb.length
       ·have hmem:lb.getD d (([]:Str),((0:Int),()))∈lb:=by
         rw [List.getD_eq_getElem?_getD,List.getElem?_eq_getElem hd2]; exact List.getElem_mem hd2
        have hy:=hg _ hmem
        have hfy:=findR_isSome hmem rfl
        generalize lb.getD d (([]:Str),((0:Int),()))=y at hy hfy
        have hy0:=labelOk_ne hy.1
        have hyl:0 < y.1.length:=List.length_pos_iff.2 hy0
        have W2:IntKind.i64.wrap ((d:Int)+1)=((d+1:Nat):Int):=by rw [w64 (by omega)]; omega
        have J31:∀ nm',(nm'=[]∨(nameOk nm'=true∧(findR nm' lb).isSome=true))→∃ r:List Ln,Zaa.j31 n (Zaa.l14 n m) (Zaa.l30 n (Zaa.l14 n m) m') out lb (i:Int) (d:Int) x.2.1.1 x.2.1.2.1 x.2.1.2.2.1 x.2.1.2.2.2.1 x.2.1.2.2.2.2.1 x.2.1.2.2.2.2.2.1 [] nm'=some (r,())∧r.map (·.1)=out.map (·.1)∧r.length=out.length∧∀ j,j < r.length→nearX lb (r.getD j zL):=fun nm' hn'=>by
         unfold Zaa.j31
         rw [W2]
         exact ih2 (d+1) nm' (by omega) (by omega) hn'
        rw [if_pos (by omega),if_pos (by omega),if_pos (by omega)]
        by_cases h95:bt y.1 0≠95
        ·rw [if_pos h95]
         by_cases hq:nm=[]
         ·rw [if_pos hq,if_pos (by omega)]
          exact J31 y.1 (.inr ⟨name_of hy.1 h95,hfy⟩)
         ·rw [if_neg hq]
          exact J31 nm hnm
        ·rw [if_neg h95]
         exact J31 nm hnm
       ·rw [if_neg (by omega)]
        by_cases hq:nm=[]
        ·rw [if_pos hq]
         exact J36 0 0 0 0 0 false [] [] ⟨⟨hl,none,.none⟩,Nat.zero_le _,noI,noI,fun h=>absurd (show (0:Int)=10 from h) (by decide),fun h=>absurd (show (0:Int)=7∨(0:Int)=8 from h) (by decide)⟩
        ·rw [if_neg hq]
         obtain ⟨hq1,hq2⟩:=hnm.resolve_left hq
         refine J36 x.2.1.1 x.2.1.2.1 x.2.1.2.2.1 x.2.1.2.2.2.1 x.2.1.2.2.2.2.1 x.2.1.2.2.2.2.2.1 [] nm ⟨⟨hl,none,?_⟩,Nat.zero_le _,noI,noI,fun _=>hq2,fun h=>absurd (show x.2.1.1=7∨x.2.1.1=8 from h) (by omega)⟩
         have:∀ s:Sm,GoodS s none→s.k=10→GoodS ⟨s.k,s.o,s.a,s.b,s.c,s.u,[],nm⟩ none:=fun s hs hk=>by
          cases hs with
          | none=>simp at hk
          | ins0 h hk2=>simp only at hk; omega
          | exp _=>exact .exp hq1
         exact this _ hgs h10
     exact l30 0 n 0 [] (by omega) (by omega) (.inl rfl)
    ·rw [if_neg (by simpa using h10)]
     refine J36 _ _ _ _ _ _ _ _ ⟨⟨hl,none,by rw [← he']; exact hgs⟩,Nat.zero_le _,noI,noI,fun h=>absurd h h10,fun h=>?_⟩
     exfalso
     have:∀ s:Sm,GoodS s none→¬ (s.k=7∨s.k=8):=fun s hs=>by
      cases hs with
      | none=>simp
      | ins0 h hk2=>simp only; omega
      | exp _=>simp
     exact this _ hgs h
   | some t0=>
    have he:eL x=t0.post:=(good_elen hgs).2.1
    have ht0:=(good_elen hgs).2.2 t0 rfl
    have he':x.2.1.2.2.2.2.2.2.1=t0.post:=he
    have hk10:x.2.1.1≠10:=good_kind hgs
    have hpos:=t0.post_pos
    have hgood:=post_good t0 ht0.1
    obtain ⟨e1,n1,n2,n3,n4,n5⟩:=named_eq t0.post (by have:=ht0.2.2.2; omega) (fun y hy=>⟨(hgood y hy).1,(hgood y hy).2.1,by have:=good_len (hgood y hy); omega⟩) lb (by omega) (fun y hy=>⟨(hg y hy).1,by have:=(hg y hy).2.1; omega⟩)
    rw [he',if_pos (by omega),n1,Option.bind_some]
    dsimp only
    have hl20:=l20_eq n (Zaa.l14 n m) out lb (i:Int) x.2.1.1 x.2.1.2.1 x.2.1.2.2.1 x.2.1.2.2.2.1 x.2.1.2.2.2.2.1 x.2.1.2.2.2.2.2.1 t0.post x.2.1.2.2.2.2.2.2.2.1 n 0 e1 (by omega) n3 (by omega)
    rw [show ((0:Nat):Int)=0 from rfl,List.take_zero,List.drop_zero,List.nil_append] at hl20
    rw [hl20]
    have q1:∀ y∈e1.map md,goodItem y∧y.2.1 < 50∧(y.1=2→(findR y.2.2.1 lb).isSome=true):=fun y hy=>by
     obtain ⟨z,hz,rfl⟩:=List.mem_map.1 hy
     obtain ⟨g1,g2,g3⟩:=md_needs (n4 z hz)
     exact ⟨⟨g2,by omega,by rw [g1]; exact (n4 z hz).2.2⟩,g3,n5 z hz⟩
    have q2:wellL (e1.map md):=by
     unfold wellL
     rw [enough_congr 0 (b:=e1)]
     ·exact n2
     ·rw [List.map_map]; exact List.map_congr_left fun y hy=>(md_needs (n4 y hy)).1
    have q3:(e1.map md).length≤19:=by rw [List.length_map]; exact n3
    have hlen:(e1.length:Int)=((e1.map md).length:Int):=by rw [List.length_map]
    rw [hlen]
    generalize e1.map md=e2 at q1 q2 q3
    have fin:∀ e,wellL e→e.length≤19→(∀ y∈e,goodItem y∧y.2.1 < 50∧(y.1=2→(findR y.2.2.1 lb).isSome=true))→((x.2.1.1=7∨x.2.1.1=8)→lb≠[]→∃ s,(findR s lb).isSome=true∧e=[(2,0,s,())]) →
      ∃ r:List Ln,Zaa.j26 n (Zaa.l14 n m) out lb (i:Int) e x.2.1.1 x.2.1.2.1 x.2.1.2.2.1 x.2.1.2.2.2.1 x.2.1.2.2.2.2.1 x.2.1.2.2.2.2.2.1 t0.post x.2.1.2.2.2.2.2.2.2.1=some (r,())∧r.map (·.1)=out.map (·.1)∧r.length=out.length∧∀ j,j < r.length→nearX lb (r.getD j zL):=by
     intro e w1 w2 w3 w4
     unfold Zaa.j26 Zaa.j27
     rw [if_neg (by simpa using hk10)]
     obtain ⟨t',rfl,p1,p2⟩:=tree_of w1 fun y hy=>(w3 y hy).1
     exact J36 _ _ _ _ _ _ _ _ ⟨⟨hl,some t',setE hgs ⟨p1,p2,w1,by omega⟩⟩,w2,fun y hy=>(w3 y hy).2.1,fun y hy=>(w3 y hy).2.2,fun h=>absurd h hk10,w4⟩
    have J24:∀ jump:Bool,((x.2.1.1=7∨x.2.1.1=8)→jump=true)→∃ r:List Ln,Zaa.j24 n (Zaa.l14 n m) out lb (i:Int) e2 jump x.2.1.1 x.2.1.2.1 x.2.1.2.2.1 x.2.1.2.2.2.1 x.2.1.2.2.2.2.1 x.2.1.2.2.2.2.2.1 t0.post x.2.1.2.2.2.2.2.2.2.1=some (r,())∧r.map (·.1)=out.map (·.1)∧r.length=out.length∧∀ j,j < r.length→nearX lb (r.getD j zL):=by
     intro jump hj
     unfold Zaa.j24
     simp only [dt]
     by_cases hjt:jump=true
     ·rw [if_pos hjt]
      by_cases hl0:0 < lb.length
      ·have ht:Int.tmod (e2.length:Int) (lb.length:Int)=((e2.length % lb.length:Nat):Int):=by
        rw [Int.tmod_eq_emod_of_nonneg (by omega)]; omega
       have hlt:e2.length % lb.length < lb.length:=Nat.mod_lt _ hl0
       rw [if_pos (by omega),if_neg (by omega),ht,if_pos (by omega),Int.toNat_natCast]
       have hmem:lb.getD (e2.length % lb.length) (([]:Str),((0:Int),()))∈lb:=by
        rw [List.getD_eq_getElem?_getD,List.getElem?_eq_getElem hlt]; exact List.getElem_mem hlt
       generalize lb.getD (e2.length % lb.length) (([]:Str),((0:Int),()))=y at hmem
       have hfy:=findR_isSome hmem rfl
       have hgi:goodItem ((2:Int),0,y.1,()):=⟨Int.le_refl _,(by decide:(0:Int)≤4294967295),by
        unfold needsR; dsimp only; rw [if_neg (by decide),if_pos rfl,(hg y hmem).1]; rfl⟩
       refine fin _ ?_ (by simp) (fun z hz=>?_) (fun _ _=>⟨y.1,hfy,rfl⟩)
       ·show enough 0 [((2:Int),0,y.1,())]=some 1
        have hn:needsR ((2:Int),0,y.1,())=(0,true):=by
         unfold needsR; dsimp only; rw [if_neg (by decide),if_pos rfl,(hg y hmem).1]; rfl
        unfold enough
        rw [hn]; rfl
       ·rw [List.mem_singleton.1 hz]; exact ⟨hgi,(by decide:(0:Int) < 50),fun _=>hfy⟩
      ·rw [if_neg (by omega)]
       exact fin e2 q2 q3 q1 fun _ hne=>absurd (List.length_eq_zero_iff.1 (by omega)) hne
     ·rw [if_neg hjt]
      exact fin e2 q2 q3 q1 fun hk _=>absurd (hj hk) hjt
    rw [Zaa.l20]
    simp only [dt,df]
    rw [if_neg (by omega)]
    by_cases h7:x.2.1.1=7
    ·rw [if_neg (by simpa using h7)]; exact J24 true fun _=>rfl
    ·rw [if_pos h7]
     by_cases h8:x.2.1.1=8
     ·rw [if_neg (by simpa using h8)]; exact J24 true fun _=>rfl
     ·rw [if_pos h8]
      by_cases h9:x.2.1.1=9
      ·rw [if_pos h9]; exact J24 _ fun hk=>by omega
      ·rw [if_neg h9]; exact J24 false fun hk=>by omega
  ·obtain rfl:i=out.length:=by omega
   rw [if_neg (by omega)]
   exact ⟨out,rfl,rfl,rfl,hnear⟩
structure Near (w:List Ln):Prop where
 len:w.length≤20
 nd:(lnLabs w).Nodup
 ln:∃ lb:List Sym,lb.map (·.1)=lnLabs w∧∀ x∈w,nearX lb x
theorem fit20 (a:List Ln) (ha:∀ x∈a,okLn x):∃ w,Zaa.g a=some (w,())∧Near w:=by
 unfold Zaa.g Zaa.f
 obtain ⟨out,lb,h1,h2,h3,h4,h5,h6⟩:=f20_a a ha (1000+a.length) (1000+a.length) 0 [] [] (by omega) (by omega) (by omega) rfl (by simp) rfl (by simp [lnLabs]) (fun x hx=>by cases hx)
 have hlb:∀ x∈lb,okLb x.1:=fun x hx=>by
  have hm:x.1∈lnLabs out:=by rw [← h4]; exact List.mem_map_of_mem hx
  unfold lnLabs at hm
  rw [List.mem_filter] at hm
  obtain ⟨hm,hne⟩:=hm
  obtain ⟨y,hy,hxy⟩:=List.mem_map.1 hm
  rw [← hxy] at hne ⊢
  exact (h6 y hy).1.resolve_left (by simpa using hne)
 obtain ⟨r,g1,g2,g3,g4⟩:=f20_b lb h3 hlb (1000+a.length) (by omega) (1000+a.length) 0 out (by omega) h2 (by omega) h6 (fun j hj=>by omega)
 refine ⟨r,h1.trans g1,by omega,by rw [lnLabs_map g2]; exact h5,lb,by rw [lnLabs_map g2]; exact h4,fun x hx=>?_⟩
 obtain ⟨j,hj,rfl⟩:=List.getElem_of_mem hx
 have:=g4 j hj
 rw [List.getD_eq_getElem?_getD,List.getElem?_eq_getElem hj] at this
 exact this
end Rv
namespace Rv
open Go
def atsR:List Ln→Nat→List Int
 | [],_=>[]
 | x::l,c=>((4 * c:Nat):Int)::atsR l (c+sizeN x)
def lbsR:List Ln→Nat→List Sym
 | [],_=>[]
 | x::l,c=>if x.1=[] then lbsR l (c+sizeN x) else (x.1,((4 * c:Nat):Int),())::lbsR l (c+sizeN x)
theorem placeR_form:∀ (l:List Ln) (i:Nat) (t:List Int) (lb:List Sym) (c:Nat) {r},placeR l i t lb c=.ok r→r=(t++atsR l c,lb++lbsR l c,c+(l.map sizeN).sum)
 | [],_,t,lb,c,r,h=>by
  rw [placeR] at h; cases h
  simp [atsR,lbsR]
 | x::l,i,t,lb,c,r,h=>by
  rw [placeR] at h
  split at h
  ·rename_i hx
   rw [placeR_form l _ _ _ _ h,atsR,lbsR,if_pos hx,List.append_assoc,List.map_cons,List.sum_cons,Nat.add_assoc]; rfl
  ·split at h
   ·cases h
   ·rename_i hx _
    rw [placeR_form l _ _ _ _ h,atsR,lbsR,if_neg hx,List.append_assoc,List.append_assoc,List.map_cons,List.sum_cons,Nat.add_assoc]; rfl
theorem lbs_names:∀ (l:List Ln) (c:Nat),(lbsR l c).map (·.1)=lnLabs l
 | [],_=>rfl
 | x::l,c=>by
  rw [lbsR,show x::l=[x]++l from rfl,lnLabs_app]
  split
  ·rename_i h; rw [lnLabs_none h,List.nil_append]; exact lbs_names l _
  ·rename_i h; rw [lnLabs_one h,List.map_cons,lbs_names l]; rfl
theorem lbs_app:∀ (a b:List Ln) (c:Nat),lbsR (a++b) c=lbsR a c++lbsR b (c+(a.map sizeN).sum)
 | [],b,c=>by simp [lbsR]
 | x::a,b,c=>by
  rw [List.cons_append,lbsR,lbsR,List.map_cons,List.sum_cons,← Nat.add_assoc]
  split
  ·exact lbs_app a b _
  ·rw [lbs_app a b,List.cons_append]
theorem findR_app (s:Str):∀ (a b:List Sym),findR s (a++b)=match findR s a with | some k=>some k | none=>findR s b
 | [],b=>rfl
 | x::a,b=>by
  rw [List.cons_append,findR,findR]
  split
  ·rfl
  ·exact findR_app s a b
theorem findR_out {s:Str}:∀ {l:List Sym},s ∉ l.map (·.1)→findR s l=none
 | [],_=>rfl
 | x::l,h=>by
  simp only [List.map_cons,List.mem_cons,not_or] at h
  rw [findR,if_neg (fun e=>h.1 e.symm)]
  exact findR_out h.2
theorem lnLabs_sub {a b:List Ln} (h:a.Sublist b):(lnLabs a).Sublist (lnLabs b):=(h.map _).filter _
end Rv
namespace Rv
open Go
def linesW (lb:List Sym) (q:List Val) (fr wd:Int) (t:List Int):List Ln→Nat→WrT→Except (Nat×Int) WrT
 | [],_,r=>.ok r
 | x::l,i,r=>match lineA lb q fr wd x.2.1 (t.getD i 0) r with
  | .error e=>.error (i+1,e)
  | .ok r'=>linesW lb q fr wd t l (i+1) r'
def poolW:List Val→WrT→WrT
 | [],r=>r
 | v::l,r=>poolW l (putW r v.1 (decide (v.2.1=1)))
abbrev ObjT:=List Int×List Int×List Sym×Int×Int×Unit
def noObj (i:Int) (e:Int):ObjT:=([],[],[],i,e,())
def endW (r:WrT):ObjT:=if 64 < r.2.2.length then noObj 0 2 else (r.1,r.2.1,r.2.2,0,0,())
def objP (p:PlanT) (l:List Ln):ObjT:=
 if p.2.2.2.2.2.2.1≠0 then noObj p.2.2.2.2.2.1 p.2.2.2.2.2.2.1
 else match linesW p.2.1 p.2.2.1 p.2.2.2.1 p.2.2.2.2.1 p.1 l 0 ([],[],[]) with
  | .error x=>noObj (x.1:Int) x.2
  | .ok r=>endW (poolW p.2.2.1 r)
def asmR (l:List Ln):ObjT:=objP (planR l) l
theorem encE_err {k o a b c:Int} {v:Int×Int×Unit} {u:Bool} {x:Int} (h:encE k o a b c v u=.error x):x≠0:=by
 unfold encE at h
 split at h
 ·rename_i h1; cases h; exact h1
 ·exact enc_err _ _ _ _ _ _ _ h
theorem word_err {lb:List Sym} {q:List Val} {fr wd:Int} {s:Snt} {pl x:Int} (h:wordR lb q fr wd s pl=.error x):x≠0:=by
 unfold wordR at h
 repeat' split at h
 all_goals first
  | exact encE_err h
  | exact enc_err _ _ _ _ _ _ _ h
  | (cases h; assumption)
  | cases h
structure WOk (r:WrT) (i:Nat):Prop where
 w:r.1.length≤i
 s:r.2.1.length≤i
 y:r.2.2.length≤i
 o:sortedS r.2.2
theorem putW_ok {r:WrT} {i:Nat} (h:WOk r i) (v:Int) (b:Bool):WOk (putW r v b) (i+1):=by
 refine ⟨by have:=h.w; simp [putW]; omega,?_,by have:=h.y; show r.2.2.length≤_; omega,h.o⟩
 have:=h.s
 unfold putW
 dsimp only
 split
 ·simp; omega
 ·omega
theorem export_ok {lb:List Sym} {nm:Str} {y y':List Sym} (h:exportR lb nm y=.ok y'):nameOk nm=true∧(findR nm lb).isSome=true∧isSy y nm=false∧y'=insS y (nm,(findR nm lb).getD 0,()):=by
 unfold exportR at h
 split at h
 ·cases h
 ·split at h
  ·cases h
  ·split at h
   ·cases h
   ·rename_i h1 h2 h3
    cases h
    exact ⟨by simpa using h1,(Bool.not_eq_false _).mp h2,by simpa using h3,rfl⟩
theorem line_ok {lb:List Sym} {q:List Val} {fr wd:Int} {s:Snt} {pl:Int} {r r':WrT} {i:Nat} (hr:WOk r i) (h:lineA lb q fr wd s pl r=.ok r'):WOk r' (i+1):=by
 unfold lineA at h
 split at h
 ·cases h
  exact ⟨by have:=hr.w; omega,by have:=hr.s; omega,by have:=hr.y; omega,hr.o⟩
 ·split at h
  ·split at h
   ·cases h
   ·rename_i y hy
    cases h
    obtain ⟨_,_,h3,rfl⟩:=export_ok hy
    exact ⟨by have:=hr.w; show r.1.length≤_; omega,by have:=hr.s; show r.2.1.length≤_; omega,by have:=hr.y; show (insS _ _).length≤_; rw [ins_len]; omega,ins_sorted hr.o h3⟩
  ·split at h
   ·cases h
   ·cases h
    exact putW_ok hr _ _
theorem line_err {lb:List Sym} {q:List Val} {fr wd:Int} {s:Snt} {pl x:Int} {r:WrT} (h:lineA lb q fr wd s pl r=.error x):x≠0:=by
 unfold lineA at h
 split at h
 ·cases h
 ·split at h
  ·split at h
   ·rename_i e he
    cases h
    unfold exportR at he
    split at he
    ·cases he; decide
    ·split at he
     ·cases he; decide
     ·split at he
      ·cases he; decide
      ·cases he
   ·cases h
  ·split at h
   ·rename_i e he
    cases h
    exact word_err he
   ·cases h
section
variable (t:List Int) (lb:List Sym) (q:List Val) (fr wd:Int)
abbrev zV:Val:=((0:Int),((0:Int),()))
theorem drop_v {q:List Val} {i:Nat} (h:i < q.length):q.drop i=q.getD i zV::q.drop (i+1):=by
 rw [List.drop_eq_getElem_cons h,List.getD_eq_getElem?_getD,List.getElem?_eq_getElem h]; rfl
theorem al14 (hq:q.length≤1000000) (n:Nat) (d e:List Int) (y:List Sym):∀ (m i j:Nat) (r:WrT),i≤q.length→q.length - i < m→WOk r j→j+q.length≤1000000+i →
  Zar.l14 n m q (q.length:Int) (i:Int) d e y t lb q fr wd r.1 r.2.1 r.2.2=some (endW (poolW (q.drop i) r)):=by
 intro m
 induction m with
 | zero=>intro i _ _ _ h; omega
 | succ m ih=>
  intro i j r hi hm hr hj
  rw [Zar.l14]
  simp only [dt,Int.toNat_natCast]
  by_cases h:i < q.length
  ·have h1:=hr.w
   have h2:=hr.s
   rw [if_pos (by omega),if_pos (by omega),drop_v h,poolW,aword_eq t lb q fr wd r (by omega) (by omega),Option.bind_some]
   dsimp only
   rw [w64 (by omega),show (i:Int)+1=((i+1:Nat):Int) by omega]
   exact ih (i+1) (j+1) _ (by omega) (by omega) (putW_ok hr _ _) (by omega)
  ·obtain rfl:i=q.length:=by omega
   rw [if_neg (by omega),List.drop_length,poolW]
   unfold endW noObj
   by_cases h6:64 < r.2.2.length
   ·rw [if_pos (by omega),if_pos h6]
   ·rw [if_neg (by omega),if_neg h6]
theorem al7 (l:List Ln) (hl:l.length≤1000) (he:∀ x∈l,(eL x).length≤4611686018427387904) (ht:t.length=l.length) (hlb:lb.length≤1000000) (hq:q.length≤1000) (n:Nat) (hn2:q.length < n) (d e:List Int) (y:List Sym) :
  ∀ (m i:Nat) (r:WrT),i≤l.length→l.length - i < m→WOk r i →
  Zar.l7 n m l (l.length:Int) (i:Int) d e y t lb q fr wd t lb q fr wd r.1 r.2.1 r.2.2=some (match linesW lb q fr wd t (l.drop i) i r with | .error x=>noObj (x.1:Int) x.2 | .ok r=>endW (poolW q r)):=by
 intro m
 induction m with
 | zero=>intro i _ _ h; omega
 | succ m ih=>
  intro i r hi hm hr
  rw [Zar.l7]
  simp only [dt,Int.toNat_natCast]
  by_cases h:i < l.length
  ·have h1:=hr.w
   have h2:=hr.s
   have h3:=hr.y
   rw [if_pos (by omega),if_pos (by omega),if_pos (by omega),drop_ln h,linesW]
   have hx:=he _ (getD_ln h)
   generalize l.getD i zL=x at hx ⊢
   rw [aline_eq t lb q fr wd r (by omega) (by omega) hr.o (by omega) hlb (by omega) x.2.1 hx,Option.bind_some]
   cases hA:lineA lb q fr wd x.2.1 (t.getD i 0) r with
   | error e=>
    refine (if_pos (show (outW t lb q fr wd r (Except.error e)).1≠0 from line_err hA)).trans ?_
    rw [w64 (by omega),show (i:Int)+1=((i+1:Nat):Int) by omega]
    rfl
   | ok r'=>
    refine (if_neg (show ¬ ((outW t lb q fr wd r (Except.ok r')).1≠0) from fun h=>h rfl)).trans ?_
    rw [w64 (by omega),show (i:Int)+1=((i+1:Nat):Int) by omega]
    exact ih (i+1) r' (by omega) (by omega) (line_ok hr hA)
  ·obtain rfl:i=l.length:=by omega
   rw [if_neg (by omega),List.drop_length,linesW]
   have:=al14 t lb q fr wd (by omega) n d e y n 0 l.length r (by omega) (by omega) hr (by omega)
   rw [List.drop_zero] at this
   exact this
end
theorem plan_stands (l:List Ln) (h:(planR l).2.2.2.2.2.2.1=0):(planR l).1.length=l.length∧(planR l).2.1.length≤l.length∧(planR l).2.2.1.length≤l.length ∧
  ∃ r p,placeR l 0 [] [] 0=.ok r∧loadR r.2.1 l 0 []=.ok p∧r.2.2+p.length≤1024∧planR l=(r.1,r.2.1,p,((4 * r.2.2:Nat):Int),((r.2.2+p.length:Nat):Int),0,0,()):=by
 rcases planR_ways l with ⟨x,hx,h0,_⟩ | ⟨r,p,h1,h2,h3⟩
 ·rw [hx] at h; exact absurd h h0
 ·have a:=placeR_len l 0 [] [] 0 h1
  have b:=loadR_len r.2.1 l 0 [] h2
  unfold plEnd at h3
  dsimp only at h3
  by_cases hc:1024 < r.2.2+p.length
  ·rw [if_pos hc] at h3; rw [h3] at h; exact absurd h (by decide)
  ·rw [if_neg hc] at h3
   rw [h3]
   simp only [List.length_nil,Nat.zero_add] at a b
   exact ⟨a.1,a.2.1,b,r,p,h1,h2,by omega,rfl⟩
theorem asm_eq (l:List Ln) (hl:l.length≤1000) (he:∀ x∈l,(eL x).length≤4611686018427387904):Zar.g l=some (asmR l):=by
 unfold Zar.g
 generalize hn:1000+l.length=n
 unfold Zar.f asmR objP
 rw [plan_eq l (by omega) he,Option.bind_some]
 simp only [dt]
 by_cases h:(planR l).2.2.2.2.2.2.1=0
 ·obtain ⟨h1,h2,h3,_⟩:=plan_stands l h
  rw [if_neg (by simpa using h),if_neg (by simpa using h)]
  have:=al7 (planR l).1 (planR l).2.1 (planR l).2.2.1 (planR l).2.2.2.1 (planR l).2.2.2.2.1 l hl he h1 (by omega) (by omega) n (by omega) [] [] [] n 0 ([],[],[]) (by omega) (by omega) ⟨Nat.le_refl _,Nat.le_refl _,Nat.le_refl _,List.Pairwise.nil⟩
  rw [List.drop_zero] at this
  exact this
 ·rw [if_pos (by simpa using h),if_pos (by simpa using h)]; rfl
end Rv
namespace Rv
open Go
theorem encX_ok {k o a b c i:Int} {u:Bool} {w:Int×Bool} (h:encX k o a b c i u=.ok w):w=((encV k o a b c i u).1,false)∧(encV k o a b c i u).2.1=0:=by
 unfold encX at h
 split at h
 ·rename_i h0; cases h; exact ⟨rfl,h0⟩
 ·cases h
theorem encE_ok {k o a b c:Int} {v:Int×Int×Unit} {u:Bool} {w:Int×Bool} (h:encE k o a b c v u=.ok w):v.2.1=0∧w=((encV k o a b c v.1 u).1,false)∧(encV k o a b c v.1 u).2.1=0:=by
 unfold encE at h
 split at h
 ·cases h
 ·rename_i h0
  exact ⟨by simpa using h0,encX_ok h⟩
section
variable (lb:List Sym) (q:List Val) (fr wd:Int) (t:List Int)
end
end Rv
namespace Rv
open Go
theorem find_ext {s:Str} {v:Int} {lb:List Sym} (ext:List Sym) (h:findR s lb=some v):findR s (lb++ext)=some v:=by
 rw [findR_app,h]
theorem step_ext {lb:List Sym} (ext:List Sym) {x:Item} {st st':List Val} (h:stepR lb st x=.ok st'):stepR (lb++ext) st x=.ok st':=by
 by_cases hk:x.1=2
 ·have hf:(findR x.2.2.1 lb).isSome=true:=by
   cases hq:findR x.2.2.1 lb with
   | some v=>rfl
   | none=>
    exfalso
    obtain ⟨k,n,s,u⟩:=x
    dsimp only at hk hq
    subst hk
    simp [stepR,hq] at h
  obtain ⟨v,hv⟩:=Option.isSome_iff_exists.1 hf
  rw [step_congr (l2:=lb) (fun _=>by rw [find_ext ext hv,hv])]
  exact h
 ·rw [step_congr (l2:=lb) (fun g=>absurd g hk)]
  exact h
theorem run_ext {lb:List Sym} (ext:List Sym):∀ {e:List Item} {st st':List Val},runR lb st e=.ok st'→runR (lb++ext) st e=.ok st'
 | [],_,_,h=>h
 | x::e,st,st',h=>by
  rw [runR] at h ⊢
  cases hs:stepR lb st x with
  | error k=>rw [hs] at h; cases h
  | ok s1=>
   rw [hs] at h
   rw [step_ext ext hs]
   exact run_ext ext h
theorem vOf_ext {lb:List Sym} (ext:List Sym) {e:List Item} (hg:∀ y∈e,0≤y.2.1∧y.2.1≤4294967295) (h:(vOf lb e).2.2.1=0):vOf (lb++ext) e=vOf lb e:=by
 rcases vOf_cases lb hg with ⟨z,h0,hz⟩ | ⟨v,_,hz,hr⟩
 ·rw [hz] at h; exact absurd h h0
 ·rcases vOf_cases (lb++ext) hg with ⟨z,h0,hz'⟩ | ⟨v',_,hz',hr'⟩
  ·exfalso
   have:=run_ext ext hr
   unfold vOf ofR at hz hz'
   by_cases hw:well e=true
   ·rw [if_pos hw,this] at hz'
    have hz2:=congrArg (fun p:Int×Int×Int×Unit=>p.2.2.1) hz'
    have hz2:(0:Int)=z:=hz2
    exact h0 hz2.symm
   ·rw [if_neg hw] at hz
    simp at hz
  ·have:=run_ext ext hr
   rw [this] at hr'
   cases hr'
   rw [hz,hz']
theorem adr_more {v ad wd wd':Int} (h0:0≤wd) (h1:wd≤wd') (h2:wd'≤100000) (h:adrV v ad wd=0):adrV v ad wd'=0:=by
 unfold adrV at h ⊢
 split at h
 ·exact absurd h (by decide)
 ·rename_i g
  rw [if_neg g]
  split at h
  ·exact absurd h (by decide)
  ·rename_i g2
   rw [w64 (by omega)] at g2
   rw [w64 (by omega),if_neg (fun g3=>g2 ⟨g3.1,by omega⟩)]
theorem load_more {a i j:Int} (h:(encV 5 0 a 13 0 i false).2.1=0) (hj:-524288≤j∧j≤524287):(encV 5 0 a 13 0 j false).2.1=0:=by
 unfold encV at h ⊢
 split at h
 ·rename_i g
  rw [if_pos ⟨g.1,.inr (.inl ⟨rfl,hj⟩),g.2.2⟩]
 ·exact absurd h (by decide)
theorem word_ext {lb:List Sym} (ext:List Sym) {q:List Val} {fr fr' wd wd':Int} {s:Snt} {pl:Int} {w:Int×Bool} (hg:∀ y∈s.2.2.2.2.2.2.1,0≤y.2.1∧y.2.1≤4294967295) (h0:0≤wd) (h1:wd≤wd') (h2:wd'≤100000) (hq:q.length≤1100) (hf:0≤fr'∧fr'≤100000)
  (h:wordR lb q fr wd s pl=.ok w):∃ w',wordR (lb++ext) q fr' wd' s pl=.ok w':=by
 have E:∀ {k o a b c:Int} {v:Int×Int×Unit} {u:Bool} {w:Int×Bool},encE k o a b c v u=.ok w→v.2.1=0:=fun h=>(encE_ok h).1
 have hnum:∀ low high,(numV lb s.2.2.2.2.2.2.1 low high).2.1=0→numV (lb++ext) s.2.2.2.2.2.2.1 low high=numV lb s.2.2.2.2.2.2.1 low high:=fun low high hn=>by
  unfold numV at hn ⊢
  by_cases hz:(vOf lb s.2.2.2.2.2.2.1).2.2.1=0
  ·rw [vOf_ext ext hg hz]
  ·rw [if_pos (by simpa using hz)] at hn; exact absurd hn hz
 unfold wordR at h ⊢
 by_cases k2:s.1=2
 ·rw [if_pos k2] at h ⊢
  rw [hnum _ _ (E h)]; exact ⟨_,h⟩
 rw [if_neg k2] at h ⊢
 by_cases k5:s.1=5
 ·rw [if_pos k5] at h ⊢
  rw [hnum _ _ (E h)]; exact ⟨_,h⟩
 rw [if_neg k5] at h ⊢
 by_cases k7:s.1=7
 ·rw [if_pos k7] at h ⊢
  by_cases hz:(vOf lb s.2.2.2.2.2.2.1).2.2.1=0
  ·rw [vOf_ext ext hg hz]; exact ⟨_,h⟩
  ·rw [if_pos (by simpa using hz)] at h; cases h
 rw [if_neg k7] at h ⊢
 by_cases k8:s.1=8
 ·rw [if_pos k8] at h ⊢
  by_cases hz:(vOf lb s.2.2.2.2.2.2.1).2.2.1=0
  ·rw [vOf_ext ext hg hz]
   rw [if_neg (by simpa using hz)] at h ⊢
   obtain ⟨g1,_,g3⟩:=encE_ok h
   have g1:adrV (vOf lb s.2.2.2.2.2.2.1).1 (vOf lb s.2.2.2.2.2.2.1).2.1 wd=0:=g1
   have hp:∀ (q:List Val) (v:Val),posR v q≤q.length:=by
    intro q v
    induction q with
    | nil=>simp [posR]
    | cons x q ih=>unfold posR; split; omega; simpa using ih
   have hp:=hp q ((vOf lb s.2.2.2.2.2.2.1).1,(vOf lb s.2.2.2.2.2.2.1).2.1,())
   generalize posR ((vOf lb s.2.2.2.2.2.2.1).1,(vOf lb s.2.2.2.2.2.2.1).2.1,()) q=k at *
   have hi:-524288≤IntKind.i64.wrap (fr'+IntKind.i64.wrap (4 * (k:Int)))∧IntKind.i64.wrap (fr'+IntKind.i64.wrap (4 * (k:Int)))≤524287:=by
    rw [w64 (x:=4 * (k:Int)) (by omega),w64 (by omega)]; omega
   have hb:=load_more g3 hi
   rw [adr_more h0 h1 h2 g1]
   unfold encE encX
   dsimp only
   rw [if_neg (by decide),if_pos hb]
   exact ⟨_,rfl⟩
  ·rw [if_pos (by simpa using hz)] at h; cases h
 rw [if_neg k8] at h ⊢
 by_cases k9:s.1=9
 ·rw [if_pos k9] at h ⊢
  by_cases hz:(vOf lb s.2.2.2.2.2.2.1).2.2.1=0
  ·rw [vOf_ext ext hg hz]
   rw [if_neg (by simpa using hz)] at h ⊢
   split at h
   ·cases h
   ·rename_i ha
    rw [adr_more h0 h1 h2 (by simpa using ha),if_neg (by decide)]
    exact ⟨_,rfl⟩
  ·rw [if_pos (by simpa using hz)] at h; cases h
 rw [if_neg k9] at h ⊢
 exact ⟨_,h⟩
theorem lines_ext {lb:List Sym} (ext:List Sym) {q:List Val} {fr fr' wd wd':Int} (t t':List Int) (h0:0≤wd) (h1:wd≤wd') (h2:wd'≤100000) (hq:q.length≤1100) (hf:0≤fr'∧fr'≤100000):∀ (l:List Ln) (i:Nat) (r r' s:WrT),
  (∀ x∈l,∀ y∈eL x,0≤y.2.1∧y.2.1≤4294967295)→(∀ x∈l,x.2.1.1≠10)→(∀ j,i≤j→j < i+l.length→t'.getD j 0=t.getD j 0)→linesW lb q fr wd t l i r=.ok r'→∃ s',linesW (lb++ext) q fr' wd' t' l i s=.ok s'∧s'.2.2=s.2.2
 | [],i,r,r',s,_,_,_,_=>⟨s,rfl,rfl⟩
 | x::l,i,r,r',s,hg,hx,ht,h=>by
  rw [linesW] at h
  split at h
  ·cases h
  ·rename_i r1 hA
   have rec_:∀ s1:WrT,s1.2.2=s.2.2→∃ s',linesW (lb++ext) q fr' wd' t' l (i+1) s1=.ok s'∧s'.2.2=s.2.2:=fun s1 hs1=>by
    obtain ⟨s',a,b⟩:=lines_ext ext t t' h0 h1 h2 hq hf l (i+1) r1 r' s1 (fun y hy=>hg y (List.mem_cons_of_mem _ hy)) (fun y hy=>hx y (List.mem_cons_of_mem _ hy)) (fun j hj1 hj2=>ht j (by omega) (by simp; omega)) h
    exact ⟨s',a,b.trans hs1⟩
   rw [linesW]
   unfold lineA at hA ⊢
   by_cases k0:x.2.1.1=0
   ·rw [if_pos k0]; exact rec_ s rfl
   rw [if_neg k0,if_neg (hx x (List.mem_cons_self ..))] at hA ⊢
   rw [ht i (Nat.le_refl _) (by simp)]
   split at hA
   ·cases hA
   ·rename_i w hW
    obtain ⟨w',hW'⟩:=word_ext ext (hg x (List.mem_cons_self ..)) h0 h1 h2 hq hf hW
    rw [hW']
    exact rec_ (putW s w'.1 w'.2) rfl
end Rv
namespace Rv
open Go
theorem load_ext {lb:List Sym} (ext:List Sym):∀ (l:List Ln) (i:Nat) (p0:List Val) {p},(∀ x∈l,∀ y∈eL x,0≤y.2.1∧y.2.1≤4294967295)→loadR lb l i p0=.ok p→loadR (lb++ext) l i p0=.ok p
 | [],_,p0,p,_,h=>h
 | x::l,i,p0,p,hg,h=>by
  rw [loadR] at h ⊢
  by_cases k8:x.2.1.1=8
  ·rw [if_pos k8] at h ⊢
   by_cases hz:(vOf lb (eL x)).2.2.1=0
   ·rw [show vOf (lb++ext) x.2.1.2.2.2.2.2.2.1=vOf lb x.2.1.2.2.2.2.2.2.1 from vOf_ext ext (hg x (List.mem_cons_self ..)) hz]
    rw [if_neg (by simpa using hz)] at h ⊢
    split at h
    ·cases h
    ·rename_i g
     rw [if_neg g]
     exact load_ext ext l (i+1) _ (fun y hy=>hg y (List.mem_cons_of_mem _ hy)) h
   ·rw [if_pos (by simpa using hz)] at h; cases h
  ·rw [if_neg k8] at h ⊢
   exact load_ext ext l (i+1) _ (fun y hy=>hg y (List.mem_cons_of_mem _ hy)) h
theorem plan_two (w:List Ln) (hl:w.length≤20) (hg:∀ x∈w,∀ y∈eL x,0≤y.2.1∧y.2.1≤4294967295) (h:(planR w).2.2.2.2.2.2.1=0) {zz:Str} (hne:zz≠[]) (hz:zz ∉ lnLabs w) (A B:Snt) (hA:A.1=10) (hB:B.1≠8) :
  ∃ (t:List Int) (lb:List Sym) (p:List Val) (c k:Nat),t.length=w.length∧lb.map (·.1)=lnLabs w∧p.length≤20∧c≤20∧k≤1 ∧
   planR w=(t,lb,p,((4 * c:Nat):Int),((c+p.length:Nat):Int),0,0,()) ∧
   planR (w++[(zz,A,()),([],B,())])=(t++[((4 * c:Nat):Int),((4 * c:Nat):Int)],lb++[(zz,((4 * c:Nat):Int),())],p,((4 * (c+k):Nat):Int),((c+k+p.length:Nat):Int),0,0,()):=by
 obtain ⟨p1,p2,p3,r,p,g1,g2,g3,g4⟩:=plan_stands w h
 have hform:=placeR_form w 0 [] [] 0 g1
 rw [List.nil_append,List.nil_append] at hform
 have hlb:r.2.1.map (·.1)=lnLabs w:=by rw [hform]; exact lbs_names w 0
 have hlen:=placeR_len w 0 [] [] 0 g1
 simp only [List.length_nil,Nat.zero_add] at hlen
 have hpl:p.length≤20:=by
  have:=loadR_len r.2.1 w 0 [] g2
  simp at this; omega
 have hfn:findR zz r.2.1=none:=findR_out (by rw [hlb]; exact hz)
 have hA0:sizeN (zz,A,())=0:=by unfold sizeN; rw [if_pos (.inr hA)]
 have hB1:=sizeN_le ([],B,())
 have hplace:placeR (w++[(zz,A,()),([],B,())]) 0 [] [] 0=.ok (r.1++[((4 * r.2.2:Nat):Int),((4 * r.2.2:Nat):Int)],r.2.1++[(zz,((4 * r.2.2:Nat):Int),())],r.2.2+sizeN ([],B,())):=by
  rw [placeR_app,g1]
  dsimp only
  rw [placeR,if_neg hne,hfn,if_neg (by decide),hA0,placeR,if_pos rfl,placeR,List.append_assoc]
  rfl
 have hload:loadR (r.2.1++[(zz,((4 * r.2.2:Nat):Int),())]) (w++[(zz,A,()),([],B,())]) 0 []=.ok p:=by
  rw [loadR_app,load_ext _ w 0 [] hg g2]
  dsimp only
  rw [loadR,if_neg (show ¬ A.1=8 by omega),loadR,if_neg hB,loadR]
 refine ⟨r.1,r.2.1,p,r.2.2,sizeN ([],B,()),hlen.1,hlb,hpl,by omega,hB1,g4,?_⟩
 unfold planR plFin
 rw [hplace]
 dsimp only
 rw [hload]
 unfold plEnd
 dsimp only
 rw [if_neg (by omega)]
end Rv
namespace Rv
open Go
theorem linesW_app {lb:List Sym} {q:List Val} {fr wd:Int} {t:List Int}:∀ (a b:List Ln) (i:Nat) (r:WrT),linesW lb q fr wd t (a++b) i r=match linesW lb q fr wd t a i r with
  | .error x=>.error x
  | .ok r'=>linesW lb q fr wd t b (i+a.length) r'
 | [],b,i,r=>rfl
 | x::a,b,i,r=>by
  have hi:i+(x::a).length=i+1+a.length:=by simp; omega
  rw [List.cons_append,linesW,linesW,hi]
  split
  ·rfl
  ·exact linesW_app a b _ _
theorem refused (w:List Ln) (hl:w.length≤20) (hg:∀ x∈w,∀ y∈eL x,0≤y.2.1∧y.2.1≤4294967295) (hx:∀ x∈w,x.2.1.1≠10) (h:(asmR w).2.2.2.2.1=0) {zz:Str} (hn:nameOk zz=true) (hne:zz≠[]) (hz:zz ∉ lnLabs w) (B:Snt) (hB:B.1≠8) (e:Int)
  (he:∀ (lb:List Sym) (q:List Val) (fr wd pl:Int) (c:Nat) (r:WrT),lb.map (·.1)=lnLabs w→c≤20→r.2.2=[(zz,((4 * c:Nat):Int),())]→lineA (lb++[(zz,((4 * c:Nat):Int),())]) q fr wd B pl r=.error e) :
  asmR (w++[(zz,(10,0,0,0,0,false,[],zz,()),()),([],B,())])=noObj ((w.length+2:Nat):Int) e:=by
 have hw:(planR w).2.2.2.2.2.2.1=0∧∃ r,linesW (planR w).2.1 (planR w).2.2.1 (planR w).2.2.2.1 (planR w).2.2.2.2.1 (planR w).1 w 0 ([],[],[])=.ok r:=by
  unfold asmR objP at h
  by_cases hp:(planR w).2.2.2.2.2.2.1=0
  ·refine ⟨hp,?_⟩
   rw [if_neg (by simpa using hp)] at h
   cases hL:linesW (planR w).2.1 (planR w).2.2.1 (planR w).2.2.2.1 (planR w).2.2.2.2.1 (planR w).1 w 0 ([],[],[]) with
   | ok r=>exact ⟨r,rfl⟩
   | error x=>
    exfalso
    rw [hL] at h
    have key:∀ (l:List Ln) (i:Nat) (r:WrT),linesW (planR w).2.1 (planR w).2.2.1 (planR w).2.2.2.1 (planR w).2.2.2.2.1 (planR w).1 l i r=.error x→x.2≠0:=by
     intro l
     induction l with
     | nil=>intro i r h; cases h
     | cons y l ih=>
      intro i r h
      rw [linesW] at h
      split at h
      ·rename_i e he; cases h; exact line_err he
      ·exact ih _ _ h
    exact key w 0 _ hL h
  ·rw [if_pos (by simpa using hp)] at h; exact absurd h hp
 obtain ⟨hp,r,hr⟩:=hw
 obtain ⟨t,lb,p,c,k,e1,e2,e3,e4,e5,e6,e7⟩:=plan_two w hl hg hp hne hz (10,0,0,0,0,false,[],zz,()) B rfl hB
 rw [e6] at hr
 dsimp only at hr
 obtain ⟨s,hs,hs2⟩:=lines_ext [(zz,((4 * c:Nat):Int),())] (fr':=((4 * (c+k):Nat):Int)) (wd':=((c+k+p.length:Nat):Int)) t (t++[((4 * c:Nat):Int),((4 * c:Nat):Int)]) (by omega) (by omega) (by omega) (by omega) ⟨by omega,by omega⟩ w 0 ([],[],[]) r ([],[],[]) hg hx (fun j _ hj=>by
  rw [List.getD_eq_getElem?_getD,List.getD_eq_getElem?_getD,List.getElem?_append_left (by omega)]) hr
 have hfn:findR zz lb=none:=findR_out (by rw [e2]; exact hz)
 have hfz:findR zz (lb++[(zz,((4 * c:Nat):Int),())])=some ((4 * c:Nat):Int):=by
  rw [findR_app,hfn]
  dsimp only
  rw [findR,if_pos rfl]
 have hs2:s.2.2=[]:=hs2
 have hA:∀ pl,lineA (lb++[(zz,((4 * c:Nat):Int),())]) p ((4 * (c+k):Nat):Int) ((c+k+p.length:Nat):Int) (10,0,0,0,0,false,[],zz,()) pl s=.ok (s.1,s.2.1,[(zz,((4 * c:Nat):Int),())]):=fun pl=>by
  unfold lineA exportR
  dsimp only
  rw [if_neg (by decide),if_pos rfl,hs2,hn,hfz]
  rfl
 unfold asmR objP
 rw [e7]
 dsimp only
 rw [if_neg (by decide),linesW_app,hs]
 dsimp only
 rw [linesW,hA]
 dsimp only
 rw [linesW,he lb p _ _ _ c _ e2 e4 rfl]
 dsimp only
 rw [Nat.zero_add]
end Rv
namespace Rv
open Go
abbrev zzz:Str:=[122,122,95,122,122]
abbrev zno:Str:=[122,122,95,110,111]
abbrev znum:List Item:=[((1:Int),65536,([]:Str),())]
abbrev znam:List Item:=[((2:Int),0,zzz,())]
abbrev zgon:List Item:=[((2:Int),0,zno,())]
abbrev zneg:List Item:=[((2:Int),0,zzz,()),((3:Int),0,([]:Str),())]
section
variable {lb:List Sym} {v:Int}
theorem v_nam (h:findR zzz lb=some v):(vOf lb znam).2.1=1∧(vOf lb znam).2.2.1=0:=by
 unfold vOf ofR
 rw [if_pos (by decide)]
 simp [runR,stepR,h,lastV]
theorem v_neg (h:findR zzz lb=some v):(vOf lb zneg).2.1=-1∧(vOf lb zneg).2.2.1=0:=by
 unfold vOf ofR
 rw [if_pos (by decide)]
 simp [runR,stepR,h,lastV]
 decide
theorem v_gon (h:findR zno lb=none):(vOf lb zgon).2.2.1=25:=by
 unfold vOf ofR
 rw [if_pos (by decide)]
 simp [runR,stepR,h]
end
def oddS:Nat→Snt
 | 0=>(2,8,0,0,0,false,znum,[],())
 | 1=>(7,0,0,0,0,false,znum,[],())
 | 2=>(2,0,0,0,0,false,znam,[],())
 | 3=>(5,0,0,0,0,false,zgon,[],())
 | 4=>(10,0,0,0,0,false,[],zzz,())
 | 5=>(10,0,0,0,0,false,[],zno,())
 | 6=>(10,0,0,0,0,false,[],[95,120],())
 | _=>(9,0,0,0,0,false,zneg,[],())
def oddE:Nat→Int
 | 0=>28
 | 1=>27
 | 2=>27
 | 3=>25
 | 4=>26
 | 5=>25
 | 6=>9
 | _=>27
theorem odd_err (j:Nat) (lb:List Sym) (q:List Val) (fr wd pl:Int) (c:Nat) (r:WrT) (hz:zzz ∉ lb.map (·.1)) (hn:zno ∉ lb.map (·.1)) (hr:r.2.2=[(zzz,((4 * c:Nat):Int),())]) :
  lineA (lb++[(zzz,((4 * c:Nat):Int),())]) q fr wd (oddS j) pl r=.error (oddE j):=by
 have hfz:findR zzz (lb++[(zzz,((4 * c:Nat):Int),())])=some ((4 * c:Nat):Int):=by
  rw [findR_app,findR_out hz]
  dsimp only
  rw [findR,if_pos rfl]
 have hfn:findR zno (lb++[(zzz,((4 * c:Nat):Int),())])=none:=by
  rw [findR_app,findR_out hn]
  dsimp only
  rw [findR,if_neg (show ¬ zzz=zno by decide),findR]
 generalize lb++[(zzz,((4 * c:Nat):Int),())]=lb' at hfz hfn ⊢
 obtain ⟨a1,a2⟩:=v_nam hfz
 obtain ⟨b1,b2⟩:=v_neg hfz
 have d1:=v_gon hfn
 match j with
 | 0=>rw [show oddS 0=(2,8,0,0,0,false,znum,[],()) from rfl,show oddE 0=28 from rfl]; unfold lineA wordR; dsimp only; rw [if_neg (by decide),if_neg (by decide),if_pos rfl]; rfl
 | 1=>rw [show oddS 1=(7,0,0,0,0,false,znum,[],()) from rfl,show oddE 1=27 from rfl]; unfold lineA wordR; dsimp only; rw [if_neg (by decide),if_neg (by decide),if_neg (by decide),if_neg (by decide),if_pos rfl]; rfl
 | 2=>
  have:(numV lb' znam (-65536) 65535).2.1=27:=by unfold numV; rw [if_neg (by rw [a2]; decide),if_pos (by rw [a1]; decide)]
  rw [show oddS 2=(2,0,0,0,0,false,znam,[],()) from rfl,show oddE 2=27 from rfl]
  unfold lineA wordR; dsimp only
  rw [if_neg (by decide),if_neg (by decide),if_pos rfl,if_neg (by decide)]
  unfold encE
  rw [if_pos (by rw [this]; decide),this]
 | 3=>
  have:(numV lb' zgon (-524288) 524287).2.1=25:=by unfold numV; rw [if_pos (by rw [d1]; decide)]; exact d1
  rw [show oddS 3=(5,0,0,0,0,false,zgon,[],()) from rfl,show oddE 3=25 from rfl]
  unfold lineA wordR; dsimp only
  rw [if_neg (by decide),if_neg (by decide),if_neg (by decide),if_pos rfl]
  unfold encE
  rw [if_pos (by rw [this]; decide),this]
 | 4=>
  have hi:isSy [(zzz,((4 * c:Nat):Int),())] zzz=true:=by
   have hk:kS [(zzz,((4 * c:Nat):Int),())] zzz=0:=by rw [kS,if_neg (by rw [less_irrefl]; decide)]
   unfold isSy
   rw [hk,decide_eq_true_eq]
   exact ⟨Nat.zero_lt_one,rfl⟩
  rw [show oddS 4=(10,0,0,0,0,false,[],zzz,()) from rfl,show oddE 4=26 from rfl]
  unfold lineA exportR; dsimp only
  rw [if_neg (by decide),if_pos rfl,if_neg (by decide),hfz,if_neg (by simp),hr,hi]; rfl
 | 5=>rw [show oddS 5=(10,0,0,0,0,false,[],zno,()) from rfl,show oddE 5=25 from rfl]; unfold lineA exportR; dsimp only; rw [if_neg (by decide),if_pos rfl,if_neg (by decide),hfn]; rfl
 | 6=>rw [show oddS 6=(10,0,0,0,0,false,[],[95,120],()) from rfl,show oddE 6=9 from rfl]; unfold lineA exportR; dsimp only; rw [if_neg (by decide),if_pos rfl,if_pos (by decide)]
 | j+7=>
  have hd:oddS (j+7)=(9,0,0,0,0,false,zneg,[],()):=rfl
  have he:oddE (j+7)=27:=rfl
  rw [hd,he]
  have:adrV (vOf lb' zneg).1 (vOf lb' zneg).2.1 wd=27:=by unfold adrV; rw [if_pos (.inl (by rw [b1]; decide))]
  unfold lineA wordR; (try dsimp only)
  rw [if_neg (by decide),if_neg (by decide),if_neg (by decide),if_neg (by decide),if_neg (by decide),if_neg (by decide),if_pos rfl,if_neg (by rw [b2]; decide),this]; rfl
end Rv
namespace Rv
open Go
theorem lines_noexp {lb:List Sym} {q:List Val} {fr wd:Int} {t:List Int}:∀ (l:List Ln) (i:Nat) (r r':WrT),(∀ x∈l,x.2.1.1≠10)→linesW lb q fr wd t l i r=.ok r'→r'.2.2=r.2.2
 | [],_,r,r',_,h=>by cases h; rfl
 | x::l,i,r,r',hx,h=>by
  rw [linesW] at h
  split at h
  ·cases h
  ·rename_i r1 hA
   have:=lines_noexp l (i+1) r1 r' (fun y hy=>hx y (List.mem_cons_of_mem _ hy)) h
   rw [this]
   unfold lineA at hA
   by_cases k0:x.2.1.1=0
   ·rw [if_pos k0] at hA; cases hA; rfl
   rw [if_neg k0,if_neg (hx x (List.mem_cons_self ..))] at hA
   split at hA
   ·cases hA
   ·cases hA; rfl
theorem err_ne {lb:List Sym} {q:List Val} {fr wd:Int} {t:List Int} {x:Nat×Int}:∀ (l:List Ln) (i:Nat) (r:WrT),linesW lb q fr wd t l i r=.error x→x.2≠0
 | [],_,_,h=>by cases h
 | y::l,i,r,h=>by
  rw [linesW] at h
  split at h
  ·rename_i e he; cases h; exact line_err he
  ·exact err_ne l _ _ h
abbrev lnA:Ln:=(zzz,(10,0,0,0,0,false,[],zzz,()),())
abbrev lnB (j:Nat):Ln:=([],oddS j,())
theorem never (w:List Ln) (hx:∀ x∈w,x.2.1.1≠10) (hz:zzz ∉ lnLabs w) (hn:zno ∉ lnLabs w) (j:Nat):(asmR (w++[lnA,lnB j])).2.2.2.2.1≠0:=by
 intro h
 have hobj:=h
 unfold asmR objP at h
 by_cases hp:(planR (w++[lnA,lnB j])).2.2.2.2.2.2.1=0
 ·rw [if_neg (by simpa using hp)] at h
  obtain ⟨_,_,_,r,p,g1,g2,g3,g4⟩:=plan_stands (w++[lnA,lnB j]) hp
  have hform:=placeR_form _ 0 [] [] 0 g1
  rw [List.nil_append,List.nil_append] at hform
  have hlb:r.2.1=lbsR w 0++[(zzz,((4 * (0+(w.map sizeN).sum):Nat):Int),())]:=by
   rw [hform]
   show lbsR (w++[lnA,lnB j]) 0=_
   rw [lbs_app,lbsR,if_neg (by decide),lbsR,if_pos rfl,lbsR]
  have hlz:zzz ∉ (lbsR w 0).map (·.1):=by rw [lbs_names]; exact hz
  have hln:zno ∉ (lbsR w 0).map (·.1):=by rw [lbs_names]; exact hn
  rw [g4] at h
  dsimp only at h
  rw [hlb] at h
  generalize hc:0+(w.map sizeN).sum=c at h hlb
  rw [linesW_app] at h
  cases hw:linesW (lbsR w 0++[(zzz,((4 * c:Nat):Int),())]) p ((4 * r.2.2:Nat):Int) ((r.2.2+p.length:Nat):Int) r.1 w 0 ([],[],[]) with
  | error x=>
   rw [hw] at h
   exact err_ne w 0 _ hw h
  | ok s=>
   rw [hw] at h
   dsimp only at h
   have hs2:s.2.2=[]:=lines_noexp w 0 _ s hx hw
   have hfz:findR zzz (lbsR w 0++[(zzz,((4 * c:Nat):Int),())])=some ((4 * c:Nat):Int):=by
    rw [findR_app,findR_out hlz]
    dsimp only
    rw [findR,if_pos rfl]
   have hA:∀ pl,lineA (lbsR w 0++[(zzz,((4 * c:Nat):Int),())]) p ((4 * r.2.2:Nat):Int) ((r.2.2+p.length:Nat):Int) lnA.2.1 pl s=.ok (s.1,s.2.1,[(zzz,((4 * c:Nat):Int),())]):=fun pl=>by
    unfold lineA exportR
    dsimp only
    rw [if_neg (by decide),if_pos rfl,hs2,if_neg (by decide),hfz]
    rfl
   rw [linesW,hA] at h
   dsimp only at h
   rw [linesW,odd_err j _ _ _ _ _ c _ hlz hln rfl] at h
   have h:oddE j=0:=h
   unfold oddE at h
   split at h <;> exact absurd h (by decide)
 ·rw [if_pos (by simpa using hp)] at h; exact absurd h hp
theorem oddS_ne (j:Nat):(oddS j).1≠8:=by
 unfold oddS
 split <;> decide
theorem refuses (w:List Ln) (hl:w.length≤20) (hg:∀ x∈w,∀ y∈eL x,0≤y.2.1∧y.2.1≤4294967295) (hx:∀ x∈w,x.2.1.1≠10) (hz:zzz ∉ lnLabs w) (hn:zno ∉ lnLabs w) (h:(asmR w).2.2.2.2.1=0) (j:Nat) :
  asmR (w++[lnA,lnB j])=noObj ((w.length+2:Nat):Int) (oddE j):=
 refused w hl hg hx h (by decide) (by decide) hz (oddS j) (oddS_ne j) (oddE j) fun lb q fr wd pl c r hlb _ hr=>
  odd_err j lb q fr wd pl c r (by rw [hlb]; exact hz) (by rw [hlb]; exact hn) hr
end Rv
namespace Rv
open Go
theorem shown21:Zbp.g=some (true,()):=by decide +kernel
end Rv
namespace Rv
open Go
def noExp (x:Ln):Bool:=decide (x.2.1.1≠10)
section
variable {sh:Option (Bool×Unit)} (n:Nat) (a:Int) (b:Bool) (w:List Ln)
theorem rf_l5 (hw:w.length≤20) (X:Option (Bool×Unit)):∀ (m i:Nat) (d:List Ln),i≤w.length→w.length - i < m→d.length≤i→rivetlaw21_AsmRefuses.l5 sh n 1 a b w (d++(w.drop i).filter noExp) (w.length:Int)=X →
  rivetlaw21_AsmRefuses.l5 sh n m a b w d (i:Int)=X:=by
 intro m
 induction m with
 | zero=>intro i _ _ h; omega
 | succ m ih=>
  intro i d hi hm hd hX
  by_cases h:i < w.length
  ·have W1:IntKind.i64.wrap ((i:Int)+1)=((i+1:Nat):Int):=by rw [w64 (by omega)]; omega
   have hr:0≤(i:Int)∧(i:Int) < (w.length:Int):=by omega
   rw [drop_ln h,List.filter_cons] at hX
   rw [rivetlaw21_AsmRefuses.l5]
   unfold rivetlaw21_AsmRefuses.j6
   simp only [dt,Int.toNat_natCast]
   rw [if_pos hr.2,if_pos hr,W1]
   by_cases k:(w.getD i zL).2.1.1=10
   ·rw [if_neg (show ¬ (w.getD i zL).2.1.1≠10 by simpa using k)]
    rw [if_neg (show ¬ noExp (w.getD i zL)=true by unfold noExp; simpa using k)] at hX
    exact ih (i+1) d (by omega) (by omega) (by omega) hX
   ·rw [if_pos (show (w.getD i zL).2.1.1≠10 from k),if_pos hr,if_pos (by simp; omega)]
    rw [if_pos (show noExp (w.getD i zL)=true by unfold noExp; simpa using k)] at hX
    refine ih (i+1) _ (by omega) (by omega) (by simp; omega) ?_
    rw [List.append_assoc]
    exact hX
  ·obtain rfl:i=w.length:=by omega
   rw [List.drop_length,List.filter_nil,List.append_nil,rivetlaw21_AsmRefuses.l5] at hX
   rw [rivetlaw21_AsmRefuses.l5]
   simp only [dt] at hX ⊢
   rw [if_neg (by omega)] at hX ⊢
   exact hX
end
theorem rf_j17 {sh:Option (Bool×Unit)} (n:Nat) (d:List Ln) (hd:d.length≤20) (hg:∀ x∈d,∀ y∈eL x,0≤y.2.1∧y.2.1≤4294967295) (he:∀ x∈d,(eL x).length≤64) (hx:∀ x∈d,x.2.1.1≠10) (hz:zzz ∉ lnLabs d) (hn:zno ∉ lnLabs d) (j:Nat) (hj:j < 8) :
  rivetlaw21_AsmRefuses.j17 sh n true d (asmR d).2.2.2.2.1 (j:Int) ((([]:List Ln)++d)++[lnA,lnB j]) 28 27 27 25 26 25 9 27=some (true,()):=by
 have hoe:∀ j:Nat,j < 8→(eL (lnB j)).length≤64∧([28,27,27,25,26,25,9,27]:List Int).getD j 0=oddE j:=by decide
 obtain ⟨ho1,ho2⟩:=hoe j hj
 unfold rivetlaw21_AsmRefuses.j17
 rw [List.nil_append,asm_eq _ (by simp; omega) (fun x hx'=>by
  rcases List.mem_append.1 hx' with h | h
  ·have:=he x h; omega
  ·rcases List.mem_cons.1 h with rfl | h
   ·show (0:Nat)≤_; omega
   ·obtain rfl:=List.mem_singleton.1 h; omega),Option.bind_some]
 simp only [dt,Int.toNat_natCast]
 rw [ho2]
 by_cases h:(asmR d).2.2.2.2.1=0
 ·have hr:=refuses d hd hg hx hz hn h j
  have hL:((d.length+2:Nat):Int)=IntKind.i64.wrap ((d.length:Int)+2):=by rw [w64 (by omega)]; omega
  rw [if_neg (by simpa using h),if_pos (show 0≤(j:Int)∧(j:Int) < 8 by omega),hr]
  unfold noObj
  dsimp only
  rw [if_pos (show oddE j=oddE j from rfl),if_pos hL]
  rfl
 ·have hr:=never d hx hz hn j
  rw [if_pos (by simpa using h),decide_eq_true hr]
  rfl
theorem arefuses_wf {a:List Ln} {x0:Int} (h:(a.length≤maxLen∧∀ x∈a,wfLn2 x)∧(Lit.int .u8 x0).wf=true∧True):rivetlaw21_AsmRefuses.g a x0=some (true,()):=by
 obtain ⟨q,hq,hql,hqo⟩:=fitX a h.1.2
 obtain ⟨w,hw,hn⟩:=fit20 q hqo
 obtain ⟨lb,_,hnx⟩:=hn.ln
 have hb:=wfU8 h.2.1
 have hwl:=hn.len
 have hgood:∀ x∈w,((eL x).length≤64∧∀ y∈eL x,0≤y.2.1∧y.2.1≤4294967295)∧(x.1=[]∨okLb x.1):=fun x hx=>by
  obtain ⟨⟨hl,t,ht⟩,_⟩:=hnx x hx
  obtain ⟨h1,he,hok⟩:=good_elen ht
  refine ⟨⟨h1,fun y hy=>?_⟩,hl⟩
  have he:eL x=postO t:=he
  cases t with
  | none=>rw [he] at hy; cases hy
  | some t=>
   rw [he] at hy
   have:=post_good t (hok t rfl).1 y hy
   exact ⟨this.1,this.2.1⟩
 have hsub:(w.filter noExp).Sublist w:=List.filter_sublist
 have hlab:∀ s:Str,s.getD 0 0=122→s ∉ lnLabs (w.filter noExp):=fun s hs hm=>by
  have hm:=(lnLabs_sub hsub).subset hm
  unfold lnLabs at hm
  rw [List.mem_filter,List.mem_map] at hm
  obtain ⟨⟨x,hx,rfl⟩,hne⟩:=hm
  rcases (hgood x hx).2 with he | ho
  ·rw [he] at hs; exact absurd hs (by decide)
  ·exact ho.2.2.2 hs
 have hfl:(w.filter noExp).length≤20:=by have:=List.length_filter_le noExp w; omega
 have hmem:∀ x∈w.filter noExp,x∈w:=fun x hx=>(List.mem_filter.1 hx).1
 unfold rivetlaw21_AsmRefuses.g
 generalize hN:1000+a.length+x0.toNat=n
 unfold rivetlaw21_AsmRefuses.f
 rw [shown21,Option.bind_some,hq,Option.bind_some,hw,Option.bind_some]
 refine rf_l5 n x0 true w hwl _ n 0 [] (by omega) (by omega) (by simp) ?_
 rw [List.drop_zero,List.nil_append]
 generalize hd:w.filter noExp=d at hsub hlab hfl hmem
 rw [rivetlaw21_AsmRefuses.l5]
 simp only [dt]
 rw [if_neg (by omega),asm_eq d (by omega) (fun x hx=>by have:=(hgood x (hmem x hx)).1.1; omega),Option.bind_some,if_pos (by decide),if_pos (by decide),if_pos (by simp; omega)]
 have J:=rf_j17 (sh:=some (true,())) n d hfl (fun x hx=>(hgood x (hmem x hx)).1.2) (fun x hx=>(hgood x (hmem x hx)).1.1) (fun x hx=>by
  rw [← hd] at hx
  simpa [noExp] using (List.mem_filter.1 hx).2) (hlab zzz rfl) (hlab zno rfl)
 obtain ⟨j,hj,e⟩:∃ j:Nat,j < 8∧Int.tmod x0 8=(j:Int):=⟨x0.toNat % 8,by omega,by rw [Int.tmod_eq_emod_of_nonneg hb.1]; omega⟩
 rw [e]
 have hB:∀ (x y:Ln),(([]:List Ln).length+d.length) * 104≤140737488355328∧((([]:List Ln)++d).length+([x,y]:List Ln).length) * 104≤140737488355328∧0 < 104∧0 < 9:=fun x y=>by simp; omega
 have hj:=hj
 obtain rfl | rfl | rfl | rfl | rfl | rfl | rfl | rfl:j=0∨j=1∨j=2∨j=3∨j=4∨j=5∨j=6∨j=7:=by omega
 ·rw [if_pos (by decide),if_pos (hB _ _).2]; exact J 0 (by decide)
 ·rw [if_neg (by decide),if_pos (by decide),if_pos (hB _ _).2]; exact J 1 (by decide)
 ·rw [if_neg (by decide),if_neg (by decide),if_pos (by decide),if_pos (hB _ _).2]; exact J 2 (by decide)
 ·rw [if_neg (by decide),if_neg (by decide),if_neg (by decide),if_pos (by decide),if_pos (hB _ _).2]; exact J 3 (by decide)
 ·rw [if_neg (by decide),if_neg (by decide),if_neg (by decide),if_neg (by decide),if_pos (by decide),if_pos (hB _ _).2]; exact J 4 (by decide)
 ·rw [if_neg (by decide),if_neg (by decide),if_neg (by decide),if_neg (by decide),if_neg (by decide),if_pos (by decide),if_pos (hB _ _).2]; exact J 5 (by decide)
 ·rw [if_neg (by decide),if_neg (by decide),if_neg (by decide),if_neg (by decide),if_neg (by decide),if_neg (by decide),if_pos (by decide),if_pos (hB _ _).2]; exact J 6 (by decide)
 ·rw [if_neg (by decide),if_neg (by decide),if_neg (by decide),if_neg (by decide),if_neg (by decide),if_neg (by decide),if_neg (by decide),if_pos (by decide),if_pos (hB _ _).2]; exact J 7 (by decide)
end Rv
