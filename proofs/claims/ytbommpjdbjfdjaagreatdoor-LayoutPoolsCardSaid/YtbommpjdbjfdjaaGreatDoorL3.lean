/- Texts put together. -/
import Derived.Test.YtbommpjdbjfdjaaGreatDoorL2
import Derived.Test.YtbommpjdbjfdjaaGreatDoorL1
set_option linter.all false
namespace Rv
open Go
theorem and15_rg (x:Int):rg (bitsI .and .i64 x 15):=by
 have h1:(BitVec.ofInt 64 x &&& BitVec.ofInt 64 15).toNat≤15:=by
  rw [BitVec.toNat_and]
  exact Nat.and_le_right
 show rg (IntKind.i64.wrap (((BitVec.ofInt 64 x &&& BitVec.ofInt 64 15).toNat:Nat):Int))
 rw [w64 (by omega)]
 exact ⟨by omega,by omega⟩
theorem and3_rg (x:Int):0≤bitsI .and .i64 x 3∧bitsI .and .i64 x 3 < 4:=by
 have h1:(BitVec.ofInt 64 x &&& BitVec.ofInt 64 3).toNat≤3:=by
  rw [BitVec.toNat_and]
  exact Nat.and_le_right
 show 0≤IntKind.i64.wrap (((BitVec.ofInt 64 x &&& BitVec.ofInt 64 3).toNat:Nat):Int)∧IntKind.i64.wrap (((BitVec.ofInt 64 x &&& BitVec.ofInt 64 3).toNat:Nat):Int) < 4
 rw [w64 (by omega)]
 omega
def goodQ (K:Int) (r:Option (Int×Int×Int×Int×Int×Int×Bool×Unit)):Prop:=∃ O A B C I U,r=some (K,O,A,B,C,I,U,())∧GoodI0 K O A B C U
theorem goodQ_mk {a b c d e f:Int} {g:Bool} (h:GoodI0 a b c d e g):goodQ a (some (a,b,c,d,e,f,g,())):=⟨_,_,_,_,_,_,rfl,h⟩
theorem j10_q (n:Nat) (op a0 a1 a2 a3 a4 a5:Int) (a6:Bool) (b0 b1 b2 b3 b4 b5:Int) (b6:Bool) (k c d f:Int) (u:Bool) (hk:k=1∨k=2) (ho:0≤op∧op < 12) (hu:u=true→8≤op∧op≤10) (hc:rg c) (hd:rg d) (h0:op=0→d=0) :
  goodQ k (Zaf.j10 n op a0 a1 a2 a3 a4 a5 a6 b0 b1 b2 b3 b4 b5 b6 k op c d 0 f u):=by
 unfold Zaf.j10
 by_cases e1:k=1
 ·rw [if_pos (by simp [e1])]
  subst e1
  by_cases e2:op=0
  ·subst e2
   obtain rfl:=h0 rfl
   have:u=false:=by cases u; rfl; exact absurd (hu rfl).1 (by decide)
   subst this
   exact goodQ_mk (.mov hc (and15_rg _))
  ·exact goodQ_mk (.reg (by omega) ho.2 hc hd (and15_rg _) hu)
 ·obtain rfl:k=2:=by omega
  rw [if_neg (by decide)]
  by_cases e2:op=0
  ·subst e2
   obtain rfl:=h0 rfl
   have:u=false:=by cases u; rfl; exact absurd (hu rfl).1 (by decide)
   subst this
   rw [if_pos (by decide)]
   unfold Zaf.j25
   split
   ·exact goodQ_mk (.movi hc)
   ·exact goodQ_mk (.movi hc)
  ·rw [if_neg (by simp [e2])]
   exact goodQ_mk (.imm (by omega) ho.2 hc hd hu)
theorem j7_q (n:Nat) (op a0 a1 a2 a3 a4 a5:Int) (a6:Bool) (b0 b1 b2 b3 b4 b5:Int) (b6:Bool) (k c f:Int) (hk:k=1∨k=2) (ho:0≤op∧op < 12) (hc:rg c) :
  goodQ k (Zaf.j7 n op a0 a1 a2 a3 a4 a5 a6 b0 b1 b2 b3 b4 b5 b6 k op c 0 0 f false):=by
 have h9:∀ d,rg d→(op=0→d=0)→goodQ k (Zaf.j9 n op a0 a1 a2 a3 a4 a5 a6 b0 b1 b2 b3 b4 b5 b6 k op c d 0 f false):=by
  intro d hd h0
  unfold Zaf.j9
  by_cases e1:a6=true
  ·rw [if_pos e1]
   by_cases e2:(8:Int)≤op
   ·rw [if_pos (by simpa using e2)]
    exact j10_q _ _ _ _ _ _ _ _ _ _ _ _ _ _ _ _ _ _ _ _ _ hk ho (fun h=>⟨e2,by simpa using h⟩) hc hd h0
   ·rw [if_neg (by simpa using e2)]
    exact j10_q _ _ _ _ _ _ _ _ _ _ _ _ _ _ _ _ _ _ _ _ _ hk ho (fun h=>by cases h) hc hd h0
  ·rw [if_neg e1]
   exact j10_q _ _ _ _ _ _ _ _ _ _ _ _ _ _ _ _ _ _ _ _ _ hk ho (fun h=>by cases h) hc hd h0
 unfold Zaf.j7
 by_cases e:op=0
 ·rw [if_neg (by simp [e])]; exact h9 0 ⟨by decide,by decide⟩ fun _=>rfl
 ·rw [if_pos (by simp [e])]; exact h9 _ (and15_rg _) fun h=>absurd h e
theorem tmodB (x:Int) {m:Int} (hm:0 < m):-m < Int.tmod x m∧Int.tmod x m < m:=⟨Int.lt_tmod_of_pos x hm,Int.tmod_lt_of_pos x hm⟩
theorem fit03_q (i0 i1 i2 i3 i4 i5:Int) (u:Bool):goodQ (1+Int.tmod (Int.tmod i0 7+7) 7) (Zaf.g i0 i1 i2 i3 i4 i5 u):=by
 unfold Zaf.g
 generalize 1000+i0.toNat+i1.toNat+i2.toNat+i3.toNat+i4.toNat+i5.toNat=n
 unfold Zaf.f
 have t1:=tmodB i0 (m:=7) (by decide)
 have t2:=tmodB i1 (m:=12) (by decide)
 have e1:IntKind.i64.wrap (Int.tmod i0 7+7)=Int.tmod i0 7+7:=w64 (by omega)
 have e2:IntKind.i64.wrap (Int.tmod i1 12+12)=Int.tmod i1 12+12:=w64 (by omega)
 rw [e1,e2]
 have t3:=tmodB (Int.tmod i0 7+7) (m:=7) (by decide)
 have t4:=tmodB (Int.tmod i1 12+12) (m:=12) (by decide)
 have t5:0≤Int.tmod (Int.tmod i0 7+7) 7:=Int.tmod_nonneg _ (by omega)
 have t6:0≤Int.tmod (Int.tmod i1 12+12) 12:=Int.tmod_nonneg _ (by omega)
 generalize Int.tmod (Int.tmod i0 7+7) 7=q at *
 generalize Int.tmod (Int.tmod i1 12+12) 12=op at *
 have e3:IntKind.i64.wrap (1+q)=1+q:=w64 (by omega)
 rw [e3]
 clear e1 e2 e3 t1 t2
 generalize hk:1+q=k
 simp only [dt]
 have hop:0≤op∧op < 12:=⟨t6,t4.2⟩
 have m3:=and3_rg i1
 by_cases k1:k=1
 ·rw [if_pos k1,if_pos k1]; exact j7_q _ _ _ _ _ _ _ _ _ _ _ _ _ _ _ _ _ _ _ (Or.inl k1) hop (and15_rg _)
 ·rw [if_neg k1]
  by_cases k2:k=2
  ·rw [if_pos k2]; exact j7_q _ _ _ _ _ _ _ _ _ _ _ _ _ _ _ _ _ _ _ (Or.inr k2) hop (and15_rg _)
  ·rw [if_neg k2]
   by_cases k5:k=5
   ·rw [if_pos k5,k5]; exact goodQ_mk (.mem m3.1 m3.2 (and15_rg _) (and15_rg _))
   ·rw [if_neg k5]
    by_cases k6:k=6
    ·rw [if_pos k6,k6]; exact goodQ_mk (.br (and15_rg _) (and15_rg _))
    ·rw [if_neg k6]
     by_cases k7:k=7
     ·rw [if_pos k7,k7]; exact goodQ_mk (.jmp (and15_rg _))
     ·rw [if_neg k7]
      have:k=3∨k=4:=by omega
      rcases this with rfl | rfl
      ·exact goodQ_mk (.hi (and15_rg _))
      ·exact goodQ_mk (.fl (and15_rg _))
theorem fit07_name (s:Str) (hs:s.length≤9223372036854775807):∃ r,Zal.g s=some (r,())∧nameOk r=true:=by
 have key:∃ r,Zal.g s=some (r,())∧(∃ c t,r=c::t∧isA c=true∧c≠82)∧r.all isW=true∧r.length≤7:=by
  unfold Zal.g Zal.f
  have e1:Int.tmod (s.length:Int) 26=((s.length % 26:Nat):Int):=by
   have:Int.tmod (s.length:Int) 26=(s.length:Int) % 26:=Int.tmod_eq_emod_of_nonneg (by omega)
   rw [this]; omega
  have hk:s.length % 26 < 26:=Nat.mod_lt _ (by omega)
  rw [e1]
  have e2:IntKind.u8.wrap (97+IntKind.u8.wrap ((s.length % 26:Nat):Int))=((97+s.length % 26:Nat):Int):=by
   rw [w8u (x:=((s.length % 26:Nat):Int)) (by omega),w8u (by omega)]; omega
  rw [e2]
  have hb:bytesOf [((97+s.length % 26:Nat):Int)]=[UInt8.ofNat (97+s.length % 26)]:=rfl
  rw [hb]
  have hn:(UInt8.ofNat (97+s.length % 26)).toNat=97+s.length % 26:=by rw [UInt8.toNat_ofNat',Nat.mod_eq_of_lt (by omega)]
  have hA:isA (UInt8.ofNat (97+s.length % 26))=true:=by unfold isA; rw [hn]; simp; omega
  have hne:UInt8.ofNat (97+s.length % 26)≠82:=fun e=>by have:=congrArg UInt8.toNat e; rw [hn] at this; simp at this; omega
  exact fit07_loop (Q:=fun c=>isA c=true∧c≠82) s hs (1000+s.length) (1000+s.length) 0 _ (by omega) (by omega) (by omega) rfl ⟨_,_,rfl,hA,hne⟩ (by rw [List.all_cons,isW,isA_L,hA]; rfl)
 obtain ⟨r,hr,⟨c,t,rfl,hA,hne⟩,ha,hl⟩:=key
 refine ⟨_,hr,?_⟩
 unfold nameOk regLike
 have h1:(c::t:Str).getD 0 0=c:=rfl
 have h2:decide ((c::t:Str).length≤12)=true:=by rw [decide_eq_true_eq]; omega
 rw [h1,h2,hA,ha,decide_eq_false hne]
 rfl
def smF (s:Sm):Int×Int×Int×Int×Int×Bool×List Item×Str×Unit:=(s.k,s.o,s.a,s.b,s.c,s.u,s.e,s.nm,())
abbrev wfSm (s:Sm):Prop:=s.e.length≤9223372036854775807∧wfItems s.e∧s.nm.length≤9223372036854775807
theorem fit17 (s:Sm) (hw:wfSm s):∃ x t,Zau.g s.k s.o s.a s.b s.c s.u s.e s.nm=some (smF x)∧GoodS x t:=by
 unfold Zau.g
 generalize 1000+s.k.toNat+s.o.toNat+s.a.toNat+s.b.toNat+s.c.toNat+s.e.length+s.nm.length=n
 unfold Zau.f
 obtain ⟨t,hf,ho,hp,hwl,hlen⟩:=fit_tree s.e hw.1 hw.2.1
 have hT:okT' t:=⟨ho,hp,hwl,by omega⟩
 rw [hf,Option.bind_some]
 have t1:=tmodB s.k (m:=11) (by decide)
 have e1:IntKind.i64.wrap (Int.tmod s.k 11+11)=Int.tmod s.k 11+11:=w64 (by omega)
 rw [e1]
 have t3:=tmodB (Int.tmod s.k 11+11) (m:=11) (by decide)
 have t5:0≤Int.tmod (Int.tmod s.k 11+11) 11:=Int.tmod_nonneg _ (by omega)
 generalize Int.tmod (Int.tmod s.k 11+11) 11=k at *
 simp only [dt,df]
 have J9:(k=0∨8≤k)→∃ x t',Zau.j9 n k t.post s.k s.o s.a s.b s.c s.u s.e s.nm 0 0 0 0 0 false [] []=some (smF x)∧GoodS x t':=by
  intro hk
  unfold Zau.j9
  simp only [dt]
  by_cases h8:k=8
  ·rw [if_pos h8,h8]; exact ⟨_,_,rfl,.load (and15_rg s.a) hT⟩
  ·rw [if_neg h8]
   by_cases h9:k=9
   ·rw [if_pos h9,h9]; exact ⟨_,_,rfl,.word hT⟩
   ·rw [if_neg h9]
    by_cases h10:k=10
    ·have hmn:0≤mn (s.nm.length:Int) 6∧mn (s.nm.length:Int) 6≤s.nm.length:=by unfold mn; split <;> omega
     obtain ⟨r,hr,hn⟩:=fit07_name ((s.nm.take ((mn (s.nm.length:Int) 6)).toNat).drop 0) (by simp; omega)
     rw [if_pos h10,if_pos hmn,hr,Option.bind_some,h10]
     exact ⟨_,_,rfl,.exp hn⟩
    ·rw [if_neg h10]; exact ⟨_,_,rfl,.none⟩
 by_cases h1:1≤k
 ·rw [if_pos h1]
  by_cases h7:k≤7
  ·rw [if_pos h7,w64 (x:=k - 1) (by omega)]
   have hq:=fit03_q (k - 1) s.o s.a s.b s.c 0 s.u
   have hkk:1+Int.tmod (Int.tmod (k - 1) 7+7) 7=k:=by
    have a1:Int.tmod (k - 1) 7=k - 1:=by rw [Int.tmod_eq_emod_of_nonneg (by omega)]; omega
    rw [a1,Int.tmod_eq_emod_of_nonneg (by omega)]; omega
   rw [hkk] at hq
   obtain ⟨O,A,B,C,I,U,hr,hg⟩:=hq
   rw [hr,Option.bind_some]
   unfold Zau.j8
   by_cases h2:k=2
   ·rw [if_neg (by simp [h2])]; exact ⟨_,_,rfl,.ins1 hg (by omega) hT⟩
   ·rw [if_pos h2]
    by_cases h5:k=5
    ·rw [if_neg (by simp [h5])]; exact ⟨_,_,rfl,.ins1 hg (by omega) hT⟩
    ·rw [if_pos h5]
     by_cases h77:k=7
     ·rw [if_pos h77]; exact ⟨_,_,rfl,.ins1 hg (by omega) hT⟩
     ·rw [if_neg h77]; exact ⟨_,_,rfl,.ins0 hg (by omega)⟩
  ·rw [if_neg h7]; exact J9 (by omega)
 ·rw [if_neg h1]; exact J9 (by omega)
theorem good_elen {s:Sm} {t:Option Tr} (h:GoodS s t):s.e.length≤64∧s.e=postO t∧(∀ x,t=some x→okT' x):=by
 cases h with
 | none=>exact ⟨by simp,rfl,fun x h=>by cases h⟩
 | ins0 _ _=>exact ⟨by simp,rfl,fun x h=>by cases h⟩
 | ins1 _ _ ht=>exact ⟨ht.2.2.2,rfl,fun x h=>by obtain rfl:=Option.some.inj h; exact ht⟩
 | load _ ht=>exact ⟨ht.2.2.2,rfl,fun x h=>by obtain rfl:=Option.some.inj h; exact ht⟩
 | word ht=>exact ⟨ht.2.2.2,rfl,fun x h=>by obtain rfl:=Option.some.inj h; exact ht⟩
 | exp _=>exact ⟨by simp,rfl,fun x h=>by cases h⟩
end Rv
namespace Rv
open Go
abbrev wfE2 (l:List Item):Prop:=l.length≤maxLen∧∀ x∈l,(Lit.int .i64 x.1).wf=true∧(Lit.int .u32 x.2.1).wf=true∧x.2.2.1.length≤maxLen∧True
abbrev wfLn2 (x:Ln):Prop:=x.1.length≤maxLen∧((Lit.int .i64 x.2.1.1).wf=true∧(Lit.int .i64 x.2.1.2.1).wf=true∧(Lit.int .i64 x.2.1.2.2.1).wf=true∧(Lit.int .i64 x.2.1.2.2.2.1).wf=true∧(Lit.int .i64 x.2.1.2.2.2.2.1).wf=true∧True∧wfE2 x.2.1.2.2.2.2.2.2.1∧x.2.1.2.2.2.2.2.2.2.1.length≤maxLen∧True)∧True
theorem fit07_x (s:Str) (hs:s.length≤9223372036854775807):∃ t,Zal.g s=some (UInt8.ofNat (97+s.length % 26)::t,())∧t.length=min s.length 6:=by
 have loop:∀ (n m i:Nat) (out:Str),i≤s.length→6 - i < m→i≤6→out.length=i+1 →
   ∃ u,Zal.l4 n m s ([97,98,99,88,89,90,95,48,49,57,82,109]:Str) out (i:Int)=some (out++u,())∧u.length=min s.length 6 - i:=by
  intro n m
  induction m with
  | zero=>intro i out _ h; omega
  | succ m ih=>
   intro i out hi hm h6 hl
   rw [Zal.l4]
   simp only [dt]
   by_cases h1:i < s.length
   ·rw [if_pos (by omega)]
    by_cases h2:i < 6
    ·rw [if_pos (by omega),if_pos (by omega),if_pos (by omega),bt_nat]
     have hb:=byte_lt (s.getD i 0)
     generalize s.getD i 0=b at *
     have e0:Int.tmod (IntKind.i64.wrap (b.toNat:Int)) 12=((b.toNat % 12:Nat):Int):=by
      rw [w64 (by omega)]
      have:Int.tmod (b.toNat:Int) 12=(b.toNat:Int) % 12:=Int.tmod_eq_emod_of_nonneg (by omega)
      rw [this]; omega
     rw [e0]
     have hk:b.toNat % 12 < 12:=Nat.mod_lt _ (by omega)
     generalize b.toNat % 12=k at *
     rw [w64 (x:=(k:Int)+1) (by omega),w64 (x:=(i:Int)+1) (by omega),show (k:Int)+1=((k+1:Nat):Int) by omega,show (i:Int)+1=((i+1:Nat):Int) by omega,Int.toNat_natCast,Int.toNat_natCast]
     have hf:=List.all_eq_true.1 fit_byte k (by simpa using hk)
     simp only [Bool.and_eq_true,decide_eq_true_eq] at hf
     obtain ⟨f1,f2⟩:=hf
     generalize ((([97,98,99,88,89,90,95,48,49,57,82,109]:Str).take (k+1)).drop k)=w at *
     rw [if_pos ⟨by omega,by simp only [List.length_cons,List.length_nil]; omega⟩,if_pos ⟨by omega,by omega⟩,if_pos (by omega)]
     obtain ⟨u,hu,hul⟩:=ih (i+1) (out++w) (by omega) (by omega) (by omega) (by rw [List.length_append,f2,hl])
     exact ⟨w++u,by rw [hu,List.append_assoc],by rw [List.length_append,f2,hul]; omega⟩
    ·rw [if_neg (by omega)]
     exact ⟨[],by rw [List.append_nil],by simp; omega⟩
   ·rw [if_neg (by omega)]
    exact ⟨[],by rw [List.append_nil],by simp; omega⟩
 unfold Zal.g Zal.f
 have e1:Int.tmod (s.length:Int) 26=((s.length % 26:Nat):Int):=by
  have:Int.tmod (s.length:Int) 26=(s.length:Int) % 26:=Int.tmod_eq_emod_of_nonneg (by omega)
  rw [this]; omega
 have hk:s.length % 26 < 26:=Nat.mod_lt _ (by omega)
 rw [e1]
 have e2:IntKind.u8.wrap (97+IntKind.u8.wrap ((s.length % 26:Nat):Int))=((97+s.length % 26:Nat):Int):=by
  rw [w8u (x:=((s.length % 26:Nat):Int)) (by omega),w8u (by omega)]; omega
 rw [e2]
 have hb:bytesOf [((97+s.length % 26:Nat):Int)]=[UInt8.ofNat (97+s.length % 26)]:=rfl
 rw [hb]
 obtain ⟨u,h1,h2⟩:=loop (1000+s.length) (1000+s.length) 0 [UInt8.ofNat (97+s.length % 26)] (by omega) (by omega) (by omega) rfl
 exact ⟨u,h1,by omega⟩
abbrev twice:Str:=[95,116,119,105,99,101]
def okLb (s:Str):Prop:=labelOk s=true∧s.length≤8∧s≠twice
theorem fit13_ok (s:Str) (hs:s.length≤20):∃ r,Zaz.g s=some (r,())∧okLb r:=by
 obtain ⟨r,h1,h2,h3,_⟩:=fit13_label s (by omega)
 refine ⟨r,h1,h2,h3,fun e=>?_⟩
 subst e
 unfold Zaz.g Zaz.f at h1
 obtain ⟨t,ht,hl⟩:=fit07_x s (by omega)
 have hn:(UInt8.ofNat (97+s.length % 26)).toNat=97+s.length % 26:=by rw [UInt8.toNat_ofNat',Nat.mod_eq_of_lt (by omega)]
 rw [ht,Option.bind_some] at h1
 simp only [dt] at h1
 split at h1
 ·have e1:mn ((UInt8.ofNat (97+s.length % 26)::t).length:Int) 11=((UInt8.ofNat (97+s.length % 26)::t).length:Int):=by unfold mn; rw [if_neg (by simp; omega)]
  rw [e1,if_pos (by omega)] at h1
  simp only [Int.toNat_natCast,List.take_length,List.drop_zero] at h1
  split at h1
  ·simp only [Option.some.injEq,Prod.mk.injEq,and_true] at h1
   have h1:([95]++UInt8.ofNat (97+s.length % 26)::t:Str)=[95,116,119,105,99,101]:=h1
   simp only [List.cons_append,List.nil_append,List.cons.injEq,true_and] at h1
   have a1:=congrArg UInt8.toNat h1.1
   have a2:=congrArg List.length h1.2
   rw [hn] at a1
   simp at a1 a2
   omega
  ·cases h1
 ·simp only [Option.some.injEq,Prod.mk.injEq,and_true,List.cons.injEq] at h1
  have a1:=congrArg UInt8.toNat h1.1
  rw [hn] at a1
  simp at a1
  omega
theorem take_ok (s:Str) (hs:s.length≤9223372036854775807):0≤mn (s.length:Int) 20∧mn (s.length:Int) 20≤(s.length:Int)∧∃ r,Zaz.g ((s.take ((mn (s.length:Int) 20)).toNat).drop 0)=some (r,())∧okLb r:=by
 have hmn:0≤mn (s.length:Int) 20∧mn (s.length:Int) 20≤s.length∧mn (s.length:Int) 20≤20:=by unfold mn; split <;> omega
 obtain ⟨r,hr,hn⟩:=fit13_ok ((s.take ((mn (s.length:Int) 20)).toNat).drop 0) (by simp; omega)
 exact ⟨hmn.1,hmn.2.1,r,hr,hn⟩
abbrev smX (x:Ln):Sm:=⟨x.2.1.1,x.2.1.2.1,x.2.1.2.2.1,x.2.1.2.2.2.1,x.2.1.2.2.2.2.1,x.2.1.2.2.2.2.2.1,x.2.1.2.2.2.2.2.2.1,x.2.1.2.2.2.2.2.2.2.1⟩
def okLn (x:Ln):Prop:=(x.1=[]∨okLb x.1)∧∃ t,GoodS (smX x) t
theorem fitX_loop (a:List Ln) (ha:∀ x∈a,wfLn2 x) (n:Nat):∀ (m i:Nat) (out:List Ln),i≤a.length→i≤20→20 - i < m→out.length=i→(∀ x∈out,okLn x) →
  ∃ r:List Ln,Zak.l3 n m a out (i:Int)=some (r,())∧r.length≤20∧∀ x∈r,okLn x:=by
 intro m
 induction m with
 | zero=>intro i out _ _ h; omega
 | succ m ih=>
  intro i out hi h20 hm ho hout
  rw [Zak.l3]
  simp only [dt,Int.toNat_natCast]
  by_cases h:i < a.length
  ·rw [if_pos (by omega)]
   by_cases h2:i < 20
   ·rw [if_pos (by omega),if_pos (by omega)]
    have hmem:a.getD i zL∈a:=by rw [List.getD_eq_getElem?_getD,List.getElem?_eq_getElem h]; exact List.getElem_mem h
    obtain ⟨w1,⟨_,_,_,_,_,_,w2,w3,_⟩,_⟩:=ha _ hmem
    generalize a.getD i zL=x at w1 w2 w3
    obtain ⟨lb,⟨k,o,A,b,c,u,e,nm,_⟩,_⟩:=x
    dsimp only at w1 w2 w3 ⊢
    obtain ⟨s,t,hf,hg⟩:=fit17 ⟨k,o,A,b,c,u,e,nm⟩ ⟨wfLen w2.1,fun x hx=>⟨(wfU32 (w2.2 x hx).2.1).1,(wfU32 (w2.2 x hx).2.1).2,wfLen (w2.2 x hx).2.2.1⟩,wfLen w3⟩
    dsimp only at hf
    rw [hf,Option.bind_some]
    unfold smF
    dsimp only
    rw [if_pos (by omega)]
    have W1:IntKind.i64.wrap ((i:Int)+1)=((i+1:Nat):Int):=by rw [w64 (by omega)]; omega
    have J8:∀ lb',(lb'=[]∨okLb lb')→∃ r:List Ln,Zak.j8 n (Zak.l3 n m) a out (i:Int) lb' s.k s.o s.a s.b s.c s.u s.e s.nm=some (r,())∧r.length≤20∧∀ x∈r,okLn x:=fun lb' hl=>by
     unfold Zak.j8
     rw [if_pos (by simp; omega),W1]
     refine ih (i+1) _ (by omega) (by omega) (by omega) (by simp [ho]) fun y hy=>?_
     rcases List.mem_append.1 hy with hy | hy
     ·exact hout y hy
     ·rw [List.mem_singleton.1 hy]; exact ⟨hl,t,hg⟩
    obtain ⟨m1,m2,r,hr,hl⟩:=take_ok lb (wfLen w1)
    by_cases h3:(2:Int) < (lb.length:Int)
    ·rw [if_pos h3,if_pos (by omega),if_pos (by omega),if_pos ⟨m1,m2⟩,hr,Option.bind_some]
     exact J8 r (.inr hl)
    ·rw [if_neg h3]
     exact J8 [] (.inl rfl)
   ·rw [if_neg (by omega)]
    exact ⟨out,rfl,by omega,hout⟩
  ·rw [if_neg (by omega)]
   exact ⟨out,rfl,by omega,hout⟩
theorem fitX (a:List Ln) (ha:∀ x∈a,wfLn2 x):∃ r:List Ln,Zak.g a=some (r,())∧r.length≤20∧∀ x∈r,okLn x:=by
 unfold Zak.g Zak.f
 exact fitX_loop a ha _ _ 0 [] (by omega) (by omega) (by omega) rfl fun x hx=>by cases hx
theorem getD_ln' {a:List Ln} {i:Nat} (h:i < a.length):a.getD i zL∈a:=by
 rw [List.getD_eq_getElem?_getD,List.getElem?_eq_getElem h]; exact List.getElem_mem h
theorem post_good:∀ t:Tr,t.ok→∀ y∈t.post,goodItem y
 | .num n,h=>fun y hy=>by rw [show y=(1,n,[],()) from List.mem_singleton.1 hy]; exact ⟨h.1,h.2,rfl⟩
 | .nam s,h=>fun y hy=>by
  rw [show y=(2,0,s,()) from List.mem_singleton.1 hy]
  refine ⟨Int.le_refl _,(by decide:(0:Int)≤4294967295),?_⟩
  have h:labelOk s=true:=h
  unfold needsR
  dsimp only
  rw [if_neg (by decide),if_pos rfl,h]; rfl
 | .neg x,h=>fun y hy=>by
  rcases List.mem_append.1 hy with hy | hy
  ·exact post_good x h y hy
  ·rw [List.mem_singleton.1 hy]; exact ⟨Int.le_refl _,by decide,rfl⟩
 | .bin o a b,h=>fun y hy=>by
  rcases List.mem_append.1 hy with hy | hy
  ·rcases List.mem_append.1 hy with hy | hy
   ·exact post_good a h.1 y hy
   ·exact post_good b h.2 y hy
  ·rw [List.mem_singleton.1 hy]; cases o <;> exact ⟨Int.le_refl _,by decide,rfl⟩
 | .br x,h=>fun y hy=>post_good x h y hy
end Rv
namespace Rv
open Go
theorem labelOk_ne {s:Str} (h:labelOk s=true):s≠[]:=by
 intro e; subst e; revert h; decide
theorem findR_isSome {s:Str}:∀ {l:List Sym} {x:Sym},x∈l→x.1=s→(findR s l).isSome=true
 | y::l,x,hm,hs=>by
  unfold findR
  split
  ·rfl
  ·rename_i hne
   rcases List.mem_cons.1 hm with rfl | hm
   ·exact absurd hs hne
   ·exact findR_isSome hm hs
theorem enough_congr:∀ {a b:List Item} (t:Int),a.map needsR=b.map needsR→enough t a=enough t b
 | [],[],_,_=>rfl
 | [],_::_,_,h=>by simp at h
 | _::_,[],_,h=>by simp at h
 | x::a,y::b,t,h=>by
  simp only [List.map_cons,List.cons.injEq] at h
  unfold enough
  rw [h.1]
  split
  ·exact enough_congr _ h.2
  ·rfl
theorem set_needs {l:List Item} {i:Nat} {x:Item} (hi:i < l.length) (h:needsR x=needsR (l.getD i ((0:Int),((0:Int),(([]:Str),()))))):(l.set i x).map needsR=l.map needsR:=by
 rw [List.map_set,h]
 apply List.ext_getElem?
 intro j
 rw [List.getElem?_set]
 split
 ·rename_i e
  subst e
  simp [hi,List.getD_eq_getElem?_getD]
 ·rfl
theorem take_set {α:Type} {l:List α} {i:Nat} {x:α} (hi:i < l.length):(l.set i x).take (i+1)=l.take i++[x]:=by
 rw [List.take_succ_eq_append_getElem (by simpa using hi)]
 simp [List.take_set_of_le]
theorem named_loop (labels:List Sym) (hlab:labels.length≤100) (hg:∀ x∈labels,labelOk x.1=true∧x.1.length≤12) (n:Nat):∀ (m i:Nat) (out:List Item),i≤out.length→out.length≤19→out.length - i < m→(∀ x∈out,goodItem x)→(∀ x∈out,x.2.2.1.length≤12)→(∀ x∈out.take i,x.1=2→(findR x.2.2.1 labels).isSome=true) →
  ∃ r,Zao.l3 n m labels out (i:Int)=some (r,())∧r.map needsR=out.map needsR∧r.length=out.length∧(∀ x∈r,goodItem x)∧∀ x∈r,x.1=2→(findR x.2.2.1 labels).isSome=true:=by
 intro m
 induction m with
 | zero=>intro i out _ _ h; omega
 | succ m ih=>
  intro i out hi h19 hm hgo hnl ht
  simp only [Zao.l3,dt,Int.toNat_natCast]
  by_cases h1:i < out.length
  ·have hmem:out.getD i ((0:Int),((0:Int),(([]:Str),())))∈out:=by
    rw [List.getD_eq_getElem?_getD,List.getElem?_eq_getElem h1]; exact List.getElem_mem h1
   have hgx:=hgo _ hmem
   have hnx:=hnl _ hmem
   have htk:out.take (i+1)=out.take i++[out.getD i ((0:Int),((0:Int),(([]:Str),())))]:=by
    rw [List.take_succ_eq_append_getElem h1,List.getD_eq_getElem?_getD,List.getElem?_eq_getElem h1]; rfl
   rw [if_pos (by omega),if_pos (by omega)]
   have put:∀ x:Item,needsR x=needsR (out.getD i ((0:Int),((0:Int),(([]:Str),()))))→goodItem x→x.2.2.1.length≤12→(x.1=2→(findR x.2.2.1 labels).isSome=true)→∃ r,Zao.j4 n (Zao.l3 n m) labels (out.set i x) (i:Int)=some (r,())∧r.map needsR=out.map needsR∧r.length=out.length∧(∀ x∈r,goodItem x)∧∀ x∈r,x.1=2→(findR x.2.2.1 labels).isSome=true:=by
    intro x hx hxg hxn hxf
    unfold Zao.j4
    rw [w64 (by omega)]
    obtain ⟨r,h1',h2',h3',h4',h5'⟩:=ih (i+1) (out.set i x) (by simp; omega) (by simp; omega) (by simp; omega) (fun y hy=>by
      rcases List.mem_or_eq_of_mem_set hy with hy | rfl
      ·exact hgo y hy
      ·exact hxg) (fun y hy=>by
      rcases List.mem_or_eq_of_mem_set hy with hy | rfl
      ·exact hnl y hy
      ·exact hxn) (fun y hy=>by
      rw [take_set h1] at hy
      rcases List.mem_append.1 hy with hy | hy
      ·exact ht y hy
      ·rw [List.mem_singleton] at hy; subst hy; exact hxf)
    exact ⟨r,h1',by rw [h2',set_needs h1 hx],by rw [h3',List.length_set],h4',h5'⟩
   generalize hxe:out.getD i ((0:Int),((0:Int),(([]:Str),())))=x at *
   by_cases h2:x.1=2
   ·rw [if_neg (by simpa using h2)]
    have hn:needsR x=(0,true):=by
     have h3:=hgx.2.2
     unfold needsR at h3 ⊢
     rw [if_neg (by omega),if_pos h2] at h3 ⊢
     simp only at h3
     rw [h3]
    by_cases h0:labels.length=0
    ·rw [if_pos (by omega),if_pos (by omega),if_pos (by omega)]
     refine put _ ?_ ?_ ?_ ?_
     ·rw [hn]; rfl
     ·exact ⟨(u32_range _).1,(u32_range _).2,rfl⟩
     ·simp
     ·intro h; simp at h
    ·have hx1:IntKind.i64.wrap ((i:Int)+(x.2.2.1.length:Int))=((i+x.2.2.1.length:Nat):Int):=by rw [w64 (by omega)]; omega
     have hx2:Int.tmod ((i+x.2.2.1.length:Nat):Int) (labels.length:Int)=(((i+x.2.2.1.length) % labels.length:Nat):Int):=by
      rw [Int.tmod_eq_emod_of_nonneg (by omega)]; omega
     have hx3:(i+x.2.2.1.length) % labels.length < labels.length:=Nat.mod_lt _ (by omega)
     rw [if_neg (by omega),if_pos (by omega),if_neg (by omega),hx1,hx2,if_pos (by omega),if_pos (by omega),Int.toNat_natCast]
     have hlm:labels.getD ((i+x.2.2.1.length) % labels.length) (([]:Str),((0:Int),()))∈labels:=by
      rw [List.getD_eq_getElem?_getD,List.getElem?_eq_getElem hx3]; exact List.getElem_mem hx3
     generalize labels.getD ((i+x.2.2.1.length) % labels.length) (([]:Str),((0:Int),()))=y at hlm ⊢
     obtain ⟨g1,g2⟩:=hg y hlm
     have hx0:x.2.1=0:=by
      have h3:=hgx.2.2
      unfold needsR at h3
      rw [if_neg (by omega),if_pos h2] at h3
      simp only [Bool.and_eq_true,decide_eq_true_eq] at h3
      exact h3.1
     have hy:needsR (x.1,x.2.1,y.1,())=(0,true):=by
      unfold needsR
      dsimp only
      rw [if_neg (by omega),if_pos h2,hx0,g1]; rfl
     refine put _ ?_ ?_ ?_ ?_
     ·rw [hn,hy]
     ·exact ⟨hgx.1,hgx.2.1,by rw [hy]⟩
     ·show y.1.length≤12; omega
     ·intro _; exact findR_isSome hlm rfl
   ·rw [if_pos (by simpa using h2)]
    unfold Zao.j4
    rw [w64 (by omega)]
    obtain ⟨r,h1',h2',h3',h4',h5'⟩:=ih (i+1) out (by omega) h19 (by omega) hgo hnl (fun y hy=>by
      rw [htk] at hy
      rcases List.mem_append.1 hy with hy | hy
      ·exact ht y hy
      ·rw [List.mem_singleton] at hy; subst hy; exact fun h=>absurd h h2)
    exact ⟨r,h1',h2',h3',h4',h5'⟩
  ·rw [if_neg (by omega)]
   have:out.take i=out:=List.take_of_length_le (by omega)
   rw [this] at ht
   exact ⟨out,rfl,rfl,rfl,hgo,ht⟩
theorem good_len {x:Item} (h:goodItem x):x.2.2.1.length≤12:=by
 have h3:=h.2.2
 unfold needsR at h3
 split at h3
 ·simp only [decide_eq_true_eq] at h3; rw [h3]; simp
 ·split at h3
  ·simp only [Bool.and_eq_true] at h3
   have:=h3.2
   unfold labelOk at this
   simp only [Bool.and_eq_true,decide_eq_true_eq] at this
   exact this.1.1.1.2
  ·split at h3
   ·simp only [Bool.and_eq_true,decide_eq_true_eq] at h3; rw [h3.2]; simp
   ·split at h3
    ·simp only [Bool.and_eq_true,decide_eq_true_eq] at h3; rw [h3.2]; simp
    ·cases h3
theorem named_eq (l:List Item) (hl:l.length≤9223372036854775807) (hw:wfItems l) (labels:List Sym) (hlab:labels.length≤100) (hg:∀ x∈labels,labelOk x.1=true∧x.1.length≤12) :
  ∃ e,Zao.g l labels=some (e,())∧wellL e∧e.length≤19∧(∀ x∈e,goodItem x)∧∀ x∈e,x.1=2→(findR x.2.2.1 labels).isSome=true:=by
 unfold Zao.g Zao.f
 obtain ⟨r,hr,hwell,hlen,hgood⟩:=fit15_eq l hl hw
 rw [hr,Option.bind_some]
 obtain ⟨e,h1,h2,h3,h4,h5⟩:=named_loop labels hlab hg (1000+l.length+labels.length) (1000+l.length+labels.length) 0 r (by omega) hlen (by omega) hgood (fun x hx=>good_len (hgood x hx)) (fun x hx=>by simp at hx)
 refine ⟨e,h1,?_,by omega,h4,h5⟩
 unfold wellL
 rw [enough_congr 0 h2]
 exact hwell
end Rv
namespace Rv
open Go
def lnLabs (l:List Ln):List Str:=(l.map (·.1)).filter fun s=>decide (s≠[])
theorem lnLabs_app (a b:List Ln):lnLabs (a++b)=lnLabs a++lnLabs b:=by unfold lnLabs; rw [List.map_append,List.filter_append]
theorem lnLabs_none {x:Ln} (h:x.1=[]):lnLabs [x]=[]:=by simp [lnLabs,h]
theorem lnLabs_one {x:Ln} (h:x.1≠[]):lnLabs [x]=[x.1]:=by simp [lnLabs,h]
theorem lnLabs_map {a b:List Ln} (h:a.map (·.1)=b.map (·.1)):lnLabs a=lnLabs b:=by unfold lnLabs; rw [h]
theorem f20_a (a:List Ln) (ha:∀ x∈a,okLn x) (n:Nat):∀ (m i:Nat) (out:List Ln) (lb:List Sym),i≤a.length→i≤20→20 - i < m→out.length=i→lb.length≤i→lb.map (·.1)=lnLabs out→(lnLabs out).Nodup→(∀ x∈out,okLn x) →
  ∃ (out':List Ln) (lb':List Sym),Zaa.l4 n m a out lb (i:Int)=Zaa.l14 n n out' lb' 0∧out'.length≤20∧lb'.length≤20∧lb'.map (·.1)=lnLabs out'∧(lnLabs out').Nodup∧∀ x∈out',okLn x:=by
 intro m
 induction m with
 | zero=>intro i out lb _ _ h; omega
 | succ m ih=>
  intro i out lb hi h20 hm ho hlb hls hnd hout
  rw [Zaa.l4]
  simp only [dt,Int.toNat_natCast]
  by_cases h:i < a.length
  ·rw [if_pos (by omega)]
   by_cases h2:i < 20
   ·have hx:=ha _ (getD_ln' h)
    rw [if_pos (by omega),if_pos (by omega),find16_eq lb _ (by omega),Option.bind_some]
    generalize a.getD i zL=x at hx
    have W1:IntKind.i64.wrap ((i:Int)+1)=((i+1:Nat):Int):=by rw [w64 (by omega)]; omega
    have J:∀ s:Str,(s=[]∨okLb s)→(s≠[]→s ∉ lnLabs out)→∃ (out':List Ln) (lb':List Sym),Zaa.j10 n (Zaa.l4 n m) a out lb (i:Int) s x.2.1.1 x.2.1.2.1 x.2.1.2.2.1 x.2.1.2.2.2.1 x.2.1.2.2.2.2.1 x.2.1.2.2.2.2.2.1 x.2.1.2.2.2.2.2.2.1 x.2.1.2.2.2.2.2.2.2.1=Zaa.l14 n n out' lb' 0∧out'.length≤20∧lb'.length≤20∧lb'.map (·.1)=lnLabs out'∧(lnLabs out').Nodup∧∀ x∈out',okLn x:=by
     intro s hs hns
     unfold Zaa.j10 Zaa.j12
     rw [W1]
     have hok:okLn (s,(x.2.1.1,x.2.1.2.1,x.2.1.2.2.1,x.2.1.2.2.2.1,x.2.1.2.2.2.2.1,x.2.1.2.2.2.2.2.1,x.2.1.2.2.2.2.2.2.1,x.2.1.2.2.2.2.2.2.2.1,()),()):=⟨hs,hx.2⟩
     generalize hl:((s,(x.2.1.1,x.2.1.2.1,x.2.1.2.2.1,x.2.1.2.2.2.1,x.2.1.2.2.2.2.1,x.2.1.2.2.2.2.2.1,x.2.1.2.2.2.2.2.2.1,x.2.1.2.2.2.2.2.2.2.1,()),()):Ln)=y at hok
     have hy:y.1=s:=by rw [← hl]
     have hout':∀ z∈out++[y],okLn z:=fun z hz=>by
      rcases List.mem_append.1 hz with hz | hz
      ·exact hout z hz
      ·rw [List.mem_singleton.1 hz]; exact hok
     by_cases he:s=[]
     ·rw [if_neg (by simpa using he),if_pos (by simp; omega)]
      have e:lnLabs (out++[y])=lnLabs out:=by rw [lnLabs_app,lnLabs_none (by rw [hy]; exact he),List.append_nil]
      exact ih (i+1) _ lb (by omega) (by omega) (by omega) (by simp [ho]) (by omega) (by rw [e]; exact hls) (by rw [e]; exact hnd) hout'
     ·rw [if_pos (by simpa using he),if_pos (by simp; omega),if_pos (by simp; omega)]
      have e:lnLabs (out++[y])=lnLabs out++[s]:=by rw [lnLabs_app,lnLabs_one (by rw [hy]; exact he),hy]
      refine ih (i+1) _ _ (by omega) (by omega) (by omega) (by simp [ho]) (by simp; omega) (by rw [e,List.map_append,hls]; rfl) ?_ hout'
      rw [e,List.nodup_append]
      refine ⟨hnd,by simp,fun u hu v hv=>?_⟩
      rw [List.mem_singleton.1 hv]
      intro huv; subst huv; exact hns he hu
    dsimp only
    by_cases hf:(findR x.1 lb).isSome=true
    ·rw [if_pos hf]
     exact J [] (.inl rfl) (fun h=>absurd rfl h)
    ·rw [if_neg hf]
     refine J x.1 hx.1 fun _ hm=>?_
     rw [← hls] at hm
     exact findR_mem (by simpa using hf) hm
   ·rw [if_neg (by omega)]
    exact ⟨out,lb,rfl,by omega,by omega,hls,hnd,hout⟩
  ·rw [if_neg (by omega)]
   exact ⟨out,lb,rfl,by omega,by omega,hls,hnd,hout⟩
theorem getD_set_eq {α:Type} {l:List α} {i:Nat} {x d:α} (h:i < l.length):(l.set i x).getD i d=x:=by
 simp [List.getD_eq_getElem?_getD,h]
theorem getD_set_ne {α:Type} {l:List α} {i j:Nat} {x d:α} (h:i≠j):(l.set i x).getD j d=l.getD j d:=by
 simp [List.getD_eq_getElem?_getD,List.getElem?_set_ne h]
theorem map_set_at {α β:Type} {l:List α} {i:Nat} {x d:α} {f:α→β} (hi:i < l.length) (h:f x=f (l.getD i d)):(l.set i x).map f=l.map f:=by
 rw [List.map_set,h]
 apply List.ext_getElem?
 intro j
 rw [List.getElem?_set]
 split
 ·rename_i e
  subst e
  simp [hi,List.getD_eq_getElem?_getD]
 ·rfl
def nearX (lb:List Sym) (x:Ln):Prop:=
 okLn x∧(eL x).length≤19∧(∀ y∈eL x,y.2.1 < 50)∧(∀ y∈eL x,y.1=2→(findR y.2.2.1 lb).isSome=true)∧(x.2.1.1=10→(findR x.2.1.2.2.2.2.2.2.2.1 lb).isSome=true) ∧
  ((x.2.1.1=7∨x.2.1.1=8)→lb≠[]→∃ s,(findR s lb).isSome=true∧eL x=[(2,0,s,())])
def md (y:Item):Item:=(y.1,Int.tmod y.2.1 50,y.2.2.1,())
theorem md_needs {y:Item} (h:goodItem y):needsR (md y)=needsR y∧0≤(md y).2.1∧(md y).2.1 < 50:=by
 have e:(md y).2.1=y.2.1 % 50:=Int.tmod_eq_emod_of_nonneg h.1
 refine ⟨?_,by rw [e]; omega,by rw [e]; omega⟩
 have hb:=h.2.2
 have h0:y.2.1=0→(md y).2.1=0:=fun h0=>by rw [e,h0]; rfl
 unfold needsR at hb ⊢
 show (if y.1=1 then _ else if y.1=2 then (0,decide ((md y).2.1=0) && labelOk y.2.2.1) else if y.1=3 then (1,decide ((md y).2.1=0) && decide (y.2.2.1=[])) else if y.1=4∨y.1=5∨y.1=6 then (2,decide ((md y).2.1=0) && decide (y.2.2.1=[])) else _)=_
 by_cases h1:y.1=1
 ·rw [if_pos h1,if_pos h1]; rfl
 ·rw [if_neg h1] at hb
  rw [if_neg h1,if_neg h1]
  by_cases h2:y.1=2
  ·rw [if_pos h2] at hb
   simp only [Bool.and_eq_true,decide_eq_true_eq] at hb
   rw [if_pos h2,if_pos h2,h0 hb.1,hb.1]
  ·rw [if_neg h2] at hb
   rw [if_neg h2,if_neg h2]
   by_cases h3:y.1=3
   ·rw [if_pos h3] at hb
    simp only [Bool.and_eq_true,decide_eq_true_eq] at hb
    rw [if_pos h3,if_pos h3,h0 hb.1,hb.1]
   ·rw [if_neg h3] at hb
    rw [if_neg h3,if_neg h3]
    by_cases h4:y.1=4∨y.1=5∨y.1=6
    ·rw [if_pos h4] at hb
     simp only [Bool.and_eq_true,decide_eq_true_eq] at hb
     rw [if_pos h4,if_pos h4,h0 hb.1,hb.1]
    ·rw [if_neg h4,if_neg h4]
theorem l20_eq (n:Nat) (rl) (a:List Ln) (b:List Sym) (c k o A B C:Int) (u:Bool) (e0:List Item) (nm:Str):∀ (m i:Nat) (d:List Item),i≤d.length→d.length≤19→d.length - i < m →
  Zaa.l20 n rl m a b c d (i:Int) k o A B C u e0 nm=Zaa.l20 n rl 1 a b c (d.take i++(d.drop i).map md) (d.length:Int) k o A B C u e0 nm:=by
 intro m
 induction m with
 | zero=>intro i d _ _ h; omega
 | succ m ih=>
  intro i d hi h19 hm
  by_cases h:i < d.length
  ·have hd:d.drop i=d.getD i zI::d.drop (i+1):=by
    rw [List.drop_eq_getElem_cons h,List.getD_eq_getElem?_getD,List.getElem?_eq_getElem h]; rfl
   conv=>lhs; rw [Zaa.l20]
   simp only [dt,Int.toNat_natCast]
   rw [if_pos (by omega),if_pos (by omega),if_pos (by omega),w64 (by omega),show (i:Int)+1=((i+1:Nat):Int) by omega]
   show Zaa.l20 n rl m a b c (d.set i (md (d.getD i zI))) ((i+1:Nat):Int) k o A B C u e0 nm=_
   rw [ih (i+1) _ (by simp; omega) (by simp; omega) (by simp; omega),take_set h,List.length_set,List.drop_set_of_lt (by omega),hd]
   simp
  ·obtain rfl:i=d.length:=by omega
   have e:d.take d.length++(d.drop d.length).map md=d:=by simp
   rw [e]
   conv=>lhs; rw [Zaa.l20]
   conv=>rhs; rw [Zaa.l20]
   simp only [dt]
   rw [if_neg (show ¬ ((d.length:Int) < (d.length:Int)) by omega),if_neg (show ¬ ((d.length:Int) < (d.length:Int)) by omega)]
theorem setE {s:Sm} {t0 t':Tr} (h:GoodS s (some t0)) (ht:okT' t'):GoodS ⟨s.k,s.o,s.a,s.b,s.c,s.u,t'.post,s.nm⟩ (some t'):=by
 cases h with
 | ins1 h hk _=>exact .ins1 h hk ht
 | load h _=>exact .load h ht
 | word _=>exact .word ht
theorem good_kind {s:Sm} {t0:Tr} (h:GoodS s (some t0)):s.k≠10:=by
 cases h with
 | @ins1 k o a b c u t h hk _=>exact (by omega:k≠10)
 | load h _=>exact (by decide:(8:Int)≠10)
 | word _=>exact (by decide:(9:Int)≠10)
theorem noI {p:Item→Prop}:∀ y∈([]:List Item),p y:=fun y hy=>by cases hy
theorem name_of {s:Str} (h:labelOk s=true) (h2:bt s 0≠95):nameOk s=true:=by
 unfold labelOk at h
 simp only [Bool.and_eq_true,decide_eq_true_eq] at h
 obtain ⟨⟨⟨⟨h1,h3⟩,h4⟩,h5⟩,h6⟩:=h
 unfold nameOk
 simp only [Bool.and_eq_true,decide_eq_true_eq]
 refine ⟨⟨⟨⟨h1,h3⟩,?_⟩,h6⟩,h5⟩
 match s,h1 with
 | c::r,_=>
  have hw:isW c=true:=(List.all_eq_true.1 h5) c (by simp)
  have h2:¬ ((c.toNat:Int)=95):=h2
  unfold isW at hw
  rw [isA_L] at hw
  have hd:isD c=false:=by simpa using h4
  rw [hd] at hw
  have h95:decide (c.toNat=95)=false:=by rw [decide_eq_false_iff_not]; omega
  rw [h95] at hw
  simpa using hw
theorem f20_b (lb:List Sym) (hlb:lb.length≤20) (hg:∀ x∈lb,okLb x.1) (n:Nat) (hn:100≤n):∀ (m i:Nat) (out:List Ln),i≤out.length→out.length≤20→out.length - i < m→(∀ x∈out,okLn x)→(∀ j,j < i→nearX lb (out.getD j zL)) →
  ∃ r:List Ln,Zaa.l14 n m out lb (i:Int)=some (r,())∧r.map (·.1)=out.map (·.1)∧r.length=out.length∧∀ j,j < r.length→nearX lb (r.getD j zL):=by
 intro m
 induction m with
 | zero=>intro i out _ _ h; omega
 | succ m ih=>
  intro i out hi h20 hm hout hnear
  rw [Zaa.l14]
  simp only [dt,Int.toNat_natCast]
  by_cases h:i < out.length
  ·have hx:=hout _ (getD_ln' h)
   rw [if_pos (by omega),if_pos (by omega)]
   have W1:IntKind.i64.wrap ((i:Int)+1)=((i+1:Nat):Int):=by rw [w64 (by omega)]; omega
   have J36:∀ (k o A B C:Int) (u:Bool) (e:List Item) (nm:Str),nearX lb ((out.getD i zL).1,(k,o,A,B,C,u,e,nm,()),())→∃ r:List Ln,Zaa.j36 n (Zaa.l14 n m) out lb (i:Int) k o A B C u e nm=some (r,())∧r.map (·.1)=out.map (·.1)∧r.length=out.length∧∀ j,j < r.length→nearX lb (r.getD j zL):=by
    intro k o A B C u e nm hN
    unfold Zaa.j36
    rw [if_pos (by omega),Int.toNat_natCast,W1]
    obtain ⟨r,h1,h2,h3,h4⟩:=ih (i+1) (out.set i ((out.getD i zL).1,(k,o,A,B,C,u,e,nm,()),())) (by simp; omega) (by simp; omega) (by simp; omega) (fun y hy=>by
     rcases List.mem_or_eq_of_mem_set hy with hy | rfl
     ·exact hout y hy
     ·exact hN.1) (fun j hj=>by
     by_cases hij:i=j
     ·subst hij; rw [getD_set_eq h]; exact hN
     ·rw [getD_set_ne hij]; exact hnear j (by omega))
    exact ⟨r,h1,by rw [h2]; exact map_set_at (d:=zL) h rfl,by rw [h3,List.length_set],h4⟩
   generalize hxe:out.getD i zL=x at hx J36
   obtain ⟨hl,t,hgs⟩:=hx
   cases t with
   | none=>
    have he:eL x=[]:=(good_elen hgs).2.1
    have he':x.2.1.2.2.2.2.2.2.1=[]:=he
    rw [he',if_neg (by simp)]
    unfold Zaa.j27
    by_cases h10:x.2.1.1=10
    ·rw [if_pos (by simpa using h10)]
     have l30:∀ (q m' d:Nat) (nm:Str),d≤lb.length→lb.length - d < m'→(nm=[]∨(nameOk nm=true∧(findR nm lb).isSome=true)) →
       ∃ r:List Ln,Zaa.l30 n (Zaa.l14 n m) m' out lb (i:Int) (d:Int) x.2.1.1 x.2.1.2.1 x.2.1.2.2.1 x.2.1.2.2.2.1 x.2.1.2.2.2.2.1 x.2.1.2.2.2.2.2.1 [] nm=some (r,())∧r.map (·.1)=out.map (·.1)∧r.length=out.length∧∀ j,j < r.length→nearX lb (r.getD j zL):=by
      intro q m'
      induction m' with
      | zero=>intro d nm _ h; omega
      | succ m' ih2=>
       intro d nm hd hm' hnm
       rw [Zaa.l30]
       simp only [dt,Int.toNat_natCast]
       by_cases hd2:d < lb.length
       ·have hmem:lb.getD d (([]:Str),((0:Int),()))∈lb:=by
         rw [List.getD_eq_getElem?_getD,List.getElem?_eq_getElem hd2]; exact List.getElem_mem hd2
        have hy:=hg _ hmem
        have hfy:=findR_isSome hmem rfl
        generalize lb.getD d (([]:Str),((0:Int),()))=y at hy hfy
        have hy0:=labelOk_ne hy.1
        have hyl:0 < y.1.length:=List.length_pos_iff.2 hy0
        have W2:IntKind.i64.wrap ((d:Int)+1)=((d+1:Nat):Int):=by rw [w64 (by omega)]; omega
        have J31:∀ nm',(nm'=[]∨(nameOk nm'=true∧(findR nm' lb).isSome=true))→∃ r:List Ln,Zaa.j31 n (Zaa.l14 n m) (Zaa.l30 n (Zaa.l14 n m) m') out lb (i:Int) (d:Int) x.2.1.1 x.2.1.2.1 x.2.1.2.2.1 x.2.1.2.2.2.1 x.2.1.2.2.2.2.1 x.2.1.2.2.2.2.2.1 [] nm'=some (r,())∧r.map (·.1)=out.map (·.1)∧r.length=out.length∧∀ j,j < r.length→nearX lb (r.getD j zL):=fun nm' hn'=>by
         unfold Zaa.j31
         rw [W2]
         exact ih2 (d+1) nm' (by omega) (by omega) hn'
        rw [if_pos (by omega),if_pos (by omega),if_pos (by omega)]
        by_cases h95:bt y.1 0≠95
        ·rw [if_pos h95]
         by_cases hq:nm=[]
         ·rw [if_pos hq,if_pos (by omega)]
          exact J31 y.1 (.inr ⟨name_of hy.1 h95,hfy⟩)
         ·rw [if_neg hq]
          exact J31 nm hnm
        ·rw [if_neg h95]
         exact J31 nm hnm
       ·rw [if_neg (by omega)]
        by_cases hq:nm=[]
        ·rw [if_pos hq]
         exact J36 0 0 0 0 0 false [] [] ⟨⟨hl,none,.none⟩,Nat.zero_le _,noI,noI,fun h=>absurd (show (0:Int)=10 from h) (by decide),fun h=>absurd (show (0:Int)=7∨(0:Int)=8 from h) (by decide)⟩
        ·rw [if_neg hq]
         obtain ⟨hq1,hq2⟩:=hnm.resolve_left hq
         refine J36 x.2.1.1 x.2.1.2.1 x.2.1.2.2.1 x.2.1.2.2.2.1 x.2.1.2.2.2.2.1 x.2.1.2.2.2.2.2.1 [] nm ⟨⟨hl,none,?_⟩,Nat.zero_le _,noI,noI,fun _=>hq2,fun h=>absurd (show x.2.1.1=7∨x.2.1.1=8 from h) (by omega)⟩
         have:∀ s:Sm,GoodS s none→s.k=10→GoodS ⟨s.k,s.o,s.a,s.b,s.c,s.u,[],nm⟩ none:=fun s hs hk=>by
          cases hs with
          | none=>simp at hk
          | ins0 h hk2=>simp only at hk; omega
          | exp _=>exact .exp hq1
         exact this _ hgs h10
     exact l30 0 n 0 [] (by omega) (by omega) (.inl rfl)
    ·rw [if_neg (by simpa using h10)]
     refine J36 _ _ _ _ _ _ _ _ ⟨⟨hl,none,by rw [← he']; exact hgs⟩,Nat.zero_le _,noI,noI,fun h=>absurd h h10,fun h=>?_⟩
     exfalso
     have:∀ s:Sm,GoodS s none→¬ (s.k=7∨s.k=8):=fun s hs=>by
      cases hs with
      | none=>simp
      | ins0 h hk2=>simp only; omega
      | exp _=>simp
     exact this _ hgs h
   | some t0=>
    have he:eL x=t0.post:=(good_elen hgs).2.1
    have ht0:=(good_elen hgs).2.2 t0 rfl
    have he':x.2.1.2.2.2.2.2.2.1=t0.post:=he
    have hk10:x.2.1.1≠10:=good_kind hgs
    have hpos:=t0.post_pos
    have hgood:=post_good t0 ht0.1
    obtain ⟨e1,n1,n2,n3,n4,n5⟩:=named_eq t0.post (by have:=ht0.2.2.2; omega) (fun y hy=>⟨(hgood y hy).1,(hgood y hy).2.1,by have:=good_len (hgood y hy); omega⟩) lb (by omega) (fun y hy=>⟨(hg y hy).1,by have:=(hg y hy).2.1; omega⟩)
    rw [he',if_pos (by omega),n1,Option.bind_some]
    dsimp only
    have hl20:=l20_eq n (Zaa.l14 n m) out lb (i:Int) x.2.1.1 x.2.1.2.1 x.2.1.2.2.1 x.2.1.2.2.2.1 x.2.1.2.2.2.2.1 x.2.1.2.2.2.2.2.1 t0.post x.2.1.2.2.2.2.2.2.2.1 n 0 e1 (by omega) n3 (by omega)
    rw [show ((0:Nat):Int)=0 from rfl,List.take_zero,List.drop_zero,List.nil_append] at hl20
    rw [hl20]
    have q1:∀ y∈e1.map md,goodItem y∧y.2.1 < 50∧(y.1=2→(findR y.2.2.1 lb).isSome=true):=fun y hy=>by
     obtain ⟨z,hz,rfl⟩:=List.mem_map.1 hy
     obtain ⟨g1,g2,g3⟩:=md_needs (n4 z hz)
     exact ⟨⟨g2,by omega,by rw [g1]; exact (n4 z hz).2.2⟩,g3,n5 z hz⟩
    have q2:wellL (e1.map md):=by
     unfold wellL
     rw [enough_congr 0 (b:=e1)]
     ·exact n2
     ·rw [List.map_map]; exact List.map_congr_left fun y hy=>(md_needs (n4 y hy)).1
    have q3:(e1.map md).length≤19:=by rw [List.length_map]; exact n3
    have hlen:(e1.length:Int)=((e1.map md).length:Int):=by rw [List.length_map]
    rw [hlen]
    generalize e1.map md=e2 at q1 q2 q3
    have fin:∀ e,wellL e→e.length≤19→(∀ y∈e,goodItem y∧y.2.1 < 50∧(y.1=2→(findR y.2.2.1 lb).isSome=true))→((x.2.1.1=7∨x.2.1.1=8)→lb≠[]→∃ s,(findR s lb).isSome=true∧e=[(2,0,s,())]) →
      ∃ r:List Ln,Zaa.j26 n (Zaa.l14 n m) out lb (i:Int) e x.2.1.1 x.2.1.2.1 x.2.1.2.2.1 x.2.1.2.2.2.1 x.2.1.2.2.2.2.1 x.2.1.2.2.2.2.2.1 t0.post x.2.1.2.2.2.2.2.2.2.1=some (r,())∧r.map (·.1)=out.map (·.1)∧r.length=out.length∧∀ j,j < r.length→nearX lb (r.getD j zL):=by
     intro e w1 w2 w3 w4
     unfold Zaa.j26 Zaa.j27
     rw [if_neg (by simpa using hk10)]
     obtain ⟨t',rfl,p1,p2⟩:=tree_of w1 fun y hy=>(w3 y hy).1
     exact J36 _ _ _ _ _ _ _ _ ⟨⟨hl,some t',setE hgs ⟨p1,p2,w1,by omega⟩⟩,w2,fun y hy=>(w3 y hy).2.1,fun y hy=>(w3 y hy).2.2,fun h=>absurd h hk10,w4⟩
    have J24:∀ jump:Bool,((x.2.1.1=7∨x.2.1.1=8)→jump=true)→∃ r:List Ln,Zaa.j24 n (Zaa.l14 n m) out lb (i:Int) e2 jump x.2.1.1 x.2.1.2.1 x.2.1.2.2.1 x.2.1.2.2.2.1 x.2.1.2.2.2.2.1 x.2.1.2.2.2.2.2.1 t0.post x.2.1.2.2.2.2.2.2.2.1=some (r,())∧r.map (·.1)=out.map (·.1)∧r.length=out.length∧∀ j,j < r.length→nearX lb (r.getD j zL):=by
     intro jump hj
     unfold Zaa.j24
     simp only [dt]
     by_cases hjt:jump=true
     ·rw [if_pos hjt]
      by_cases hl0:0 < lb.length
      ·have ht:Int.tmod (e2.length:Int) (lb.length:Int)=((e2.length % lb.length:Nat):Int):=by
        rw [Int.tmod_eq_emod_of_nonneg (by omega)]; omega
       have hlt:e2.length % lb.length < lb.length:=Nat.mod_lt _ hl0
       rw [if_pos (by omega),if_neg (by omega),ht,if_pos (by omega),Int.toNat_natCast]
       have hmem:lb.getD (e2.length % lb.length) (([]:Str),((0:Int),()))∈lb:=by
        rw [List.getD_eq_getElem?_getD,List.getElem?_eq_getElem hlt]; exact List.getElem_mem hlt
       generalize lb.getD (e2.length % lb.length) (([]:Str),((0:Int),()))=y at hmem
       have hfy:=findR_isSome hmem rfl
       have hgi:goodItem ((2:Int),0,y.1,()):=⟨Int.le_refl _,(by decide:(0:Int)≤4294967295),by
        unfold needsR; dsimp only; rw [if_neg (by decide),if_pos rfl,(hg y hmem).1]; rfl⟩
       refine fin _ ?_ (by simp) (fun z hz=>?_) (fun _ _=>⟨y.1,hfy,rfl⟩)
       ·show enough 0 [((2:Int),0,y.1,())]=some 1
        have hn:needsR ((2:Int),0,y.1,())=(0,true):=by
         unfold needsR; dsimp only; rw [if_neg (by decide),if_pos rfl,(hg y hmem).1]; rfl
        unfold enough
        rw [hn]; rfl
       ·rw [List.mem_singleton.1 hz]; exact ⟨hgi,(by decide:(0:Int) < 50),fun _=>hfy⟩
      ·rw [if_neg (by omega)]
       exact fin e2 q2 q3 q1 fun _ hne=>absurd (List.length_eq_zero_iff.1 (by omega)) hne
     ·rw [if_neg hjt]
      exact fin e2 q2 q3 q1 fun hk _=>absurd (hj hk) hjt
    rw [Zaa.l20]
    simp only [dt,df]
    rw [if_neg (by omega)]
    by_cases h7:x.2.1.1=7
    ·rw [if_neg (by simpa using h7)]; exact J24 true fun _=>rfl
    ·rw [if_pos h7]
     by_cases h8:x.2.1.1=8
     ·rw [if_neg (by simpa using h8)]; exact J24 true fun _=>rfl
     ·rw [if_pos h8]
      by_cases h9:x.2.1.1=9
      ·rw [if_pos h9]; exact J24 _ fun hk=>by omega
      ·rw [if_neg h9]; exact J24 false fun hk=>by omega
  ·obtain rfl:i=out.length:=by omega
   rw [if_neg (by omega)]
   exact ⟨out,rfl,rfl,rfl,hnear⟩
structure Near (w:List Ln):Prop where
 len:w.length≤20
 nd:(lnLabs w).Nodup
 ln:∃ lb:List Sym,lb.map (·.1)=lnLabs w∧∀ x∈w,nearX lb x
theorem fit20 (a:List Ln) (ha:∀ x∈a,okLn x):∃ w,Zaa.g a=some (w,())∧Near w:=by
 unfold Zaa.g Zaa.f
 obtain ⟨out,lb,h1,h2,h3,h4,h5,h6⟩:=f20_a a ha (1000+a.length) (1000+a.length) 0 [] [] (by omega) (by omega) (by omega) rfl (by simp) rfl (by simp [lnLabs]) (fun x hx=>by cases hx)
 have hlb:∀ x∈lb,okLb x.1:=fun x hx=>by
  have hm:x.1∈lnLabs out:=by rw [← h4]; exact List.mem_map_of_mem hx
  unfold lnLabs at hm
  rw [List.mem_filter] at hm
  obtain ⟨hm,hne⟩:=hm
  obtain ⟨y,hy,hxy⟩:=List.mem_map.1 hm
  rw [← hxy] at hne ⊢
  exact (h6 y hy).1.resolve_left (by simpa using hne)
 obtain ⟨r,g1,g2,g3,g4⟩:=f20_b lb h3 hlb (1000+a.length) (by omega) (1000+a.length) 0 out (by omega) h2 (by omega) h6 (fun j hj=>by omega)
 refine ⟨r,h1.trans g1,by omega,by rw [lnLabs_map g2]; exact h5,lb,by rw [lnLabs_map g2]; exact h4,fun x hx=>?_⟩
 obtain ⟨j,hj,rfl⟩:=List.getElem_of_mem hx
 have:=g4 j hj
 rw [List.getD_eq_getElem?_getD,List.getElem?_eq_getElem hj] at this
 exact this
end Rv
namespace Rv
open Go
theorem shown20:Zba.g=some (true,()):=by decide +kernel
theorem ok_mid {x:Ln} (h:okLn x):midL x∧(eL x).length≤64∧∀ y∈eL x,goodItem y:=by
 obtain ⟨_,t,hg⟩:=h
 obtain ⟨h1,h2,h3⟩:=good_elen hg
 have h1:(eL x).length≤64:=h1
 have h2:eL x=postO t:=h2
 have hgood:∀ y∈eL x,goodItem y:=fun y hy=>by
  cases t with
  | none=>rw [h2] at hy; cases hy
  | some t0=>rw [h2] at hy; exact post_good t0 (h3 t0 rfl).1 y hy
 exact ⟨⟨by omega,fun y hy=>by have:=good_len (hgood y hy); omega⟩,h1,hgood⟩
end Rv
