/- Texts put together. -/
import Derived.Test.YtbommpjdbjfdjaaGreatDoorSPWords
import Derived.Test.YtbommpjdbjfdjaaGreatDoorS3
set_option linter.all false
namespace Rv
open Go
theorem word_other {lb:List Sym} {q:List Val} {fr wd:Int} {s:Snt} {c:Nat} {w:Int×Bool} (hc:c≤100000) (hv:0≤(vOf lb s.2.2.2.2.2.2.1).1∧(vOf lb s.2.2.2.2.2.2.1).1≤4294967295) (h8:s.1≠8) (h9:s.1≠9) (h:wordR lb q fr wd s ((4 * c:Nat):Int)=.ok w) :
  ∃ i,w.1=(encV s.1 s.2.1 s.2.2.1 s.2.2.2.1 s.2.2.2.2.1 i s.2.2.2.2.2.1).1∧(encV s.1 s.2.1 s.2.2.1 s.2.2.2.1 s.2.2.2.2.1 i s.2.2.2.2.2.1).2.1=0∧(s.1=2∨s.1=5→IntKind.u32.wrap i=(vOf lb s.2.2.2.2.2.2.1).1) ∧
   (s.1=7→IntKind.u32.wrap (IntKind.i64.wrap (IntKind.i64.wrap (IntKind.i64.wrap (4 * (c:Int))+4)+IntKind.i64.wrap (4 * i)))=(vOf lb s.2.2.2.2.2.2.1).1):=by
 unfold wordR at h
 by_cases k2:s.1=2
 ·rw [if_pos k2] at h
  obtain ⟨g1,g2,g3⟩:=encE_ok h
  exact ⟨_,by rw [g2],g3,fun _=>numV_back hv g1,fun g=>by omega⟩
 rw [if_neg k2] at h
 by_cases k5:s.1=5
 ·rw [if_pos k5] at h
  obtain ⟨g1,g2,g3⟩:=encE_ok h
  exact ⟨_,by rw [g2],g3,fun _=>numV_back hv g1,fun g=>by omega⟩
 rw [if_neg k5] at h
 by_cases k7:s.1=7
 ·rw [if_pos k7] at h
  split at h
  ·cases h
  ·obtain ⟨g1,g2,g3⟩:=encE_ok h
   exact ⟨_,by rw [g2],g3,fun g=>by omega,fun _=>far_back hc hv g1⟩
 rw [if_neg k7,if_neg h8,if_neg h9] at h
 obtain ⟨g1,g2⟩:=encX_ok h
 exact ⟨0,by rw [g1],g2,fun g=>by omega,fun g=>absurd g k7⟩
section
variable {sh:Option (Bool×Unit)} (W S:List Int) (Y:List Sym) (t:List Int) (lb:List Sym) (q:List Val) (c0:Nat) (wd:Int)
theorem w10 (n:Nat) (w:List Ln) (hw:w.length≤20) (he:∀ x∈w,(eL x).length≤4611686018427387904) (hv:∀ x∈w,0≤(vOf lb (eL x)).1∧(vOf lb (eL x)).1≤4294967295) (ht:t.length=w.length) (hlb:lb.length≤1000) (hWl:W.length≤10000) (hc0:c0≤10000)
  (hG:∀ j,j < w.length→sizeN (w.getD j zL)≠0→∃ (c:Nat) (w':Int×Bool),t.getD j 0=((4 * c:Nat):Int)∧W[c]?=some w'.1∧wordR lb q ((4 * c0:Nat):Int) wd (w.getD j zL).2.1 ((4 * c:Nat):Int)=.ok w')
  (hP:∀ k v,q[k]?=some v→W[c0+k]?=some v.1) (h8:∀ x∈w,x.2.1.1=8→((vOf lb (eL x)).1,(vOf lb (eL x)).2.1,())∈q):∀ (m i:Nat),i≤w.length→w.length - i < m →
  rivetlaw21_AsmWords.l10 sh n m w (i:Int) W S Y t lb q ((4 * c0:Nat):Int) wd=some (true,()):=by
 intro m
 induction m with
 | zero=>intro i _ h; omega
 | succ m ih=>
  intro i hi hm
  rw [rivetlaw21_AsmWords.l10]
  simp only [dt,df,Int.toNat_natCast]
  by_cases h:i < w.length
  ·have hr:0≤(i:Int)∧(i:Int) < (w.length:Int):=by omega
   have hm':=getD_ln h
   have h1:=he _ hm'
   have h2:=hv _ hm'
   have h3:=h8 _ hm'
   have h4:=hG i h
   have J11:rivetlaw21_AsmWords.j11 sh n (rivetlaw21_AsmWords.l10 sh n m) w (i:Int) W S Y t lb q ((4 * c0:Nat):Int) wd=some (true,()):=by
    unfold rivetlaw21_AsmWords.j11
    rw [w64 (by omega),show (i:Int)+1=((i+1:Nat):Int) by omega]
    exact ih (i+1) (by omega) (by omega)
   rw [if_pos hr.2,if_pos hr,if_pos (by omega)]
   generalize w.getD i zL=x at h1 h2 h3 h4 ⊢
   rw [lsize_eq,Option.bind_some]
   dsimp only
   by_cases hz:sizeN x=0
   ·rw [if_pos (by omega)]; exact J11
   ·rw [if_neg (by omega)]
    obtain ⟨c,w',e1,e2,e3⟩:=h4 hz
    obtain ⟨hcl,hcv⟩:=List.getElem?_eq_some_iff.1 e2
    have hat:IntKind.i64.wrap (Int.tdiv (t.getD i 0) 4)=(c:Int):=by
     have:Int.tdiv ((4 * c:Nat):Int) 4=(c:Int):=by
      rw [Int.tdiv_eq_ediv_of_nonneg (by omega)]; omega
     rw [e1,this,w64 (by omega)]
    have hgd:W.getD c 0=w'.1:=by rw [List.getD_eq_getElem?_getD,e2]; rfl
    rw [hat]
    simp only [Int.toNat_natCast,hgd]
    rw [if_pos (by omega),if_neg (by omega),aof_eq lb (by omega) _ h1,Option.bind_some,if_pos (by omega)]
    by_cases k9:x.2.1.1=9
    ·have hw1:w'.1=(vOf lb (eL x)).1:=by
      unfold wordR at e3
      rw [if_neg (by omega),if_neg (by omega),if_neg (by omega),if_neg (by omega),if_pos k9] at e3
      split at e3
      ·cases e3
      ·split at e3
       ·cases e3
       ·cases e3; rfl
     obtain ⟨y,hy⟩:=dec_total (by rw [← hw1] at h2; exact h2)
     rw [hy,Option.bind_some,if_pos k9,if_pos (by omega),if_neg (by rw [hw1]; simp)]
     exact J11
    ·by_cases k8:x.2.1.1=8
     ·obtain ⟨p1,p2⟩:=posR_get (h3 k8)
      have p3:=hP _ _ p2
      obtain ⟨hkl,_⟩:=List.getElem?_eq_some_iff.1 p3
      unfold wordR at e3
      rw [if_neg (by omega),if_neg (by omega),if_neg (by omega),if_pos k8] at e3
      split at e3
      ·cases e3
      ·obtain ⟨g1,g2,g3⟩:=encE_ok e3
       have hq:posR ((vOf lb (eL x)).1,(vOf lb (eL x)).2.1,()) q≤10000:=by omega
       have himm:IntKind.i64.wrap (((4 * c0:Nat):Int)+IntKind.i64.wrap (4 * (posR ((vOf lb (eL x)).1,(vOf lb (eL x)).2.1,()) q:Int)))=((4 * (c0+posR ((vOf lb (eL x)).1,(vOf lb (eL x)).2.1,()) q):Nat):Int):=by
        rw [w64 (x:=4 * (posR ((vOf lb (eL x)).1,(vOf lb (eL x)).2.1,()) q:Int)) (by omega),w64 (by omega)]; omega
       change w'=((encV 5 0 x.2.1.2.2.1 13 0 (IntKind.i64.wrap (((4 * c0:Nat):Int)+IntKind.i64.wrap (4 * (posR ((vOf lb (eL x)).1,(vOf lb (eL x)).2.1,()) q:Int)))) false).1,false) at g2
       change (encV 5 0 x.2.1.2.2.1 13 0 (IntKind.i64.wrap (((4 * c0:Nat):Int)+IntKind.i64.wrap (4 * (posR ((vOf lb (eL x)).1,(vOf lb (eL x)).2.1,()) q:Int)))) false).2.1=0 at g3
       rw [himm] at g2 g3
       rw [g2]
       dsimp only
       rw [dec_eq g3,Option.bind_some]
       dsimp only
       generalize posR ((vOf lb (eL x)).1,(vOf lb (eL x)).2.1,()) q=k at *
       have hdv:IntKind.i64.wrap (Int.tdiv ((4 * (c0+k):Nat):Int) 4)=((c0+k:Nat):Int):=by
        have:Int.tdiv ((4 * (c0+k):Nat):Int) 4=((c0+k:Nat):Int):=by
         rw [Int.tdiv_eq_ediv_of_nonneg (by omega)]; omega
        rw [this,w64 (by omega)]
       have hmd:Int.tmod ((4 * (c0+k):Nat):Int) 4=0:=by
        rw [Int.tmod_eq_emod_of_nonneg (by omega)]; omega
       have hkg:W.getD (c0+k) 0=(vOf lb (eL x)).1:=by rw [List.getD_eq_getElem?_getD,p3]; rfl
       rw [if_neg k9,if_pos k8,if_pos (by decide),if_pos (by simp),if_pos (by simp),if_pos (by simp),if_pos (by simp),if_pos (by omega),if_pos (by rw [hmd]; simp),hdv,if_pos (by omega),if_pos (by omega),Int.toNat_natCast,hkg,if_neg (by simp)]
       exact J11
     ·obtain ⟨im,g1,g2,g3,g4⟩:=word_other (by omega) h2 k8 k9 e3
      rw [g1,dec_eq g2,Option.bind_some]
      dsimp only
      rw [if_neg k9,if_neg k8,if_pos rfl,if_pos rfl,if_pos rfl,if_pos rfl,if_pos rfl,beq_self_eq_true]
      unfold rivetlaw21_AsmWords.j27 rivetlaw21_AsmWords.j28
      simp only [dt,df]
      have last:∀ z:Int,(x.2.1.1=7→z=(vOf lb (eL x)).1)→(if x.2.1.1=7 then (if z≠(vOf lb (eL x)).1 then some (false,()) else rivetlaw21_AsmWords.j11 sh n (rivetlaw21_AsmWords.l10 sh n m) w (i:Int) W S Y t lb q ((4 * c0:Nat):Int) wd) else rivetlaw21_AsmWords.j11 sh n (rivetlaw21_AsmWords.l10 sh n m) w (i:Int) W S Y t lb q ((4 * c0:Nat):Int) wd)=some (true,()):=by
       intro z hz7
       rw [J11]
       by_cases k7:x.2.1.1=7
       ·rw [if_pos k7,if_neg (by rw [hz7 k7]; simp)]
       ·rw [if_neg k7]
      by_cases k2:x.2.1.1=2
      ·rw [if_neg (by simpa using k2),if_pos (by decide),if_pos (by decide),if_pos trivial,if_pos (by rw [g3 (.inl k2)]; simp)]
       exact last _ g4
      ·rw [if_pos (by simpa using k2),if_pos (by decide),if_pos (by decide)]
       by_cases k5:x.2.1.1=5
       ·rw [if_pos (by simpa using k5),if_pos (by rw [g3 (.inr k5)]; simp)]
        exact last _ g4
       ·rw [if_neg (by simpa using k5)]
        exact last _ g4
  ·rw [if_neg (by omega)]
end
theorem awords_wf {a:List Ln} (h:(a.length≤maxLen∧∀ x∈a,wfLn2 x)∧True):rivetlaw21_AsmWords.g a=some (true,()):=by
 obtain ⟨q,hq,hql,hqo⟩:=fitX a h.1.2
 obtain ⟨w,hw,hn⟩:=fit20 q hqo
 obtain ⟨lb,_,hnx⟩:=hn.ln
 have hgood:∀ x∈w,(eL x).length≤64∧∀ y∈eL x,0≤y.2.1∧y.2.1≤4294967295:=fun x hx=>by
  obtain ⟨_,t,ht⟩:=(hnx x hx).1
  obtain ⟨h1,h2,h3⟩:=good_elen ht
  have h2:eL x=postO t:=h2
  refine ⟨h1,fun y hy=>?_⟩
  cases t with
  | none=>rw [h2] at hy; cases hy
  | some t0=>rw [h2] at hy; have:=post_good t0 (h3 t0 rfl).1 y hy; exact ⟨this.1,this.2.1⟩
 have hwe:∀ x∈w,(eL x).length≤4611686018427387904:=fun x hx=>by have:=(hgood x hx).1; omega
 have hwl:=hn.len
 unfold rivetlaw21_AsmWords.g
 generalize hN:1000+a.length=n
 unfold rivetlaw21_AsmWords.f
 rw [shown21,Option.bind_some,hq,Option.bind_some]
 dsimp only
 rw [hw,Option.bind_some]
 dsimp only
 rw [asm_eq w (by omega) hwe,Option.bind_some,plan_eq w (by omega) hwe,Option.bind_some]
 simp only [dt,df]
 rcases asm_ways w with ⟨h1,h2,h3,h4⟩ | ⟨h1,h2,r,h3,h4⟩
 ·rw [if_pos (by simpa using h1),if_pos trivial,h2]; rfl
 ·obtain ⟨p1,p2,p3,r0,p,g1,g2,g3,g4⟩:=plan_stands w h2
  have hform:=placeR_form w 0 [] [] 0 g1
  rw [List.nil_append] at hform
  have hat:(planR w).1=atsR w 0:=by rw [g4,hform]
  have hfr:(planR w).2.2.2.1=((4 * (w.map sizeN).sum:Nat):Int):=by rw [g4,hform]; simp
  have hwd:(planR w).2.2.2.2.1=(((w.map sizeN).sum+(planR w).2.2.1.length:Nat):Int):=by rw [g4,hform]; simp
  obtain ⟨s1,_⟩:=lines_sites (planR w).2.1 (planR w).2.2.1 (planR w).2.2.2.1 (planR w).2.2.2.2.1 (planR w).1 w 0 ([],[],[]) r (by simp; omega) (by rw [hat]; rfl) List.Pairwise.nil (fun z hz=>by cases hz) h3
  have s1:r.1.length=(w.map sizeN).sum:=by simpa using s1
  have hsum:(w.map sizeN).sum≤w.length:=sum_le w
  obtain ⟨_,lw⟩:=lines_words (planR w).2.1 (planR w).2.2.1 (planR w).2.2.2.1 (planR w).2.2.2.2.1 (planR w).1 w 0 ([],[],[]) r (by rw [hat]; rfl) h3
  have hpw:=pool_words (planR w).2.2.1 r
  have hld:=(loadR_spec r0.2.1 w 0 [] g2 List.nodup_nil).2.2.1
  have hWl:(poolW (planR w).2.2.1 r).1.length=(w.map sizeN).sum+(planR w).2.2.1.length:=by rw [hpw,List.length_append,List.length_map,s1]
  rw [if_neg (by simpa using h1),if_pos (by decide),if_pos (by simpa using h2),h4]
  dsimp only
  rw [if_pos (by rw [hwd,hWl]; simp),if_neg (by rw [p1]; simp)]
  rw [hfr] at lw ⊢
  refine w10 _ _ _ _ _ _ _ _ n w hwl hwe (fun x hx=>?_) p1 (by omega) (by omega) (by omega) (fun j hj hs=>?_) (fun k v hk=>?_) (fun x hx hk=>?_) n 0 (by omega) (by omega)
  ·rcases vOf_cases (planR w).2.1 (hgood x hx).2 with ⟨z,_,hz⟩ | ⟨v,hv,hz,_⟩
   ·rw [hz]; exact ⟨Int.le_refl 0,by show (0:Int)≤4294967295; decide⟩
   ·rw [hz]; exact hv.1
  ·obtain ⟨c,w',e1,e2,e3⟩:=lw j hj hs
   rw [Nat.zero_add] at e1
   refine ⟨c,w',e1,?_,e3⟩
   obtain ⟨hcl,_⟩:=List.getElem?_eq_some_iff.1 e2
   rw [hpw,List.getElem?_append_left hcl]; exact e2
  ·rw [hpw,List.getElem?_append_right (by omega),s1,Nat.add_sub_cancel_left,List.getElem?_map,hk]; rfl
  ·rw [g4]; exact (hld x hx hk).2
end Rv
