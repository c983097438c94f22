/- Texts put together. -/
import Derived.Test.YtbommpjdbjfdjaaGreatDoorL3
import Derived.Test.YtbommpjdbjfdjaaGreatDoorLPPlanW
set_option linter.all false
namespace Rv
open Go
theorem atsR_get:∀ (l:List Ln) (c i:Nat),i < l.length→(atsR l c).getD i 0=((4 * (c+((l.take i).map sizeN).sum):Nat):Int)
 | [],_,_,h=>by simp at h
 | x::l,c,0,_=>by simp [atsR]
 | x::l,c,i+1,h=>by
  rw [atsR,List.getD_cons_succ,atsR_get l _ i (by simpa using h),List.take_succ_cons,List.map_cons,List.sum_cons,Nat.add_assoc]
theorem lbs_find {w:List Ln} (h:(lnLabs w).Nodup) {i:Nat} (hi:i < w.length) (hx:(w.getD i zL).1≠[]):findR (w.getD i zL).1 (lbsR w 0)=some ((4 * ((w.take i).map sizeN).sum:Nat):Int):=by
 have e:w=w.take i++(w.getD i zL::w.drop (i+1)):=by
  conv=>lhs; rw [← List.take_append_drop i w]
  congr 1
  rw [List.drop_eq_getElem_cons hi,List.getD_eq_getElem?_getD,List.getElem?_eq_getElem hi]; rfl
 generalize w.getD i zL=x at hx e
 have e2:lbsR w 0=lbsR (w.take i) 0++lbsR (x::w.drop (i+1)) (0+((w.take i).map sizeN).sum):=by
  conv=>lhs; rw [e]
  exact lbs_app _ _ _
 have hn:x.1 ∉ (lbsR (w.take i) 0).map (·.1):=by
  rw [lbs_names]
  intro hm
  rw [e,lnLabs_app,show x::w.drop (i+1)=[x]++w.drop (i+1) from rfl,lnLabs_app,lnLabs_one hx] at h
  exact (List.nodup_append.1 h).2.2 _ hm _ (by simp) rfl
 rw [e2,findR_app,findR_out hn,lbsR,if_neg hx,findR,if_pos rfl,Nat.zero_add]
def cntV (v:Val):List Val→Nat
 | []=>0
 | x::r=>(if x=v then 1 else 0)+cntV v r
theorem cntV_out {v:Val}:∀ {p:List Val},v ∉ p→cntV v p=0
 | [],_=>rfl
 | x::r,h=>by
  simp only [List.mem_cons,not_or] at h
  rw [cntV,if_neg (fun e=>h.1 e.symm),cntV_out h.2]
theorem cntV_one {v:Val}:∀ {p:List Val},p.Nodup→v∈p→cntV v p=1
 | x::r,hn,hv=>by
  simp only [List.nodup_cons] at hn
  rw [cntV]
  by_cases hx:x=v
  ·subst hx; rw [if_pos rfl,cntV_out hn.1]
  ·rw [if_neg hx,cntV_one hn.2 ((List.mem_cons.1 hv).resolve_left fun e=>hx e.symm)]
theorem vOf_27 (lb:List Sym) {e:List Item} (hw:well e=true) (hn:∀ y∈e,y.1=2→(findR y.2.2.1 lb).isSome=true):(vOf lb e).2.2.1=0∨(vOf lb e).2.2.1=27:=by
 unfold vOf ofR
 rw [if_pos hw]
 unfold well at hw
 rw [Bool.and_eq_true,decide_eq_true_eq] at hw
 have hwl:wellL e:=by unfold wellL; rw [← wellR_enough]; exact hw.1
 rcases run_well lb hwl with ⟨x,hx⟩ | ⟨v,hv⟩
 ·rw [hx]; exact .inr (run_err27 (st:=[]) hn hwl hx)
 ·rw [hv]; exact .inl rfl
theorem places_l25 (n:Nat) (rl) (w:List Ln) (b c d e:Int) (t:List Int) (lb:List Sym) (p:List Val) (hp:p.length≤1000) (q r s u:Int):∀ (m k many:Nat),many≤k→k≤p.length→p.length - k < m →
  rivetlaw20_LayoutPlaces.l25 n rl m w b c d e 0 (many:Int) (k:Int) t lb p q r s u=if many+cntV (s,u,()) (p.drop k)≠1 then some (false,()) else rivetlaw20_LayoutPlaces.j12 n rl w b c d e t lb p q r:=by
 intro m
 induction m with
 | zero=>intro k many _ _ h; omega
 | succ m ih=>
  intro k many hmk hk hm
  rw [rivetlaw20_LayoutPlaces.l25]
  simp only [val_is,dt,Int.toNat_natCast]
  by_cases h:k < p.length
  ·have hd:p.drop k=p.getD k ((0:Int),((0:Int),()))::p.drop (k+1):=by
    rw [List.drop_eq_getElem_cons h,List.getD_eq_getElem?_getD,List.getElem?_eq_getElem h]; rfl
   rw [if_pos (by omega),if_pos (by omega),hd,cntV]
   have W1:IntKind.i64.wrap ((k:Int)+1)=((k+1:Nat):Int):=by rw [w64 (by omega)]; omega
   have W2:IntKind.i64.wrap ((many:Int)+1)=((many+1:Nat):Int):=by rw [w64 (by omega)]; omega
   unfold rivetlaw20_LayoutPlaces.j26
   rw [W1,W2]
   by_cases hx:p.getD k ((0:Int),((0:Int),()))=(s,u,())
   ·rw [if_pos hx,if_pos hx,ih (k+1) (many+1) (by omega) (by omega) (by omega),Nat.add_assoc]
   ·rw [if_neg hx,if_neg hx,ih (k+1) many (by omega) (by omega) (by omega),Nat.zero_add]
  ·obtain rfl:k=p.length:=by omega
   rw [if_neg (by omega),List.drop_length,if_pos (by simp),cntV,Nat.add_zero]
   by_cases h1:many=1
   ·rw [if_neg (by omega),if_neg (by omega)]
   ·rw [if_pos (by omega),if_pos (by omega)]
theorem places_l11 (n:Nat) (hn:1000≤n) (w:List Ln) (hw:Near w) (p:List Val) (hp:p.length≤(w.filter fun x=>decide (x.2.1.1=8)).length) (hpd:p.Nodup)
  (hv:∀ x∈w,x.2.1.1=8→(vOf (lbsR w 0) (eL x)).2.2.1=0∧((vOf (lbsR w 0) (eL x)).1,(vOf (lbsR w 0) (eL x)).2.1,())∈p):∀ (m i:Nat),i≤w.length→w.length - i < m →
  rivetlaw20_LayoutPlaces.l11 n m w 0 ((4 * ((w.take i).map sizeN).sum:Nat):Int) ((((w.take i).filter fun x=>decide (x.2.1.1=8)).length:Nat):Int) (i:Int) (atsR w 0) (lbsR w 0) p ((4 * (w.map sizeN).sum:Nat):Int) (((w.map sizeN).sum+p.length:Nat):Int)=some (true,()):=by
 have hlen:=hw.len
 have hp20:p.length≤20:=Nat.le_trans hp (Nat.le_trans (List.length_filter_le _ _) hlen)
 intro m
 induction m with
 | zero=>intro i _ h; omega
 | succ m ih=>
  intro i hi hm
  rw [rivetlaw20_LayoutPlaces.l11]
  simp only [dt,Int.toNat_natCast,ats_len]
  have hfl:((w.take i).filter fun x=>decide (x.2.1.1=8)).length≤20:=Nat.le_trans (List.length_filter_le _ _) (by rw [List.length_take]; omega)
  have hsm:=sum_le (w.take i)
  rw [List.length_take] at hsm
  have hsw:=sum_le w
  by_cases h:i < w.length
  ·have ht:w.take (i+1)=w.take i++[w.getD i zL]:=by
    rw [List.take_succ_eq_append_getElem h,List.getD_eq_getElem?_getD,List.getElem?_eq_getElem h]; rfl
   have hat:=atsR_get w 0 i h
   rw [Nat.zero_add] at hat
   have W:IntKind.i64.wrap ((i:Int)+1)=((i+1:Nat):Int):=by rw [w64 (by omega)]; omega
   have hmem:=getD_ln h
   have hih:=ih (i+1) (by omega) (by omega)
   have J:rivetlaw20_LayoutPlaces.j19 n (rivetlaw20_LayoutPlaces.l11 n m) w 0 ((4 * ((w.take i).map sizeN).sum:Nat):Int) ((((w.take i).filter fun x=>decide (x.2.1.1=8)).length:Nat):Int) (i:Int) (atsR w 0) (lbsR w 0) p ((4 * (w.map sizeN).sum:Nat):Int) (((w.map sizeN).sum+p.length:Nat):Int)=some (true,()):=by
    have hsz:=sizeN_le (w.getD i zL)
    have hv':=hv _ hmem
    obtain ⟨lbn,_,hnx⟩:=hw.ln
    have hml:=(ok_mid (hnx _ hmem).1).2.1
    rw [ht,List.map_append,List.sum_append,List.filter_append,List.length_append] at hih
    unfold rivetlaw20_LayoutPlaces.j19
    simp only [dt,Int.toNat_natCast]
    rw [if_pos (by omega),lsize_eq,Option.bind_some,if_pos (by omega),wrap_from (by omega) hsz]
    generalize w.getD i zL=x at hsz hv' hml hih
    by_cases h8:x.2.1.1=8
    ·rw [if_neg (by simpa using h8),if_pos (by omega),of_eq (lbsR w 0) (by have:=lbs_len w 0; omega) _ (by have:(eL x).length≤64:=hml; show (eL x).length≤_; omega),ofR_vOf,Option.bind_some]
     obtain ⟨v1,v2⟩:=hv' h8
     have v1':(vOf (lbsR w 0) x.2.1.2.2.2.2.2.2.1).2.2.1=0:=v1
     have W3:IntKind.i64.wrap ((((w.take i).filter fun x=>decide (x.2.1.1=8)).length:Int)+1)=((((w.take i).filter fun x=>decide (x.2.1.1=8)).length+1:Nat):Int):=by rw [w64 (by omega)]; omega
     rw [v1',W3]
     have:=places_l25 n (rivetlaw20_LayoutPlaces.l11 n m) w 0 ((4 * (((w.take i).map sizeN).sum+sizeN x):Nat):Int) ((((w.take i).filter fun x=>decide (x.2.1.1=8)).length+1:Nat):Int) (i:Int) (atsR w 0) (lbsR w 0) p (by omega) ((4 * (w.map sizeN).sum:Nat):Int) (((w.map sizeN).sum+p.length:Nat):Int) (vOf (lbsR w 0) (eL x)).1 (vOf (lbsR w 0) (eL x)).2.1 n 0 0 (by omega) (by omega) (by omega)
     rw [List.drop_zero,cntV_one hpd v2,if_neg (by omega)] at this
     refine this.trans ?_
     unfold rivetlaw20_LayoutPlaces.j12
     rw [W]
     rw [List.filter_cons_of_pos (by simpa using h8)] at hih
     exact hih
    ·rw [if_pos h8]
     unfold rivetlaw20_LayoutPlaces.j12
     rw [W]
     rw [List.filter_cons_of_neg (by simpa using h8)] at hih
     exact hih
   rw [if_pos (by omega),if_pos (by omega),hat,if_neg (by simp),if_pos (by omega)]
   by_cases hx:(w.getD i zL).1=[]
   ·rw [if_neg (by simpa using hx)]; exact J
   ·rw [if_pos (by simpa using hx),if_pos (by omega),find_eq _ _ (by have:=lbs_len w 0; omega),lbs_find hw.nd h hx,Option.bind_some]
    dsimp only
    rw [if_pos (by rfl),if_neg (by simp)]
    exact J
  ·obtain rfl:i=w.length:=by omega
   rw [List.take_length] at hfl ⊢
   rw [if_neg (by omega),if_pos (by first | trivial | rfl),if_pos rfl,plan_words (by omega) (by omega),if_pos rfl,decide_eq_true (by omega)]
theorem lplaces_wf {a:List Ln} (h:(a.length≤maxLen∧∀ x∈a,wfLn2 x)∧True):rivetlaw20_LayoutPlaces.g a=some (true,()):=by
 obtain ⟨q,hq,hql,hqo⟩:=fitX a h.1.2
 obtain ⟨w,hw,hn⟩:=fit20 q hqo
 have hlen:=hn.len
 obtain ⟨lb,hlb,hnx⟩:=hn.ln
 unfold rivetlaw20_LayoutPlaces.g rivetlaw20_LayoutPlaces.f
 rw [shown20,Option.bind_some,hq,Option.bind_some,hw,Option.bind_some,plan_eq w (by omega) (fun x hx=>by have:=(ok_mid (hnx x hx).1).2.1; omega),Option.bind_some]
 simp only [dt]
 obtain ⟨r0,hr0⟩:=placeR_ok w 0 [] [] 0 (by simpa using hn.nd)
 have hform:=placeR_form w 0 [] [] 0 hr0
 rw [List.nil_append,List.nil_append,Nat.zero_add] at hform
 rcases planR_ways w with ⟨x,h1,h2,h3,h4,h5⟩ | ⟨r,p,h1,h2,h3⟩
 ·have h6:loadR (lbsR w 0) w 0 []=.error x:=by
   rcases h5 with ⟨y,hy⟩ | ⟨r,hr,hl⟩
   ·rw [hr0] at hy; cases hy
   ·rw [hr0] at hr; cases hr; rw [hform] at hl; exact hl
  obtain ⟨_,_,_,k8,ke⟩:=loadR_err _ _ _ _ h6
  rw [Nat.sub_zero] at k8 ke
  have hmem:w.getD (x.1 - 1) zL∈w:=getD_ln (by omega)
  have k27:x.2=27:=by
   rcases ke with ke | ke
   ·exact ke
   ·have hN:=hnx _ hmem
    generalize w.getD (x.1 - 1) zL=y at hN k8 ke
    obtain ⟨⟨_,t,hg⟩,_,_,hnm,_,_⟩:=hN
    have hwell:well (eL y)=true:=by
     have:∀ (s:Sm) (t:Option Tr),GoodS s t→s.k=8→well s.e=true:=fun s t hs hk=>by
      cases hs with
      | load _ ht=>exact well_of ht.2.2.1 ht.2.2.2
      | ins0 _ h=>simp only at hk; omega
      | ins1 _ h _=>simp only at hk; omega
      | none=>simp at hk
      | word _=>simp at hk
      | exp _=>simp at hk
     exact this _ t hg k8
    have hnames:lb.map (·.1)=(lbsR w 0).map (·.1):=by rw [lbs_names]; exact hlb
    rcases vOf_27 (lbsR w 0) hwell (fun z hz h2'=>by rw [← findR_names hnames]; exact hnm z hz h2') with h0 | h27
    ·rw [ke] at h2; exact absurd h0 h2
    ·rw [ke]; exact h27
  rw [h1]
  unfold noPlan
  dsimp only
  have e1:IntKind.i64.wrap ((x.1:Int) - 1)=((x.1 - 1:Nat):Int):=by rw [w64 (by omega)]; omega
  rw [if_pos h2,if_pos trivial,if_pos (by decide),if_pos (by decide),if_pos rfl,if_pos (by omega),if_pos (by omega),e1,if_pos (by omega),Int.toNat_natCast,if_pos k8,if_neg (by rw [k27]; simp)]
 ·rw [hr0] at h1
  cases h1
  have hl:loadR (lbsR w 0) w 0 []=.ok p:=by rw [hform] at h2; exact h2
  obtain ⟨s1,_,s3,s4⟩:=loadR_spec _ _ _ _ hl (by simp)
  simp only [List.length_nil,Nat.zero_add] at s4
  have hsw:=sum_le w
  have hfl:(w.filter fun x=>decide (x.2.1.1=8)).length≤20:=Nat.le_trans (List.length_filter_le _ _) hlen
  rw [planR_nodup w hn.nd hl (by omega)]
  dsimp only
  rw [if_neg (by decide),if_pos (by decide),ats_len,if_neg (by omega)]
  have:=places_l11 (1000+a.length) (by omega) w hn p s4 s1 s3 (1000+a.length) 0 (by omega) (by omega)
  rw [List.take_zero] at this
  exact this
end Rv
