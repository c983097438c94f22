/- Texts put together. -/
import Derived.Test.YtbommpjdbjfdjaaGreatDoorLPPlanV
import Derived.Test.YtbommpjdbjfdjaaGreatDoorL3
set_option linter.all false
namespace Rv
open Go
def atsR:List Ln→Nat→List Int
 | [],_=>[]
 | x::l,c=>((4 * c:Nat):Int)::atsR l (c+sizeN x)
def lbsR:List Ln→Nat→List Sym
 | [],_=>[]
 | x::l,c=>if x.1=[] then lbsR l (c+sizeN x) else (x.1,((4 * c:Nat):Int),())::lbsR l (c+sizeN x)
theorem placeR_form:∀ (l:List Ln) (i:Nat) (t:List Int) (lb:List Sym) (c:Nat) {r},placeR l i t lb c=.ok r→r=(t++atsR l c,lb++lbsR l c,c+(l.map sizeN).sum)
 | [],_,t,lb,c,r,h=>by
  rw [placeR] at h; cases h
  simp [atsR,lbsR]
 | x::l,i,t,lb,c,r,h=>by
  rw [placeR] at h
  split at h
  ·rename_i hx
   rw [placeR_form l _ _ _ _ h,atsR,lbsR,if_pos hx,List.append_assoc,List.map_cons,List.sum_cons,Nat.add_assoc]; rfl
  ·split at h
   ·cases h
   ·rename_i hx _
    rw [placeR_form l _ _ _ _ h,atsR,lbsR,if_neg hx,List.append_assoc,List.append_assoc,List.map_cons,List.sum_cons,Nat.add_assoc]; rfl
theorem lbs_names:∀ (l:List Ln) (c:Nat),(lbsR l c).map (·.1)=lnLabs l
 | [],_=>rfl
 | x::l,c=>by
  rw [lbsR,show x::l=[x]++l from rfl,lnLabs_app]
  split
  ·rename_i h; rw [lnLabs_none h,List.nil_append]; exact lbs_names l _
  ·rename_i h; rw [lnLabs_one h,List.map_cons,lbs_names l]; rfl
theorem ats_len:∀ (l:List Ln) (c:Nat),(atsR l c).length=l.length
 | [],_=>rfl
 | x::l,c=>by rw [atsR,List.length_cons,ats_len l,List.length_cons]
theorem lbs_len (l:List Ln) (c:Nat):(lbsR l c).length≤l.length:=by
 have h:=congrArg List.length (lbs_names l c)
 rw [List.length_map] at h
 have:(lnLabs l).length≤l.length:=by unfold lnLabs; exact Nat.le_trans (List.length_filter_le _ _) (by simp)
 omega
theorem lbs_app:∀ (a b:List Ln) (c:Nat),lbsR (a++b) c=lbsR a c++lbsR b (c+(a.map sizeN).sum)
 | [],b,c=>by simp [lbsR]
 | x::a,b,c=>by
  rw [List.cons_append,lbsR,lbsR,List.map_cons,List.sum_cons,← Nat.add_assoc]
  split
  ·exact lbs_app a b _
  ·rw [lbs_app a b,List.cons_append]
theorem findR_app (s:Str):∀ (a b:List Sym),findR s (a++b)=match findR s a with | some k=>some k | none=>findR s b
 | [],b=>rfl
 | x::a,b=>by
  rw [List.cons_append,findR,findR]
  split
  ·rfl
  ·exact findR_app s a b
theorem findR_out {s:Str}:∀ {l:List Sym},s ∉ l.map (·.1)→findR s l=none
 | [],_=>rfl
 | x::l,h=>by
  simp only [List.map_cons,List.mem_cons,not_or] at h
  rw [findR,if_neg (fun e=>h.1 e.symm)]
  exact findR_out h.2
theorem findR_names {s:Str}:∀ {a b:List Sym},a.map (·.1)=b.map (·.1)→(findR s a).isSome=(findR s b).isSome
 | [],[],_=>rfl
 | [],_::_,h=>by simp at h
 | _::_,[],h=>by simp at h
 | x::a,y::b,h=>by
  simp only [List.map_cons,List.cons.injEq] at h
  rw [findR,findR,h.1]
  split
  ·rfl
  ·exact findR_names h.2
theorem placeR_ok:∀ (l:List Ln) (i:Nat) (t:List Int) (lb:List Sym) (c:Nat),(lb.map (·.1)++lnLabs l).Nodup→∃ r,placeR l i t lb c=.ok r
 | [],_,t,lb,c,_=>⟨_,by rw [placeR]⟩
 | x::l,i,t,lb,c,h=>by
  rw [show x::l=[x]++l from rfl,lnLabs_app] at h
  by_cases hx:x.1=[]
  ·rw [lnLabs_none hx,List.nil_append] at h
   rw [placeR,if_pos hx]
   exact placeR_ok l _ _ _ _ h
  ·rw [lnLabs_one hx] at h
   have hn:x.1 ∉ lb.map (·.1):=fun hm=>(List.nodup_append.1 h).2.2 _ hm _ (by simp) rfl
   rw [placeR,if_neg hx,findR_out hn,if_neg (by simp)]
   refine placeR_ok l _ _ _ _ ?_
   rw [List.map_append,List.append_assoc]
   exact h
theorem lnLabs_sub {a b:List Ln} (h:a.Sublist b):(lnLabs a).Sublist (lnLabs b):=(h.map _).filter _
theorem lnLabs_nodup {a b:List Ln} (h:a.Sublist b) (hb:(lnLabs b).Nodup):(lnLabs a).Nodup:=hb.sublist (lnLabs_sub h)
theorem planR_nodup (l:List Ln) (h:(lnLabs l).Nodup) {pool:List Val} (hp:loadR (lbsR l 0) l 0 []=.ok pool) (hs:(l.map sizeN).sum+pool.length≤1024) :
  planR l=(atsR l 0,lbsR l 0,pool,((4 * (l.map sizeN).sum:Nat):Int),(((l.map sizeN).sum+pool.length:Nat):Int),0,0,()):=by
 obtain ⟨r,hr⟩:=placeR_ok l 0 [] [] 0 (by simpa using h)
 have:=placeR_form l 0 [] [] 0 hr
 rw [List.nil_append,List.nil_append,Nat.zero_add] at this
 unfold planR plFin
 rw [hr,this]
 dsimp only
 rw [hp]
 unfold plEnd
 dsimp only
 rw [if_neg (by omega)]
theorem loadR_spec (lb:List Sym):∀ (l:List Ln) (i:Nat) (p0:List Val) {p},loadR lb l i p0=.ok p→p0.Nodup→p.Nodup∧(∀ v∈p0,v∈p)∧(∀ x∈l,x.2.1.1=8→(vOf lb (eL x)).2.2.1=0∧((vOf lb (eL x)).1,(vOf lb (eL x)).2.1,())∈p) ∧
  p.length≤p0.length+(l.filter fun x=>decide (x.2.1.1=8)).length
 | [],_,p0,p,h,hn=>by
  rw [loadR] at h; cases h
  exact ⟨hn,fun v hv=>hv,fun x hx=>(by cases hx),by simp⟩
 | x::l,i,p0,p,h,hn=>by
  rw [loadR] at h
  by_cases h8:x.2.1.1=8
  ·rw [if_pos h8] at h
   split at h
   ·cases h
   ·split at h
    ·cases h
    ·rename_i h1 h2
     have hadd:(addR p0 ((vOf lb (eL x)).1,(vOf lb (eL x)).2.1,())).Nodup∧((vOf lb (eL x)).1,(vOf lb (eL x)).2.1,())∈addR p0 ((vOf lb (eL x)).1,(vOf lb (eL x)).2.1,())∧(∀ v∈p0,v∈addR p0 ((vOf lb (eL x)).1,(vOf lb (eL x)).2.1,()))∧(addR p0 ((vOf lb (eL x)).1,(vOf lb (eL x)).2.1,())).length≤p0.length+1:=by
      unfold addR
      split
      ·rename_i hm; exact ⟨hn,hm,fun v hv=>hv,by omega⟩
      ·rename_i hm
       refine ⟨?_,by simp,fun v hv=>by simp [hv],by simp⟩
       rw [List.nodup_append]
       exact ⟨hn,by simp,fun a ha b hb e=>by rw [List.mem_singleton.1 hb] at e; subst e; exact hm ha⟩
     obtain ⟨g1,g2,g3,g4⟩:=loadR_spec lb l (i+1) _ h hadd.1
     refine ⟨g1,fun v hv=>g2 v (hadd.2.2.1 v hv),fun y hy hy8=>?_,?_⟩
     ·rcases List.mem_cons.1 hy with rfl | hy
      ·exact ⟨by simpa using h1,g2 _ hadd.2.1⟩
      ·exact g3 y hy hy8
     ·have hq:=Nat.le_trans g4 (Nat.add_le_add_right hadd.2.2.2 _)
      rw [List.filter_cons_of_pos (by simpa using h8),List.length_cons]; omega
  ·rw [if_neg h8] at h
   obtain ⟨g1,g2,g3,g4⟩:=loadR_spec lb l (i+1) _ h hn
   refine ⟨g1,g2,fun y hy hy8=>?_,?_⟩
   ·rcases List.mem_cons.1 hy with rfl | hy
    ·exact absurd hy8 h8
    ·exact g3 y hy hy8
   ·rw [List.filter_cons_of_neg (by simpa using h8)]; exact g4
end Rv
