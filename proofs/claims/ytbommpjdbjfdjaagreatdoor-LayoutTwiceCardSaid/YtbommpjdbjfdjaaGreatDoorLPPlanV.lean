/- Texts put together. -/
import Derived.Test.YtbommpjdbjfdjaaGreatDoorL2
set_option linter.all false
namespace Rv
open Go
theorem placeR_err:∀ (l:List Ln) (i:Nat) (a:List Int) (lb:List Sym) (c:Nat) {x:Nat×Int},placeR l i a lb c=.error x→x.2=26∧i < x.1∧x.1≤i+l.length
 | [],_,_,_,_,_,h=>by (rw [placeR] at h; cases h)
 | y::r,i,a,lb,c,x,h=>by
  rw [placeR] at h
  split at h
  ·have:=placeR_err r _ _ _ _ h; simp; omega
  ·split at h
   ·cases h; exact ⟨rfl,by show i < i+1; omega,by simp⟩
   ·have:=placeR_err r _ _ _ _ h; simp; omega
theorem loadR_err (lb:List Sym):∀ (l:List Ln) (i:Nat) (p:List Val) {x:Nat×Int},loadR lb l i p=.error x→x.2≠0∧i < x.1∧x.1≤i+l.length∧(l.getD (x.1 - 1 - i) zL).2.1.1=8∧(x.2=27∨x.2=(vOf lb (eL (l.getD (x.1 - 1 - i) zL))).2.2.1)
 | [],_,_,_,h=>by (rw [loadR] at h; cases h)
 | y::r,i,p,x,h=>by
  have step:∀ {q},loadR lb r (i+1) q=.error x→x.2≠0∧i < x.1∧x.1≤i+(y::r).length∧((y::r).getD (x.1 - 1 - i) zL).2.1.1=8∧(x.2=27∨x.2=(vOf lb (eL ((y::r).getD (x.1 - 1 - i) zL))).2.2.1):=fun {q} hq=>by
   obtain ⟨h1,h2,h3,h4,h5⟩:=loadR_err lb r (i+1) q hq
   have e:x.1 - 1 - i=(x.1 - 1 - (i+1))+1:=by omega
   rw [e,List.getD_cons_succ]
   exact ⟨h1,by omega,by simp; omega,h4,h5⟩
  rw [loadR] at h
  split at h
  ·rename_i h8
   split at h
   ·rename_i hne
    cases h
    have e:i+1 - 1 - i=0:=by omega
    dsimp only
    rw [e,List.getD_cons_zero]
    exact ⟨hne,by omega,by simp,h8,.inr rfl⟩
   ·split at h
    ·cases h
     have e:i+1 - 1 - i=0:=by omega
     dsimp only
     rw [e,List.getD_cons_zero]
     exact ⟨by decide,by omega,by simp,h8,.inl rfl⟩
    ·exact step h
  ·exact step h
theorem placeR_in (B:Int):∀ (l:List Ln) (i:Nat) (a:List Int) (lb:List Sym) (c:Nat) {r},placeR l i a lb c=.ok r→((4 * (c+l.length):Nat):Int)≤B→(∀ v∈a,0≤v∧v≤B)→(∀ y∈lb,0≤y.2.1∧y.2.1≤B) →
  (∀ v∈r.1,0≤v∧v≤B)∧∀ y∈r.2.1,0≤y.2.1∧y.2.1≤B
 | [],_,_,_,_,_,h,_,h1,h2=>by (rw [placeR] at h; cases h; exact ⟨h1,h2⟩)
 | x::l,i,a,lb,c,r,h,hB,h1,h2=>by
  have hs:=sizeN_le x
  simp only [List.length_cons] at hB
  have ha:∀ v∈a++[((4 * c:Nat):Int)],0≤v∧v≤B:=fun v hv=>by
   rcases List.mem_append.1 hv with hv | hv
   ·exact h1 v hv
   ·rw [List.mem_singleton.1 hv]; omega
  rw [placeR] at h
  split at h
  ·exact placeR_in B l _ _ _ _ h (by omega) ha h2
  ·split at h
   ·cases h
   ·refine placeR_in B l _ _ _ _ h (by omega) ha fun y hy=>?_
    rcases List.mem_append.1 hy with hy | hy
    ·exact h2 y hy
    ·rw [List.mem_singleton.1 hy]; dsimp only; omega
theorem placeR_nolab:∀ (l:List Ln) (i:Nat) (t:List Int) (lb:List Sym) (c:Nat),(∀ x∈l,x.1=[])→∃ ats:List Int,placeR l i t lb c=.ok (t++ats,lb,c+(l.map sizeN).sum)∧ats.length=l.length
 | [],_,t,lb,c,_=>⟨[],by rw [placeR,List.append_nil]; rfl,rfl⟩
 | x::l,i,t,lb,c,h=>by
  obtain ⟨ats,h1,h2⟩:=placeR_nolab l (i+1) (t++[((4 * c:Nat):Int)]) lb (c+sizeN x) fun y hy=>h y (by simp [hy])
  refine ⟨((4 * c:Nat):Int)::ats,?_,by simp [h2]⟩
  rw [placeR,if_pos (h x (by simp)),h1,List.append_assoc,List.map_cons,List.sum_cons,Nat.add_assoc]; rfl
theorem sum_le:∀ l:List Ln,(l.map sizeN).sum≤l.length
 | []=>Nat.le_refl _
 | x::l=>by have:=sizeN_le x; have:=sum_le l; rw [List.map_cons,List.sum_cons,List.length_cons]; omega
abbrev goodE (w:List Ln):Prop:=∀ x∈w,∀ y∈eL x,0≤y.2.1∧y.2.1≤4294967295
theorem planR_ways (w:List Ln):(∃ x:Nat×Int,planR w=noPlan x.1 x.2∧x.2≠0∧0 < x.1∧x.1≤w.length∧((∃ y,placeR w 0 [] [] 0=.error y)∨∃ r,placeR w 0 [] [] 0=.ok r∧loadR r.2.1 w 0 []=.error x)) ∨
  ∃ r p,placeR w 0 [] [] 0=.ok r∧loadR r.2.1 w 0 []=.ok p∧planR w=plEnd r.1 r.2.1 r.2.2 (.ok p):=by
 unfold planR plFin
 cases hp:placeR w 0 [] [] 0 with
 | error x=>
  have:=placeR_err _ _ _ _ _ hp
  exact .inl ⟨x,rfl,by omega,by omega,by omega,.inl ⟨x,rfl⟩⟩
 | ok r=>
  dsimp only
  cases hq:loadR r.2.1 w 0 [] with
  | error x=>
   obtain ⟨h1,h2,h3,_⟩:=loadR_err _ _ _ _ hq
   exact .inl ⟨x,rfl,h1,by omega,by omega,.inr ⟨r,rfl,hq⟩⟩
  | ok p=>exact .inr ⟨r,p,rfl,hq,rfl⟩
theorem planR_move (more w:List Ln) (hm:∀ x∈more,x.1=[]∧x.2.1.1≠8) (hw:goodE w) (hl:more.length+w.length≤1000) :
  (∀ i e,planR w=noPlan i e→0 < i→planR (more++w)=noPlan (i+more.length) e) ∧
  ∀ r p,placeR w 0 [] [] 0=.ok r→loadR r.2.1 w 0 []=.ok p→∃ ats:List Int,ats.length=more.length ∧
   planR (more++w)=plEnd (ats++r.1.map (fun y=>y+((4 * (more.map sizeN).sum:Nat):Int))) (r.2.1.map (shS ((4 * (more.map sizeN).sum:Nat):Int))) (r.2.2+(more.map sizeN).sum) (.ok (p.map (mv ((4 * (more.map sizeN).sum:Nat):Int)))):=by
 obtain ⟨ats,h1,h2⟩:=placeR_nolab more 0 [] [] 0 fun x hx=>(hm x hx).1
 have hk:=sum_le more
 generalize (more.map sizeN).sum=k at h1 hk
 rw [List.nil_append,Nat.zero_add] at h1
 have hp:=placeR_app more w 0 [] [] 0
 rw [h1] at hp
 dsimp only at hp
 have hmv:=placeR_move k more.length ats w 0 0 [] [] (by omega)
 simp only [List.map_nil,List.append_nil,Nat.zero_add] at hmv hp
 rw [hmv] at hp
 have hload:∀ lb,loadR lb (more++w) 0 []=loadR lb w (0+more.length) []:=fun lb=>by
  rw [loadR_app,loadR_none lb more 0 [] fun x hx=>(hm x hx).2]
 have hlm:∀ lb,loadR (lb.map (shS ((4 * k:Nat):Int))) (more++w) 0 []=match loadR lb w 0 [] with
  | .error x=>.error (x.1+more.length,x.2)
  | .ok r=>.ok (r.map (mv ((4 * k:Nat):Int))):=fun lb=>by
  rw [hload]
  have:=loadR_move ((4 * k:Nat):Int) more.length lb w 0 [] hw (fun v hv=>by cases hv)
  rw [List.map_nil] at this
  exact this
 constructor
 ·intro i e hpl hi
  unfold planR plFin at hpl ⊢
  rw [hp]
  cases hq:placeR w 0 [] [] 0 with
  | error x=>
   rw [hq] at hpl
   dsimp only at hpl ⊢
   unfold noPlan at hpl ⊢
   simp only [Prod.mk.injEq,true_and,and_true] at hpl
   rw [hpl.2,show x.1=i by omega]
  | ok r=>
   rw [hq] at hpl
   dsimp only at hpl ⊢
   rw [hlm]
   cases hz:loadR r.2.1 w 0 [] with
   | error x=>
    rw [hz] at hpl
    unfold plEnd at hpl ⊢
    dsimp only at hpl ⊢
    unfold noPlan at hpl ⊢
    simp only [Prod.mk.injEq,true_and,and_true] at hpl
    rw [hpl.2,show x.1=i by omega]
   | ok p=>
    rw [hz] at hpl
    unfold plEnd at hpl
    dsimp only at hpl
    exfalso
    split at hpl
    ·unfold noPlan at hpl
     simp only [Prod.mk.injEq,true_and,and_true] at hpl
     omega
    ·unfold noPlan at hpl
     simp only [Prod.mk.injEq] at hpl
     have:=hpl.2.2.2.2.2.1
     omega
 ·intro r p hr hq
  refine ⟨ats,h2,?_⟩
  unfold planR plFin
  rw [hp,hr]
  dsimp only
  rw [hlm,hq]
end Rv
