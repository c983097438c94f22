/- Texts put together. -/
import Derived.Test.YtbommpjdbjfdjaaGreatDoorL2
import Derived.Test.YtbommpjdbjfdjaaGreatDoorL1
set_option linter.all false
namespace Rv
open Go
def smI (x:Item):Prop:=(0≤x.2.1∧x.2.1≤4294967295)∧x.2.2.1.length≤20
def smLn (x:Ln):Prop:=x.1.length≤20∧(eL x).length≤20∧(∀ y∈eL x,smI y)∧x.2.1.2.2.2.2.2.2.2.1.length≤20
theorem mn20 (n:Nat):mn (n:Int) 20=((min n 20:Nat):Int):=by unfold mn; split <;> omega
theorem take20 (s:Str):((s.take (min s.length 20)).drop 0).length≤20:=by rw [List.drop_zero,List.length_take]; omega
theorem short_items (a b:List Ln) (c:Int) (lb:Str) (k o A B C:Int) (u:Bool) (e:List Item) (nm:Str) (he:∀ x∈e,0≤x.2.1∧x.2.1≤4294967295) (n:Nat) (rl):∀ (m i:Nat) (d:List Item),i≤20→20 - i < m→d.length=i→(∀ x∈d,smI x) →
  ∃ r,Zan.l10 n rl m a b c d (i:Int) lb k o A B C u e nm=Zan.j15 n rl a b c r lb k o A B C u e nm∧r.length≤20∧∀ x∈r,smI x:=by
 intro m
 induction m with
 | zero=>intro i d _ h; omega
 | succ m ih=>
  intro i d hi hm hd hs
  rw [Zan.l10]
  simp only [dt,Int.toNat_natCast]
  by_cases h:i < e.length
  ·rw [if_pos (by omega)]
   by_cases h2:i < 20
   ·have hg:e.getD i zI∈e:=by rw [List.getD_eq_getElem?_getD,List.getElem?_eq_getElem h]; exact List.getElem_mem h
    have hr:=he _ hg
    generalize e.getD i zI=x at hr ⊢
    have W1:IntKind.i64.wrap ((i:Int)+1)=((i+1:Nat):Int):=by rw [w64 (by omega)]; omega
    rw [if_pos (by omega),if_pos (by omega),mn20,Int.toNat_natCast,if_pos (by omega),if_pos (by simp; omega),W1]
    refine ih (i+1) _ (by omega) (by omega) (by simp [hd]) fun y hy=>?_
    rcases List.mem_append.1 hy with g | g
    ·exact hs y g
    ·rw [List.mem_singleton.1 g]
     exact ⟨hr,take20 _⟩
   ·rw [if_neg (by omega)]
    exact ⟨d,rfl,by omega,hs⟩
  ·rw [if_neg (by omega)]
   exact ⟨d,rfl,by omega,hs⟩
theorem short_loop (a:List Ln) (ha:∀ x∈a,∀ y∈eL x,0≤y.2.1∧y.2.1≤4294967295) (n:Nat) (hn:100≤n):∀ (m i:Nat) (out:List Ln),i≤20→20 - i < m→out.length=i→(∀ x∈out,smLn x) →
  ∃ r,Zan.l3 n m a out (i:Int)=some (r,())∧r.length≤20∧∀ x∈r,smLn x:=by
 intro m
 induction m with
 | zero=>intro i out _ h; omega
 | succ m ih=>
  intro i out hi hm ho hs
  rw [Zan.l3]
  simp only [dt,Int.toNat_natCast]
  by_cases h:i < a.length
  ·rw [if_pos (by omega)]
   by_cases h2:i < 20
   ·have hg:a.getD i zL∈a:=by rw [List.getD_eq_getElem?_getD,List.getElem?_eq_getElem h]; exact List.getElem_mem h
    have hr:=ha _ hg
    generalize a.getD i zL=x at hr ⊢
    have W1:IntKind.i64.wrap ((i:Int)+1)=((i+1:Nat):Int):=by rw [w64 (by omega)]; omega
    rw [if_pos (by omega),if_pos (by omega),mn20,Int.toNat_natCast,if_pos (by omega),mn20,Int.toNat_natCast,if_pos (by omega)]
    obtain ⟨r,h1,h3,h4⟩:=short_items a out (i:Int) ((x.1.take (min x.1.length 20)).drop 0) x.2.1.1 x.2.1.2.1 x.2.1.2.2.1 x.2.1.2.2.2.1 x.2.1.2.2.2.2.1 x.2.1.2.2.2.2.2.1 x.2.1.2.2.2.2.2.2.1 ((x.2.1.2.2.2.2.2.2.2.1.take (min x.2.1.2.2.2.2.2.2.2.1.length 20)).drop 0) hr n (Zan.l3 n m) n 0 [] (by omega) (by omega) rfl (fun y hy=>by cases hy)
    rw [show ((0:Nat):Int)=0 from rfl] at h1
    rw [h1]
    unfold Zan.j15
    rw [if_pos (by simp; omega),W1]
    refine ih (i+1) _ (by omega) (by omega) (by simp [ho]) fun y hy=>?_
    rcases List.mem_append.1 hy with g | g
    ·exact hs y g
    ·rw [List.mem_singleton.1 g]
     exact ⟨take20 _,h3,h4,take20 _⟩
   ·rw [if_neg (by omega)]
    exact ⟨out,rfl,by omega,hs⟩
  ·rw [if_neg (by omega)]
   exact ⟨out,rfl,by omega,hs⟩
theorem short_eq (a:List Ln) (ha:∀ x∈a,∀ y∈eL x,0≤y.2.1∧y.2.1≤4294967295):∃ r,Zan.g a=some (r,())∧r.length≤20∧∀ x∈r,smLn x:=by
 unfold Zan.g Zan.f
 exact short_loop a ha _ (by omega) _ 0 [] (by omega) (by omega) rfl fun x hx=>by cases hx
end Rv
