/- Texts put together. -/
import Derived.Test.YtbommpjdbjfdjaaGreatDoorS3
set_option linter.all false
namespace Rv
open Go
theorem encV_good {k o a b c i:Int} {u:Bool} (h:(encV k o a b c i u).2.1=0):GoodI0 k o a b c u∧ImmP k o i u∧(encV k o a b c i u).1=((wordV k o a b c i u).toNat:Int):=by
 unfold encV at h ⊢
 split at h
 ·rename_i hg
  obtain ⟨g1,g2⟩:=(good_iff k o a b c i u).2 hg
  exact ⟨g1,g2,by rw [if_pos hg]⟩
 ·exact absurd h (by decide)
theorem dec_eq {k o a b c i:Int} {u:Bool} (h:(encV k o a b c i u).2.1=0):Zbq.g (encV k o a b c i u).1=some (k,o,a,b,c,i,u,true,()):=by
 obtain ⟨g1,g2,g3⟩:=encV_good h
 rw [g3]
 unfold Zbq.g Zbq.f
 rw [iread_eq,Option.bind_some,read_goodI g1 g2]
 dsimp only
 rw [isa_goodI g1 g2,Option.bind_some]
 dsimp only
 rw [if_pos (by decide),iword_eq,Option.bind_some]
 dsimp only
 rw [if_neg (by simp)]
theorem dec_total {v:Int} (h:0≤v∧v≤4294967295):∃ r,Zbq.g v=some r:=by
 obtain ⟨W,rfl⟩:∃ W:W32,v=(W.toNat:Int):=⟨BitVec.ofInt 32 v,by rw [BitVec.toNat_ofInt]; omega⟩
 unfold Zbq.g Zbq.f
 rw [iread_eq,Option.bind_some]
 obtain ⟨r,hr,_⟩:=isa_total (readT W).1 (readT W).2.1 (readT W).2.2.1 (readT W).2.2.2.1 (readT W).2.2.2.2.1 (readT W).2.2.2.2.2.1 (readT W).2.2.2.2.2.2.1
 rw [hr,Option.bind_some]
 cases r with
 | false=>exact ⟨_,rfl⟩
 | true=>
  dsimp only
  rw [if_pos (by decide),iword_eq,Option.bind_some]
  split <;> exact ⟨_,rfl⟩
section
variable (lb:List Sym) (q:List Val) (fr wd:Int) (t:List Int)
theorem lines_words:∀ (l:List Ln) (i:Nat) (r r':WrT),t.drop i=atsR l r.1.length→linesW lb q fr wd t l i r=.ok r'→(∃ ws,r'.1=r.1++ws) ∧
  ∀ j,j < l.length→sizeN (l.getD j zL)≠0→∃ (c:Nat) (w:Int×Bool),t.getD (i+j) 0=((4 * c:Nat):Int)∧r'.1[c]?=some w.1∧wordR lb q fr wd (l.getD j zL).2.1 ((4 * c:Nat):Int)=.ok w
 | [],i,r,r',_,h=>by
  rw [linesW] at h; cases h
  exact ⟨⟨[],by simp⟩,fun j hj=>by simp at hj⟩
 | x::l,i,r,r',ht,h=>by
  obtain ⟨ht1,ht2⟩:=atsR_head ht
  rw [linesW] at h
  split at h
  ·cases h
  ·rename_i r1 h1
   unfold lineA at h1
   have step:∀ (hz:sizeN x=0) (hr:r1.1=r.1),(∃ ws,r'.1=r.1++ws) ∧
     ∀ j,j < (x::l).length→sizeN ((x::l).getD j zL)≠0→∃ (c:Nat) (w:Int×Bool),t.getD (i+j) 0=((4 * c:Nat):Int)∧r'.1[c]?=some w.1∧wordR lb q fr wd ((x::l).getD j zL).2.1 ((4 * c:Nat):Int)=.ok w:=by
    intro hz hr
    rw [hz,Nat.add_zero,← hr] at ht2
    obtain ⟨a1,a2⟩:=lines_words l (i+1) r1 r' ht2 h
    rw [hr] at a1
    refine ⟨a1,fun j hj hs=>?_⟩
    cases j with
    | zero=>exact absurd hz hs
    | succ j=>
     have:=a2 j (by simpa using hj) (by simpa using hs)
     rw [show i+(j+1)=i+1+j by omega]
     simpa using this
   by_cases k0:x.2.1.1=0
   ·rw [if_pos k0] at h1; cases h1
    exact step (by unfold sizeN; rw [if_pos (.inl k0)]) rfl
   rw [if_neg k0] at h1
   by_cases k10:x.2.1.1=10
   ·rw [if_pos k10] at h1
    split at h1
    ·cases h1
    ·cases h1
     exact step (by unfold sizeN; rw [if_pos (.inr k10)]) rfl
   rw [if_neg k10] at h1
   split at h1
   ·cases h1
   ·rename_i w hW
    cases h1
    have hz:sizeN x=1:=by unfold sizeN; rw [if_neg (by omega)]
    have hl1:(putW r w.1 w.2).1=r.1++[w.1]:=rfl
    rw [hz] at ht2
    obtain ⟨⟨ws,hws⟩,a2⟩:=lines_words l (i+1) (putW r w.1 w.2) r' (by rw [hl1,List.length_append]; exact ht2) h
    rw [hl1,List.append_assoc] at hws
    refine ⟨⟨_,hws⟩,fun j hj hs=>?_⟩
    cases j with
    | zero=>
     refine ⟨r.1.length,w,ht1,?_,by rw [← ht1]; exact hW⟩
     rw [hws,List.getElem?_append_right (Nat.le_refl _),Nat.sub_self]; rfl
    | succ j=>
     have:=a2 j (by simpa using hj) (by simpa using hs)
     rw [show i+(j+1)=i+1+j by omega]
     simpa using this
end
theorem pool_words:∀ (l:List Val) (r:WrT),(poolW l r).1=r.1++l.map (·.1)
 | [],r=>by simp [poolW]
 | v::l,r=>by
  rw [poolW,pool_words l]
  show (r.1++[v.1])++_=_
  rw [List.append_assoc]; rfl
theorem posR_get:∀ {q:List Val} {v:Val},v∈q→posR v q < q.length∧q[posR v q]?=some v
 | [],_,h=>by cases h
 | x::q,v,h=>by
  unfold posR
  by_cases e:x=v
  ·rw [if_pos e]; exact ⟨by simp,by simp [e]⟩
  ·rw [if_neg e]
   obtain ⟨h1,h2⟩:=posR_get (show v∈q by rcases List.mem_cons.1 h with g | g; exact absurd g.symm e; exact g)
   exact ⟨by simpa using h1,by simpa using h2⟩
theorem numR_back {v low high:Int} (hv:0≤v∧v≤4294967295) (h:(numR (IntKind.i64.wrap (IntKind.i32.wrap v)) (IntKind.i64.wrap v) low high).2.1=0):IntKind.u32.wrap (numR (IntKind.i64.wrap (IntKind.i32.wrap v)) (IntKind.i64.wrap v) low high).1=v:=by
 unfold numR at h ⊢
 split at h
 ·rename_i g; rw [if_pos g]
  simp only [IntKind.wrap_u32,IntKind.wrap_i32,IntKind.wrap_i64]; omega
 ·rename_i g1
  split at h
  ·rename_i g; rw [if_neg g1,if_pos g]
   simp only [IntKind.wrap_u32,IntKind.wrap_i64]; omega
  ·exact absurd h (by decide)
theorem numV_back {lb:List Sym} {e:List Item} {low high:Int} (hv:0≤(vOf lb e).1∧(vOf lb e).1≤4294967295) (h:(numV lb e low high).2.1=0):IntKind.u32.wrap (numV lb e low high).1=(vOf lb e).1:=by
 unfold numV at h ⊢
 split at h
 ·rename_i g; exact absurd h g
 ·rename_i g1
  split at h
  ·exact absurd h (by decide)
  ·rename_i g2
   rw [if_neg g1,if_neg g2]
   exact numR_back hv h
theorem far_back {v ad:Int} {c:Nat} (hc:c≤100000) (hv:0≤v∧v≤4294967295) (h:(farV v ad ((4 * c:Nat):Int)).2.1=0):IntKind.u32.wrap (IntKind.i64.wrap (IntKind.i64.wrap (IntKind.i64.wrap (4 * (c:Int))+4)+IntKind.i64.wrap (4 * (farV v ad ((4 * c:Nat):Int)).1)))=v:=by
 unfold farV at h ⊢
 split at h
 ·exact absurd h (by decide)
 ·rename_i g1
  split at h
  ·exact absurd h (by decide)
  ·rename_i g2
   rw [if_neg g1,if_neg g2]
   dsimp only
   have hd:farD v ((4 * c:Nat):Int)=IntKind.i64.wrap (IntKind.i32.wrap (IntKind.u32.wrap (IntKind.u32.wrap (v - IntKind.u32.wrap ((4 * c:Nat):Int)) - 4))):=rfl
   generalize farD v ((4 * c:Nat):Int)=d at *
   have hm:Int.tmod d 4=0:=by
    rcases Int.decEq (Int.tmod d 4) 0 with g | g
    ·exact absurd (Or.inl g) g2
    ·exact g
   have hq:d=4 * Int.tdiv d 4:=by have:=Int.mul_tdiv_add_tmod d 4; omega
   generalize Int.tdiv d 4=n at *
   have hr:-2147483648≤d∧d≤2147483647:=by
    rw [hd]; simp only [IntKind.wrap_u32,IntKind.wrap_i32,IntKind.wrap_i64]; omega
   rw [w64 (x:=n) (by omega),← hq,w64 (x:=d) (by omega),w64 (x:=4 * (c:Int)) (by omega),w64 (x:=4 * (c:Int)+4) (by omega),w64 (by omega),hd]
   simp only [IntKind.wrap_u32,IntKind.wrap_i32,IntKind.wrap_i64]
   omega
end Rv
