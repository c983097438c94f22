/- Texts put together. -/
import Derived.Test.YtbommpjdbjfdjaaGreatDoorL3
import Derived.Test.YtbommpjdbjfdjaaGreatDoorLPShort20
set_option linter.all false
namespace Rv
open Go
theorem all20_loop (n:Nat) (w:List Ln) (hw:w.length≤1000000) (b c j k:Int) (t1:List Int) (l1:List Sym) (q1:List Val) (f1 w1:Int) (t2:List Int) (l2:List Sym) (q2:List Val) (f2 w2:Int)
  (a1:t1.length≤1000000) (a2:l1.length≤1000000) (a3:q1.length≤1000000) (b1:t2.length≤1000000) (b2:l2.length≤1000000) (b3:q2.length≤1000000):∀ (m i:Nat),i≤w.length→w.length - i < m →
  rivetlaw20_LayoutAll.l8 n m true b c b c w j k j k (i:Int) t1 l1 q1 f1 w1 t1 l1 q1 f1 w1 t2 l2 q2 f2 w2 t2 l2 q2 f2 w2=some (true,()):=by
 intro m
 induction m with
 | zero=>intro i _ h; omega
 | succ m ih=>
  intro i hi hm
  rw [rivetlaw20_LayoutAll.l8]
  simp only [dt,Int.toNat_natCast]
  by_cases h:i < w.length
  ·rw [if_pos (by omega),if_pos (by omega),lsize_eq,Option.bind_some,if_pos (by omega),rsize_eq,Option.bind_some,if_neg (by simp),w64 (by omega)]
   exact ih (i+1) (by omega) (by omega)
  ·rw [if_neg (by omega),if_pos trivial,same20 t1 l1 q1 f1 w1 a1 a2 a3,Option.bind_some,if_pos rfl,if_pos trivial,if_pos trivial,same20 t2 l2 q2 f2 w2 b1 b2 b3,Option.bind_some,if_pos rfl,if_pos trivial]
   simp
theorem lall_wf {a:List Ln} (h:(a.length≤maxLen∧∀ x∈a,wfLn2 x)∧True):rivetlaw20_LayoutAll.g a=some (true,()):=by
 obtain ⟨r,hr,hl,hs⟩:=short_eq a (fun x hx y hy=>by
  obtain ⟨_,⟨_,_,_,_,_,_,w2,_⟩,_⟩:=h.1.2 x hx
  exact wfU32 (w2.2 y hy).2.1)
 obtain ⟨q,hq,hql,hqo⟩:=fitX a h.1.2
 obtain ⟨w,hw,hn⟩:=fit20 q hqo
 have hrm:∀ x∈r,midL x:=fun x hx=>⟨by have:=(hs x hx).2.1; omega,fun y hy=>by have:=((hs x hx).2.2.1 y hy).2; omega⟩
 obtain ⟨lb,_,hnx⟩:=hn.ln
 have hwm:∀ x∈w,midL x:=fun x hx=>(ok_mid (hnx x hx).1).1
 have hwl:=hn.len
 obtain ⟨p1,p2,p3⟩:=planR_len r
 obtain ⟨p4,p5,p6⟩:=planR_len w
 unfold rivetlaw20_LayoutAll.g rivetlaw20_LayoutAll.f
 rw [shown20,Option.bind_some,hr,Option.bind_some,plan_eq r (by omega) (fun x hx=>by have:=(hrm x hx).1; omega),Option.bind_some,Option.bind_some,rplan_eq r (by omega) hrm,Option.bind_some,hq,Option.bind_some,hw,Option.bind_some,
  plan_eq w (by omega) (fun x hx=>by have:=(hwm x hx).1; omega),Option.bind_some,rplan_eq w (by omega) hwm,Option.bind_some]
 exact all20_loop (1000+a.length) w (by omega) _ _ _ _ _ _ _ _ _ _ _ _ _ _ (by omega) (by omega) (by omega) (by omega) (by omega) (by omega) (1000+a.length) 0 (by omega) (by omega)
end Rv
