/- Texts put together. -/
import Derived.Test.YtfphlcngbllgoaaGreatDoorBB4
import Derived.Test.YtfphlcngbllgoaaGreatDoorBBPSame
set_option linter.all false
namespace Rv
open Go
theorem GH(a:List Ln)(ha:a.length<=1000000)(h:∀x∈a,Fw x):Zcc.g a a=some (true,()):=by
 have loop:∀(n m i:Nat),i<=a.length->a.length-i<m->Zcc.l4 n m a a (i:Int)=some (true,()):=by
  intro n m
  induction m with
  |zero=>intro i _ h;omega
  |succ m ih=>
   intro i hi hm;rw[Zcc.l4];simp only[dt,df,Vj];by_cases hlt:i<a.length
   ·have hx:Fw (a.getD i zL):=by
     refine h _ ?_;rw[Vh,Ve hlt];exact VI hlt
    generalize a.getD i zL=x at hx;have hs:=ME ⟨x.2.1.1,x.2.1.2.1,x.2.1.2.2.1,x.2.1.2.2.2.1,x.2.1.2.2.2.2.1,x.2.1.2.2.2.2.2.1,x.2.1.2.2.2.2.2.2.1,x.2.1.2.2.2.2.2.2.2.1⟩ (by have:x.2.1.2.2.2.2.2.2.1.length<=64:=hx;dsimp only;omega);dsimp only at hs;rw[if_pos (by omega),if_pos (by omega),if_pos (by omega),hs,U4,if_pos (by decide),if_pos (by omega),if_pos (by omega),if_neg (by simp),w64 (by omega)];exact ih (i+1) (by omega) (by omega)
   ·rw[if_neg (by omega)]
 unfold Zcc.g Zcc.f;rw[if_neg (by simp)];exact loop _ _ 0 (by omega) (by omega)
end Rv
