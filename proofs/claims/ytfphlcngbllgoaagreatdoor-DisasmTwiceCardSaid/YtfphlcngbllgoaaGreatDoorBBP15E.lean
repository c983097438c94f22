/- Texts put together. -/
import Derived.Test.YtfphlcngbllgoaaGreatDoorBB2
set_option linter.all false
namespace Rv
open Go
theorem J4(a:List Item)(ha:a.length<=1000):Zck.g a a=some (true,()):=by
 have loop:∀(n m i:Nat),i<=a.length->a.length-i<m->Zck.l4 n m a a (i:Int)=some (true,()):=by
  intro n m
  induction m with
  |zero=>intro i _ h;omega
  |succ m ih=>
   intro i hi hm;rw[Zck.l4];simp only[dt];by_cases h:i<a.length;·rw[if_pos (by omega),if_pos (by omega),if_pos (by omega),if_neg (by simp),w64 (by omega)];exact ih (i+1) (by omega) (by omega)
   ·rw[if_neg (by omega)]
 unfold Zck.g Zck.f;rw[if_neg (by simp)];exact loop _ _ 0 (by omega) (by omega)
end Rv
