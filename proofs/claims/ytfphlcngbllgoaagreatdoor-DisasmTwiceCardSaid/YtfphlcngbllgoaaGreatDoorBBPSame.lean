/- Texts put together. -/
import Derived.Test.YtfphlcngbllgoaaGreatDoorBB3
import Derived.Test.YtfphlcngbllgoaaGreatDoorBBP15E
set_option linter.all false
namespace Rv
open Go
theorem ME(s:Sm)(he:s.e.length<=1000):Zem.g s.k s.o s.a s.b s.c s.u s.e s.nm s.k s.o s.a s.b s.c s.u s.e s.nm=some (true,()):=by
 unfold Zem.g;generalize 1000+_+_+_+_+_+_+_+_+_+_+_+_+_+_=n;unfold Zem.f Zel.g Zel.f;rw[U4,U4,J4 s.e he,if_pos (by simp),U4,if_pos rfl];simp
end Rv
