/- Texts put together. -/
import Derived.Test.YtfphlcngbllgoaaGreatDoorBBPTxtS
set_option linter.all false
namespace Rv
open Go
theorem dtwice_wf{a b:List Int}{c:List Str}(h:Qe a b c):rivetlaw23_DisasmTwice.g a b c=some (true,()):=by
 obtain⟨ws,ss,ys,hf,O,hw,hy⟩:=made h;obtain⟨s,s1,s2,s3,s4⟩:=Eb O (by omega);have hll:=nW O;have hsh:∀x∈dB ws ss ys,Fw x:=λx hx=>by
  obtain⟨g,rfl,_,_⟩:=pg O x hx;exact(uE g.hg).1
 unfold rivetlaw23_DisasmTwice.g rivetlaw23_DisasmTwice.f;rw[Iw,U4,hf,U4];dsimp only;rw[BI O,U4,s2,U4];dsimp only;rw[s3,U4,Af O (by omega),U4];dsimp only;rw[s2,U4];dsimp only;rw[if_pos rfl,if_pos (by simp),if_pos (by simp),if_pos (by simp),if_pos (by simp),if_pos (by simp),GH _ (by omega) hsh,U4];dsimp only;rw[if_pos rfl,decide_eq_true rfl]
end Rv
