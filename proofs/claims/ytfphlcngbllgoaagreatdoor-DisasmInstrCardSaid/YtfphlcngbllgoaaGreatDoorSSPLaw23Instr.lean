/- Texts put together. -/
import Derived.Test.YtfphlcngbllgoaaGreatDoorSS4
import Derived.Test.YtfphlcngbllgoaaGreatDoorSSPFitI
set_option linter.all false
namespace Rv
open Go
theorem SI{w:Int}(h:0<=w/\w<=4294967295):OkO [w] [] [] where
 lw:=by simp
 wr:=fun x hx=>by rw[UV.1 hx];exact h
 lt:=fun i j _ hj=>by simp at hj
 at_:=fun i hi=>by simp at hi
 low:=fun i hi=>by simp at hi
 bey:=fun i hi=>by simp at hi
 nm:=fun x hx=>by cases hx
 srt:=List.Pairwise.nil
 sat_:=fun x hx=>by cases hx
 ly:=by simp
theorem wO(sh:Option (Bool×Unit))(n:Nat){x:Int}(hx:0<=x/\x<=4294967295):∀(m k:Nat) (w:Int),k<=2->2-k<m->(0<=w/\w<=4294967295)->rivetlaw23_DisasmInstr.l4 sh n m w true x 0 (k:Int)=some (true,())
 |0,k,w,_,h,_=>by omega
 |m+1,k,w,hk,h,hw=>by
  rw[rivetlaw23_DisasmInstr.l4];by_cases h2:k<2;·obtain⟨s,s1,s2,s3,s4⟩:=DV (SI hw) (by simp);rw[if_pos (by simp;omega),s2,Uv];dsimp only;rw[s4,Uv];dsimp only;rw[if_pos (by simp),if_pos (by simp),if_pos (by simp),Me [w] (by simp),Uv];dsimp only;rw[if_pos (by simp),if_pos (by simp),if_neg (by simp),w64 (by omega)];exact wO sh n hx m (k+1) x (by omega) (by omega) hx
  ·rw[if_neg (by simp;omega),if_pos rfl];rfl
theorem dinstr_wf{w i0 i1 i2 i3 i4 i5:Int}{u:Bool}(h:(Lit.int .u32 w).wf=true):rivetlaw23_DisasmInstr.g w i0 i1 i2 i3 i4 i5 u=some (true,()):=by
 obtain⟨o,a,b,c,i,u',hf,hg,hi⟩:=Qw i0 i1 i2 i3 i4 i5 u;generalize 1+Int.tmod (Int.tmod i0 7+7) 7=k at hf hg hi;have he:pu k o a b c i u'=(((aQ k o a b c i u').toNat:Int),0,()):=by
  unfold pu;rw[if_pos ((rC k o a b c i u').1 ⟨hg,hi⟩)]
 have hlt:=(aQ k o a b c i u').isLt;unfold rivetlaw23_DisasmInstr.g rivetlaw23_DisasmInstr.f;rw[Ia,Uv,hf,Uv];dsimp only;rw[GR,he,Uv];exact wO _ _ (by omega) _ 0 w (by omega) (by omega) (TY h)
end Rv
