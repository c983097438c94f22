/- Texts put together. -/
import Derived.Test.YtfphlcngbllgoaaGreatDoorSS4
set_option linter.all false
namespace Rv
open Go
theorem dsites_wf{a b c:Int}(ha:(Lit.int .u8 a).wf=true)(hb:(Lit.int .u8 b).wf=true)(hc:(Lit.int .u8 c).wf=true):rivetlaw23_DisasmSites.g a b c=some (true,()):=by
 have ha:=PE ha;have hb:=PE hb;have hc:=PE hc;have e1:IntKind.i64.wrap (1+IntKind.i64.wrap (Int.tmod a 32))=((1+a.toNat % 32:Nat):Int):=by
  rw[Vl ha.1,w64 (x:=a % 32) (by omega),w64 (by omega)];omega
 have e2:∀n:Nat,n<=32->IntKind.i64.wrap (IntKind.i64.wrap (4*(n:Int))+1)=((4*n+1:Nat):Int):=fun n hn=>by
  rw[w64 (x:=4*(n:Int)) (by omega),w64 (by omega)];omega
 have e3:∀(n:Nat) (x:Int),0<=x/\x<=255->0<n->Int.tmod (IntKind.i64.wrap x) (n:Int)=((x.toNat % n:Nat):Int):=fun n x hx hn=>by
  rw[w64 (by omega),Vl hx.1,Int.natCast_emod,Int.toNat_of_nonneg hx.1]
 unfold rivetlaw23_DisasmSites.g rivetlaw23_DisasmSites.f;rw[Ia,Uv];simp only[e1];have hn:1<=1+a.toNat % 32/\1+a.toNat % 32<=32:=by omega
 generalize 1+a.toNat % 32=n at hn;simp only[e2 n hn.2,e3 n b hb (by omega),e3 (4*n+1) c hc (by omega)];have hk:b.toNat % n<n:=Nat.mod_lt _ (by omega);have hv:c.toNat % (4*n+1)<4*n+1:=Nat.mod_lt _ (by omega);generalize b.toNat % n=k at hk;generalize c.toNat % (4*n+1)=v at hv;have e4:IntKind.u32.wrap ((v:Nat):Int)=((v:Nat):Int):=by rw[IntKind.wrap_u32];omega
 simp only[e4,UL];have hlen:((List.replicate n (0:Int)).set k (v:Int)).length=n:=by simp
 have hget:((List.replicate n (0:Int)).set k (v:Int)).getD k 0=(v:Int):=by
  rw[UH,List.getElem?_set_self (by simpa using hk)];rfl
 have hrl:(List.replicate n (0:Int)).length=n:=by simp
 have hmem:∀x∈(List.replicate n (0:Int)).set k (v:Int),0<=x/\x<=4294967295:=fun x hx=>by
  rcases List.mem_or_eq_of_mem_set hx with hx|rfl;·rw[List.eq_of_mem_replicate hx];decide
  ·omega
 rw[if_neg (by omega),if_neg (by omega),if_pos ⟨by omega,trivial,by omega,by decide,by decide⟩,if_pos ⟨by omega,by rw[Vm];omega⟩];generalize (List.replicate n (0:Int)).set k (v:Int)=ws at hlen hget hmem;have h0:∀i,i<([(k:Int)]:List Int).length->([(k:Int)]:List Int).getD i 0=(k:Int):=fun i hi=>by
  obtain rfl:i=0:=by simpa using hi
  rfl
 have O:OkO ws [(k:Int)] []:={
  lw:=by omega
  wr:=hmem
  lt:=fun i j hij hj=>by have:j<1:=hj;omega
  at_:=fun i hi=>by rw[h0 i hi];omega
  low:=fun i hi=>by rw[h0 i hi,UL,hget];omega
  bey:=fun i hi=>by rw[h0 i hi,UL,hget];omega
  nm:=fun x hx=>by cases hx
  srt:=List.Pairwise.nil
  sat_:=fun x hx=>by cases hx
  ly:=by simp }
 obtain⟨s,s1,s2,s3,s4⟩:=DV O (by omega);have hline:jJ ws [(k:Int)] k=stN 9 (if(v:Int) % 4=0 then nmE (v:Int) else nmE 0++eU (v:Int)++[((4:Int),0,[],())]):=by
  unfold jJ;rw[if_neg (by omega),if_pos (by simp),hget]
 have hnl:=EA (v:Int);have hnu:=Ac (v:=(v:Int)) (by omega);rw[DX O.ok [] k (by omega),Uv,s2,Uv];dsimp only;rw[s4,Uv,hline];have ht:Int.tmod (v:Int) 4=(v:Int) % 4:=Vl (by omega);rw[ht];have fin:∀(e:List Item) (i:Int),(e.length:Int)=i->rivetlaw23_DisasmSites.j13 (some (true,())) (1000+a.toNat+b.toNat+c.toNat) true (k:Int) 0 0 0 i ws [(k:Int)] [] (stN 9 e).1 (stN 9 e).2.1 (stN 9 e).2.2.1 (stN 9 e).2.2.2.1 (stN 9 e).2.2.2.2.1 (stN 9 e).2.2.2.2.2.1 (stN 9 e).2.2.2.2.2.2.1 (stN 9 e).2.2.2.2.2.2.2.1 ws [(k:Int)] []=some (true,()):=fun e i he=>by
  unfold rivetlaw23_DisasmSites.j13 stN;dsimp only;rw[if_pos rfl,if_pos (by simp),if_pos (by simp),if_pos (by simp),if_pos (by simp),if_pos (by simpa using he),Me ws (by omega),Uv];dsimp only;rw[if_pos rfl,if_pos (by simp),if_pos ⟨by decide,by simp⟩];simp
 by_cases h4:(v:Int) % 4=0;·rw[if_pos h4,if_neg (by simpa using h4)];exact fin _ _ rfl
 ·rw[if_neg h4,if_pos (by simpa using h4),hnu];exact fin _ _ rfl
end Rv
