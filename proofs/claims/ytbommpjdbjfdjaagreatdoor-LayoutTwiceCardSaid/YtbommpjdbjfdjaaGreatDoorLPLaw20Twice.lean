/- Texts put together. -/
import Derived.Test.YtbommpjdbjfdjaaGreatDoorL3
import Derived.Test.YtbommpjdbjfdjaaGreatDoorLPPlanW
set_option linter.all false
namespace Rv
open Go
abbrev hiL2:Ln:=([],(3,0,0,0,0,false,[],[],()),())
abbrev twA:Ln:=(twice,(0,0,0,0,0,false,[],[],()),())
abbrev twB:Ln:=(twice,(8,0,0,0,0,false,[],[],()),())
theorem findR_last (s:Str) (v:Int):∀ (a b:List Sym),(findR s (a++(s,v,())::b)).isSome=true
 | [],b=>by rw [List.nil_append,findR,if_pos rfl]; rfl
 | x::a,b=>by
  rw [List.cons_append,findR]
  split
  ·rfl
  ·exact findR_last s v a b
theorem twice_plan (a b c:List Ln) (h:(lnLabs (a++[twA]++b)).Nodup):planR (a++[twA]++b++[twB]++c)=noPlan (a.length+b.length+2) 26:=by
 obtain ⟨r,hr⟩:=placeR_ok (a++[twA]++b) 0 [] [] 0 (by simpa using h)
 have hform:=placeR_form _ 0 [] [] 0 hr
 rw [List.nil_append,List.nil_append,Nat.zero_add] at hform
 have hf:(findR twice r.2.1).isSome=true:=by
  rw [hform]
  dsimp only
  rw [lbs_app,lbs_app,List.append_assoc]
  exact findR_last twice _ _ _
 unfold planR plFin
 rw [List.append_assoc (a++[twA]++b),placeR_app,hr]
 dsimp only
 rw [List.cons_append,placeR,if_neg (by decide),if_pos hf]
 dsimp only
 simp only [List.length_append,List.length_singleton]
 rw [show 0+(a.length+1+b.length)+1=a.length+b.length+2 by omega]
theorem long_plan (k:Nat) (hk:k≤2000):planR (List.replicate k hiL2)=if 1024 < k then noPlan 0 2 else (atsR (List.replicate k hiL2) 0,[],[],((4 * k:Nat):Int),(k:Int),0,0,()):=by
 have hl:∀ x∈List.replicate k hiL2,x.1=[]∧x.2.1.1≠8:=fun x hx=>by rw [List.eq_of_mem_replicate hx]; exact ⟨rfl,by decide⟩
 have hsum:((List.replicate k hiL2).map sizeN).sum=k:=by
  rw [List.map_replicate,List.sum_replicate_nat,show sizeN hiL2=1 from rfl]; omega
 have hlabs:lnLabs (List.replicate k hiL2)=[]:=by
  unfold lnLabs
  rw [List.map_replicate]
  exact List.filter_eq_nil_iff.2 fun x hx=>by rw [List.eq_of_mem_replicate hx]; decide
 obtain ⟨r,hr⟩:=placeR_ok (List.replicate k hiL2) 0 [] [] 0 (by rw [hlabs]; simp)
 have hform:=placeR_form _ 0 [] [] 0 hr
 rw [List.nil_append,List.nil_append,Nat.zero_add,hsum] at hform
 have hlb:lbsR (List.replicate k hiL2) 0=[]:=by
  have:=lbs_names (List.replicate k hiL2) 0
  rw [hlabs] at this
  exact List.map_eq_nil_iff.1 this
 unfold planR plFin
 rw [hr,hform,hlb]
 dsimp only
 rw [loadR_none _ _ _ _ fun x hx=>(hl x hx).2]
 unfold plEnd
 dsimp only
 rw [List.length_nil,Nat.add_zero]
theorem twice_l12 (n:Nat) (k:Nat) (hk:k≤2000) (b c d:Int) (hc:c=IntKind.i64.wrap (b+1)) (hd:d=26) (t:List Sym) (v:List Val) (f w:Int):∀ (m i:Nat),i≤k→k - i < m →
  rivetlaw20_LayoutTwice.l12 n m true b c d (k:Int) (List.replicate i hiL2++List.replicate (k - i) zL) (i:Int) [] t v f w=some (true,()):=by
 intro m
 induction m with
 | zero=>intro i _ h; omega
 | succ m ih=>
  intro i hi hm
  rw [rivetlaw20_LayoutTwice.l12]
  simp only [dt,Int.toNat_natCast]
  by_cases h:i < k
  ·have e1:k - i=(k - (i+1))+1:=by omega
   have hg:(List.replicate i hiL2++List.replicate (k - i) zL).getD i zL=zL:=by
    rw [List.getD_eq_getElem?_getD,List.getElem?_append_right (by simp),e1]
    simp
   have hs:(List.replicate i hiL2++List.replicate (k - i) zL).set i hiL2=List.replicate (i+1) hiL2++List.replicate (k - (i+1)) zL:=by
    rw [List.set_append_right _ _ (by simp),e1,List.length_replicate,Nat.sub_self,List.replicate_succ,List.set_cons_zero,List.replicate_succ',List.append_assoc]
    rfl
   rw [if_pos (by omega),if_pos (by simp; omega),hg,w64 (by omega)]
   show rivetlaw20_LayoutTwice.l12 n m true b c d (k:Int) ((List.replicate i hiL2++List.replicate (k - i) zL).set i hiL2) ((i+1:Nat):Int) [] t v f w=_
   rw [hs]
   exact ih (i+1) (by omega) (by omega)
  ·obtain rfl:i=k:=by omega
   have e0:List.replicate i hiL2++List.replicate (i - i) zL=List.replicate i hiL2:=by simp
   rw [if_neg (by omega),e0,plan_eq _ (by simp; omega) (fun x hx=>by rw [List.eq_of_mem_replicate hx]; exact (by decide:(0:Nat)≤4611686018427387904)),Option.bind_some,long_plan i hk,if_pos trivial,if_pos (by rfl),if_pos hc,if_pos hd]
   by_cases hk2:1024 < i
   ·rw [if_pos hk2]
    unfold noPlan
    dsimp only
    have e5:decide ((i:Int)≤1024)=false:=by rw [decide_eq_false_iff_not]; omega
    rw [if_pos (by rfl),e5,if_pos (by rfl),if_neg (by omega),if_pos (by rfl),if_pos rfl]; rfl
   ·rw [if_neg hk2]
    dsimp only
    have e5:decide ((i:Int)≤1024)=true:=by rw [decide_eq_true_iff]; omega
    rw [if_pos rfl,e5,if_pos (by rfl),if_pos (by omega),if_neg (by simp)]
theorem ltwice_wf {a:List Ln} {x0 x1 x2:Int} (h:(a.length≤maxLen∧∀ x∈a,wfLn2 x)∧(Lit.int .u8 x0).wf=true∧(Lit.int .u8 x1).wf=true∧(Lit.int .u8 x2).wf=true∧True):rivetlaw20_LayoutTwice.g a x0 x1 x2=some (true,()):=by
 obtain ⟨q,hq,hql,hqo⟩:=fitX a h.1.2
 obtain ⟨w,hw,hn⟩:=fit20 q hqo
 have hlen:=hn.len
 obtain ⟨lb,hlb,hnx⟩:=hn.ln
 have h0:=wfU8 h.2.1
 have h1:=wfU8 h.2.2.1
 have h2:=wfU8 h.2.2.2.1
 obtain ⟨y0,rfl⟩:∃ y:Nat,x0=y:=⟨x0.toNat,by omega⟩
 obtain ⟨y1,rfl⟩:∃ y:Nat,x1=y:=⟨x1.toNat,by omega⟩
 obtain ⟨y2,rfl⟩:∃ y:Nat,x2=y:=⟨x2.toNat,by omega⟩
 unfold rivetlaw20_LayoutTwice.g
 have hN:3000≤3000+a.length:=by omega
 generalize 3000+a.length=n at hN
 have hij:y0 % (w.length+1)≤w.length:=by have:=Nat.mod_lt y0 (show 0 < w.length+1 by omega); omega
 have hjj:y1 % (w.length - y0 % (w.length+1)+1)≤w.length - y0 % (w.length+1):=by have:=Nat.mod_lt y1 (show 0 < w.length - y0 % (w.length+1)+1 by omega); omega
 have g0:([(y0:Int),(y1:Int),(y2:Int)].getD (0:Int).toNat 0)=(y0:Int):=rfl
 have g1:([(y0:Int),(y1:Int),(y2:Int)].getD (1:Int).toNat 0)=(y1:Int):=rfl
 have g2:([(y0:Int),(y1:Int),(y2:Int)].getD (2:Int).toNat 0)=(y2:Int):=rfl
 have E00:IntKind.i64.wrap ((w.length:Int)+1)=((w.length+1:Nat):Int):=by rw [w64 (by omega)]; omega
 have E0:Int.tmod (IntKind.i64.wrap (y0:Int)) ((w.length+1:Nat):Int)=((y0 % (w.length+1):Nat):Int):=by rw [w64 (by omega),Int.tmod_eq_emod_of_nonneg (by omega)]; omega
 have E1:IntKind.i64.wrap (IntKind.i64.wrap ((w.length:Int) - ((y0 % (w.length+1):Nat):Int))+1)=((w.length - y0 % (w.length+1)+1:Nat):Int):=by rw [w64 (x:=(w.length:Int) - _) (by omega),w64 (by omega)]; omega
 have E2:Int.tmod (IntKind.i64.wrap (y1:Int)) ((w.length - y0 % (w.length+1)+1:Nat):Int)=((y1 % (w.length - y0 % (w.length+1)+1):Nat):Int):=by rw [w64 (by omega),Int.tmod_eq_emod_of_nonneg (by omega)]; omega
 have E5:IntKind.i64.wrap (1009+IntKind.i64.wrap (Int.tmod (y2:Int) 31))=((1009+y2 % 31:Nat):Int):=by
  rw [Int.tmod_eq_emod_of_nonneg (by omega),w64 (x:=(y2:Int) % 31) (by omega),w64 (by omega)]; omega
 unfold rivetlaw20_LayoutTwice.f
 rw [shown20,Option.bind_some,hq,Option.bind_some,hw,Option.bind_some]
 simp only [g0,g1,g2,E00,E0,E1,E2,E5]
 generalize y0 % (w.length+1)=i at *
 generalize y1 % (w.length - i+1)=j at *
 have E3:IntKind.i64.wrap (IntKind.i64.wrap ((i:Int)+1)+(j:Int))=((i+1+j:Nat):Int):=by rw [w64 (x:=(i:Int)+1) (by omega),w64 (by omega)]; omega
 have E4:IntKind.i64.wrap (((i+1+j:Nat):Int) - 1)=((i+j:Nat):Int):=by rw [w64 (by omega)]; omega
 simp only [E3,E4,Int.toNat_natCast,List.nil_append]
 have hB:((w.take (i+j)).drop i).length=j:=by rw [List.length_drop,List.length_take]; omega
 have hA:(w.take i).length=i:=by rw [List.length_take]; omega
 have hAB:w.take i++(w.take (i+j)).drop i=w.take (i+j):=by
  have:=List.take_append_drop i (w.take (i+j))
  rw [List.take_take,Nat.min_eq_left (by omega)] at this
  exact this
 have htw:∀ s∈lnLabs w,s≠twice:=fun s hs=>by
  unfold lnLabs at hs
  obtain ⟨hs,hne⟩:=List.mem_filter.1 hs
  obtain ⟨y,hy,rfl⟩:=List.mem_map.1 hs
  exact ((hnx y hy).1.1.resolve_left (by simpa using hne)).2.2
 have hnd:(lnLabs (w.take i++[twA]++(w.take (i+j)).drop i)).Nodup:=by
  have hs:(lnLabs (w.take i++(w.take (i+j)).drop i)).Sublist (lnLabs w):=by rw [hAB]; exact lnLabs_sub (List.take_sublist _ _)
  have h1:=hn.nd.sublist hs
  rw [lnLabs_app] at h1 hs
  rw [lnLabs_app,lnLabs_app,lnLabs_one (show twA.1≠[] by decide),List.append_assoc,List.nodup_append]
  have hm:∀ s,s∈lnLabs (w.take i)∨s∈lnLabs ((w.take (i+j)).drop i)→s≠twice:=fun s hs'=>htw s (hs.subset (List.mem_append.2 hs'))
  obtain ⟨n1,n2,n3⟩:=List.nodup_append.1 h1
  refine ⟨n1,?_,fun s hs' u hu=>?_⟩
  ·rw [List.singleton_append,List.nodup_cons]
   exact ⟨fun hm'=>hm _ (.inr hm') rfl,n2⟩
  ·rcases List.mem_cons.1 hu with rfl | hu
   ·exact hm s (.inl hs')
   ·exact n3 s hs' u hu
 have hpl:=twice_plan (w.take i) ((w.take (i+j)).drop i) ((w.take w.length).drop (i+j)) hnd
 rw [hA,hB] at hpl
 have hsh:∀ x∈w.take i++[twA]++(w.take (i+j)).drop i++[twB]++(w.take w.length).drop (i+j),(eL x).length≤4611686018427387904:=fun x hx=>by
  have hw':∀ x∈w,(eL x).length≤4611686018427387904:=fun x hx=>by have:=(ok_mid (hnx x hx).1).2.1; omega
  rcases List.mem_append.1 hx with hx | hx
  ·rcases List.mem_append.1 hx with hx | hx
   ·rcases List.mem_append.1 hx with hx | hx
    ·rcases List.mem_append.1 hx with hx | hx
     ·exact hw' x (List.mem_of_mem_take hx)
     ·rw [List.mem_singleton.1 hx]; exact (by decide:(0:Nat)≤4611686018427387904)
    ·exact hw' x (List.mem_of_mem_take (List.mem_of_mem_drop hx))
   ·rw [List.mem_singleton.1 hx]; exact (by decide:(0:Nat)≤4611686018427387904)
  ·exact hw' x (List.mem_of_mem_take (List.mem_of_mem_drop hx))
 have hlen2:(w.take i++[twA]++(w.take (i+j)).drop i++[twB]++(w.take w.length).drop (i+j)).length≤1000:=by
  simp only [List.length_append,hA,hB,List.length_singleton,List.length_drop,List.length_take]; omega
 have hpe:=plan_eq _ (by omega) hsh
 rw [hpl] at hpe
 rw [if_pos (by decide),if_neg (by omega),if_pos (by decide),if_neg (by omega),if_pos (by omega),if_pos (by rw [hA]; simp; omega),if_pos (by rw [hA]; simp; omega),if_pos (by omega),if_pos (by omega),
  if_pos (by simp only [List.length_append,hA,hB,List.length_singleton]; omega),if_pos (by simp only [List.length_append,hA,hB,List.length_singleton]; omega),if_pos (by omega),
  if_pos (by simp only [List.length_append,hA,hB,List.length_singleton,List.length_drop,List.length_take]; omega)]
 rw [hpe,Option.bind_some]
 unfold noPlan
 dsimp only
 rw [if_pos (by decide),if_pos (by first | omega | (simp only [true_and,and_true]; omega) | (simp; omega))]
 have:=twice_l12 n (1009+y2 % 31) (by omega) ((i+1+j:Nat):Int) ((i+j+2:Nat):Int) 26 (by rw [w64 (by omega)]; omega) rfl [] [] 0 0 n 0 (by omega) (by omega)
 rw [List.replicate_zero,List.nil_append,Nat.sub_zero] at this
 exact this
end Rv
