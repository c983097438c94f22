/- Texts put together. -/
import Derived.Test.YtbommpjdbjfdjaaGreatDoorL3
import Derived.Test.YtbommpjdbjfdjaaGreatDoorLPPlanW
set_option linter.all false
namespace Rv
open Go
abbrev ldL (i x:Int):Ln:=([],(8,0,i,0,0,false,[(1,x,[],())],[],()),())
def noLd (x:Ln):Bool:=decide (x.2.1.1≠8)
theorem num_vOf (lb:List Sym) (x:Int):vOf lb [(1,x,[],())]=(x,0,0,()):=rfl
theorem addR_twice (p:List Val) (v:Val):addR (addR p v) v=addR p v:=by
 have:v∈addR p v:=by unfold addR; split <;> simp_all
 show (if v∈addR p v then addR p v else addR p v++[v])=addR p v
 rw [if_pos this]
theorem load_one (lb:List Sym) (i x:Int) (l:List Ln) (k:Nat) (p:List Val):loadR lb (ldL i x::l) k p=loadR lb l (k+1) (addR p (x,0,())):=by
 rw [loadR,if_pos rfl,num_vOf]; rfl
theorem loads_pool (lb:List Sym) (x:Int):∀ (js:List Int) (i:Nat) (p:List Val),js≠[]→loadR lb (js.map fun j=>ldL j x) i p=.ok (addR p (x,0,()))
 | [],_,_,h=>absurd rfl h
 | [j],i,p,_=>by rw [List.map_singleton,load_one,loadR]
 | j::k::r,i,p,_=>by
  rw [List.map_cons,load_one,loads_pool lb x (k::r) (i+1) _ (by simp),addR_twice]
theorem pools_main (n:Nat) (w:List Ln) (hw:Near w) (js:List Int) (hjs:js≠[]) (hjl:js.length≤16) (x0 x1:Int) (a:Int) (m:Nat) (d:Int) (hd:¬ d≤IntKind.i64.wrap (Int.tmod a 16)) :
  rivetlaw20_LayoutPools.l10 n (m+1) a true (w.filter noLd++js.map fun j=>ldL j x0) d x0 x1=some (true,()):=by
 have hlen:=hw.len
 have hfl:(w.filter noLd).length≤20:=Nat.le_trans (List.length_filter_le _ _) hlen
 have hsh:∀ y∈w.filter noLd,(eL y).length≤64:=fun y hy=>by
  obtain ⟨lb,_,hn⟩:=hw.ln
  exact (ok_mid (hn y (List.mem_filter.1 hy).1).1).2.1
 have hno:∀ y∈w.filter noLd,y.2.1.1≠8:=fun y hy=>by simpa [noLd] using (List.mem_filter.1 hy).2
 have hnd:(lnLabs (w.filter noLd)).Nodup:=lnLabs_nodup List.filter_sublist hw.nd
 generalize w.filter noLd=b at hfl hsh hno hnd
 have labL:∀ (js:List Int) (x:Int),lnLabs (js.map fun j=>ldL j x)=[]:=fun js x=>by
  induction js with
  | nil=>rfl
  | cons j r ih=>rw [List.map_cons,show ldL j x::r.map (fun j=>ldL j x)=[ldL j x]++r.map (fun j=>ldL j x) from rfl,lnLabs_app,lnLabs_none rfl,ih]; rfl
 have szL:∀ (js:List Int) (x:Int),((js.map fun j=>ldL j x).map sizeN).sum=js.length:=fun js x=>by
  induction js with
  | nil=>rfl
  | cons j r ih=>rw [List.map_cons,List.map_cons,List.sum_cons,ih,List.length_cons,show sizeN (ldL j x)=1 from rfl]; omega
 have hsum:=sum_le b
 have hnd1:(lnLabs (b++js.map fun j=>ldL j x0)).Nodup:=by rw [lnLabs_app,labL,List.append_nil]; exact hnd
 have hnd2:(lnLabs ((b++js.map fun j=>ldL j x0)++[ldL 0 x1])).Nodup:=by rw [lnLabs_app,lnLabs_none rfl,List.append_nil]; exact hnd1
 have p1:∀ lb,loadR lb (b++js.map fun j=>ldL j x0) 0 []=.ok [(x0,0,())]:=fun lb=>by
  rw [loadR_app,loadR_none lb b 0 [] hno]
  dsimp only
  rw [loads_pool lb x0 js _ _ hjs]; rfl
 have p2:∀ lb,loadR lb ((b++js.map fun j=>ldL j x0)++[ldL 0 x1]) 0 []=.ok (addR [(x0,0,())] (x1,0,())):=fun lb=>by
  rw [loadR_app,p1]
  dsimp only
  rw [load_one,loadR]
 have s1:((b++js.map fun j=>ldL j x0).map sizeN).sum=(b.map sizeN).sum+js.length:=by rw [List.map_append,List.sum_append,szL]
 have s2:(((b++js.map fun j=>ldL j x0)++[ldL 0 x1]).map sizeN).sum=(b.map sizeN).sum+js.length+1:=by rw [List.map_append,List.sum_append,s1]; rfl
 have hal:=addR_len [(x0,0,())] ((x1,0,()):Val)
 simp only [List.length_singleton] at hal
 have q1:=planR_nodup _ hnd1 (p1 _) (by rw [s1]; simp; omega)
 have q2:=planR_nodup _ hnd2 (p2 _) (by rw [s2]; omega)
 have e1:∀ y∈b++js.map (fun j=>ldL j x0),(eL y).length≤4611686018427387904:=fun y hy=>by
  rcases List.mem_append.1 hy with hy | hy
  ·have:=hsh y hy; omega
  ·obtain ⟨j,_,rfl⟩:=List.mem_map.1 hy; exact (by decide:(1:Nat)≤4611686018427387904)
 rw [rivetlaw20_LayoutPools.l10]
 simp only [dt]
 rw [if_neg hd,plan_eq _ (by simp; omega) e1,Option.bind_some,if_pos (by simp; omega),if_pos (by decide),if_pos (by simp; omega),List.nil_append]
 show ((Zag.g ((b++js.map fun j=>ldL j x0)++[ldL 0 x1])).bind _)=_
 rw [plan_eq _ (by simp; omega) (fun y hy=>by
  rcases List.mem_append.1 hy with hy | hy
  ·exact e1 y hy
  ·rw [List.mem_singleton.1 hy]; exact (by decide:(1:Nat)≤4611686018427387904)),Option.bind_some,q1,q2,s1,s2]
 dsimp only
 have e6:IntKind.i64.wrap (((4 * ((b.map sizeN).sum+js.length):Nat):Int)+4)=((4 * ((b.map sizeN).sum+js.length+1):Nat):Int):=by rw [w64 (by omega)]; omega
 have e7:IntKind.i64.wrap ((((b.map sizeN).sum+js.length+[((x0,0,()):Val)].length:Nat):Int)+1)=(((b.map sizeN).sum+js.length+2:Nat):Int):=by simp only [List.length_singleton]; rw [w64 (by omega)]; omega
 have e8:IntKind.i64.wrap ((((b.map sizeN).sum+js.length+[((x0,0,()):Val)].length:Nat):Int)+2)=(((b.map sizeN).sum+js.length+3:Nat):Int):=by simp only [List.length_singleton]; rw [w64 (by omega)]; omega
 have g0:[x0,x1].getD (0:Int).toNat 0=x0:=rfl
 have g1:[x0,x1].getD (1:Int).toNat 0=x1:=rfl
 rw [e6,e7,e8,g0,g1]
 unfold addR
 by_cases hx:x0=x1
 ·subst hx
  simp
  omega
 ·have hx':¬ ((x1,0,()):Val)∈[((x0,0,()):Val)]:=fun hm=>by
   have:=List.mem_singleton.1 hm
   simp only [Prod.mk.injEq,and_true] at this
   exact hx this.symm
  simp [hx,hx']
  omega
theorem pools_l10 (n:Nat) (w:List Ln) (hw:Near w) (x0 x1 a:Int) (k:Nat) (hk:IntKind.i64.wrap (Int.tmod a 16)=(k:Int)) (hk15:k≤15):∀ (m d:Nat) (js:List Int),d≤k+1→k+1 - d < m→js.length=d →
  rivetlaw20_LayoutPools.l10 n m a true (w.filter noLd++js.map fun j=>ldL j x0) (d:Int) x0 x1=some (true,()):=by
 intro m
 induction m with
 | zero=>intro d js _ h; omega
 | succ m ih=>
  intro d js hd hm hj
  by_cases h:d≤k
  ·have hfl:(w.filter noLd).length≤20:=Nat.le_trans (List.length_filter_le _ _) hw.len
   rw [rivetlaw20_LayoutPools.l10]
   simp only [dt]
   rw [if_pos (by omega),if_pos (by decide),if_pos (by simp; omega),w64 (by omega)]
   have:=ih (d+1) (js++[Int.tmod (d:Int) 16]) (by omega) (by omega) (by simp [hj])
   rw [List.map_append,← List.append_assoc] at this
   exact this
  ·refine pools_main n w hw js (fun e=>by rw [e] at hj; simp at hj; omega) (by omega) x0 x1 a m (d:Int) (by omega)
theorem pools_l5 (n:Nat) (w:List Ln) (hw:Near w) (x0 x1 a:Int) (k:Nat) (hk:IntKind.i64.wrap (Int.tmod a 16)=(k:Int)) (hk15:k≤15) (hn:100≤n):∀ (m i:Nat),i≤w.length→w.length - i < m →
  rivetlaw20_LayoutPools.l5 n m a true w ((w.take i).filter noLd) (i:Int) x0 x1=some (true,()):=by
 have hlen:=hw.len
 intro m
 induction m with
 | zero=>intro i _ h; omega
 | succ m ih=>
  intro i hi hm
  rw [rivetlaw20_LayoutPools.l5]
  simp only [dt,Int.toNat_natCast]
  by_cases h:i < w.length
  ·have ht:w.take (i+1)=w.take i++[w.getD i zL]:=by
    rw [List.take_succ_eq_append_getElem h,List.getD_eq_getElem?_getD,List.getElem?_eq_getElem h]; rfl
   have W:IntKind.i64.wrap ((i:Int)+1)=((i+1:Nat):Int):=by rw [w64 (by omega)]; omega
   have:=ih (i+1) (by omega) (by omega)
   rw [ht,List.filter_append] at this
   have hfl:((w.take i).filter noLd).length≤20:=Nat.le_trans (List.length_filter_le _ _) (by rw [List.length_take]; omega)
   rw [if_pos (by omega),if_pos (by omega)]
   generalize w.getD i zL=x at this
   by_cases h8:x.2.1.1≠8
   ·rw [if_pos h8,if_pos (by omega),if_pos (by simp; omega)]
    unfold rivetlaw20_LayoutPools.j6
    rw [W]
    rw [List.filter_cons_of_pos (by unfold noLd; simpa using h8)] at this
    exact this
   ·rw [if_neg h8]
    unfold rivetlaw20_LayoutPools.j6
    rw [W]
    rw [List.filter_cons_of_neg (by unfold noLd; simpa using h8),List.filter_nil,List.append_nil] at this
    exact this
  ·obtain rfl:i=w.length:=by omega
   rw [if_neg (by omega),List.take_length]
   have:=pools_l10 n w hw x0 x1 a k hk hk15 n 0 [] (by omega) (by omega) rfl
   rw [List.map_nil,List.append_nil] at this
   exact this
theorem lpools_wf {a:List Ln} {b x0 x1:Int} (h:(a.length≤maxLen∧∀ x∈a,wfLn2 x)∧(Lit.int .u8 b).wf=true∧(Lit.int .u32 x0).wf=true∧(Lit.int .u32 x1).wf=true∧True):rivetlaw20_LayoutPools.g a b x0 x1=some (true,()):=by
 obtain ⟨q,hq,hql,hqo⟩:=fitX a h.1.2
 obtain ⟨w,hw,hn⟩:=fit20 q hqo
 have hlen:=hn.len
 have hb:=wfU8 h.2.1
 unfold rivetlaw20_LayoutPools.g rivetlaw20_LayoutPools.f
 rw [shown20,Option.bind_some,hq,Option.bind_some,hw,Option.bind_some]
 have e:IntKind.i64.wrap (Int.tmod b 16)=((b.toNat % 16:Nat):Int):=by
  rw [Int.tmod_eq_emod_of_nonneg hb.1,w64 (by omega)]; omega
 exact pools_l5 (1000+a.length+b.toNat+x0.toNat+x1.toNat) w hn x0 x1 b (b.toNat % 16) e (by omega) (by omega) (1000+a.length+b.toNat+x0.toNat+x1.toNat) 0 (by omega) (by omega)
end Rv
