/- Texts put together. -/
import Derived.Test.YtbommpjdbjfdjaaGreatDoorL3
import Derived.Test.YtbommpjdbjfdjaaGreatDoorLPPlanV
set_option linter.all false
namespace Rv
open Go
abbrev hiL:Ln:=([],(3,0,0,0,0,false,[],[],()),())
theorem near_goodE {w:List Ln} (h:Near w):goodE w:=fun x hx y hy=>by
 obtain ⟨lb,_,hn⟩:=h.ln
 have:=(ok_mid (hn x hx).1).2.2 y hy
 exact ⟨this.1,this.2.1⟩
theorem near_short {w:List Ln} (h:Near w):∀ x∈w,(eL x).length≤64:=fun x hx=>by
 obtain ⟨lb,_,hn⟩:=h.ln
 exact (ok_mid (hn x hx).1).2.1
theorem moves_l26 (n k:Nat) (hk:k≤100) (c:List Int) (d:List Sym) (hd:d.length≤1000) (hB:∀ y∈d,0≤y.2.1∧y.2.1≤1000000) (e:List Val) (i j:Int) (t:List Int) (q:List Val) (f w:Int):∀ (m a:Nat),a≤d.length→d.length - a < m →
  rivetlaw20_LayoutMoves.l26 n m (k:Int) (a:Int) c d e i j t (d.map (shS ((4 * k:Nat):Int))) q f w=some (true,()):=by
 intro m
 induction m with
 | zero=>intro a _ h; omega
 | succ m ih=>
  intro a ha hm
  have e4:IntKind.i64.wrap (4 * (k:Int))=((4 * k:Nat):Int):=by rw [w64 (by omega)]; omega
  by_cases h:a < d.length
  ·have hg:(d.map (shS ((4 * k:Nat):Int))).getD a (([]:Str),((0:Int),()))=shS ((4 * k:Nat):Int) (d.getD a (([]:Str),((0:Int),()))):=by
    rw [List.getD_eq_getElem?_getD,List.getElem?_map,List.getD_eq_getElem?_getD,List.getElem?_eq_getElem h]; rfl
   have e7:IntKind.i64.wrap ((a:Int)+1)=((a+1:Nat):Int):=by rw [w64 (by omega)]; omega
   rw [rivetlaw20_LayoutMoves.l26]
   simp only [dt,Int.toNat_natCast,List.length_map,hg,shS,e4,e7,decide_true,Bool.not_true,ne_eq,not_true_eq_false,↓reduceIte]
   rw [if_pos (by omega),if_pos (by omega),if_pos (by omega),if_pos (by omega),if_pos (by omega)]
   exact ih (a+1) (by omega) (by omega)
  ·rw [rivetlaw20_LayoutMoves.l26]
   simp only [dt]
   rw [if_neg (by omega)]
theorem moves_l21 (n k no:Nat) (hk:k≤100) (hno:no≤100) (d:List Int) (hd:d.length≤1000) (hdB:∀ v∈d,0≤v∧v≤1000000) (lb:List Sym) (hlb:lb.length≤1000) (hB:∀ y∈lb,0≤y.2.1∧y.2.1≤1000000) (hn:lb.length < n) (e:List Val) (i j:Int) (ats:List Int) (hats:ats.length=k+no) (q:List Val) (f w:Int):∀ (m a:Nat),a≤d.length→d.length - a < m →
  rivetlaw20_LayoutMoves.l21 n m (k:Int) (no:Int) (a:Int) d lb e i j (ats++d.map (fun y=>y+((4 * k:Nat):Int))) (lb.map (shS ((4 * k:Nat):Int))) q f w=some (true,()):=by
 intro m
 induction m with
 | zero=>intro a _ h; omega
 | succ m ih=>
  intro a ha hm
  rw [rivetlaw20_LayoutMoves.l21]
  have e4:IntKind.i64.wrap (4 * (k:Int))=((4 * k:Nat):Int):=by rw [w64 (by omega)]; omega
  simp only [dt,List.length_append,List.length_map]
  by_cases h:a < d.length
  ·have e1:IntKind.i64.wrap (IntKind.i64.wrap ((k:Int)+no)+(a:Int))=((k+no+a:Nat):Int):=by rw [w64 (x:=(k:Int)+no) (by omega),w64 (by omega)]; omega
   have hy:d.getD a 0∈d:=by rw [List.getD_eq_getElem?_getD,List.getElem?_eq_getElem h]; exact List.getElem_mem h
   have hb:=hdB _ hy
   have hg:(ats++d.map (fun y=>y+((4 * k:Nat):Int))).getD (k+no+a) 0=d.getD a 0+((4 * k:Nat):Int):=by
    rw [List.getD_eq_getElem?_getD,List.getElem?_append_right (by omega),show k+no+a - ats.length=a by omega,List.getElem?_map,List.getD_eq_getElem?_getD,List.getElem?_eq_getElem h]; rfl
   rw [e1,Int.toNat_natCast,Int.toNat_natCast,hg]
   generalize d.getD a 0=y at hb
   rw [if_pos (by omega),if_pos (by omega),if_pos (by omega),e4,w64 (x:=y+((4 * k:Nat):Int)) (by omega),if_neg (by simp),w64 (x:=(a:Int)+1) (by omega)]
   exact ih (a+1) (by omega) (by omega)
  ·rw [if_neg (by omega)]
   exact moves_l26 n k hk d lb hlb hB e i j _ q f w n 0 (by omega) (by omega)
theorem moves_main (n k no:Nat) (hk:k≤15) (hno:no≤15) (hn:1000≤n) (w:List Ln) (hw:Near w) (m:Nat) (c:List Ln) (hc:c=List.replicate k hiL++List.replicate no zL) (hm:0 < m) :
  rivetlaw20_LayoutMoves.l11 n m true w c (k:Int) (no:Int) (no:Int)=some (true,()):=by
 obtain ⟨m,rfl⟩:∃ j,m=j+1:=⟨m - 1,by omega⟩
 have hlen:=hw.len
 have hcl:c.length=k+no:=by rw [hc]; simp
 have hcm:∀ x∈c,x.1=[]∧x.2.1.1≠8:=fun x hx=>by
  rw [hc] at hx
  rcases List.mem_append.1 hx with hx | hx
  ·rw [List.eq_of_mem_replicate hx]; exact ⟨rfl,by decide⟩
  ·rw [List.eq_of_mem_replicate hx]; exact ⟨rfl,by decide⟩
 have hsum:(c.map sizeN).sum=k:=by
  rw [hc,List.map_append,List.sum_append,List.map_replicate,List.map_replicate,List.sum_replicate_nat,List.sum_replicate_nat]
  have e1:sizeN hiL=1:=rfl
  have e2:sizeN zL=0:=rfl
  rw [e1,e2]; omega
 have hce:∀ x∈c,(eL x).length≤64:=fun x hx=>by
  rw [hc] at hx
  rcases List.mem_append.1 hx with hx | hx
  ·rw [List.eq_of_mem_replicate hx]; decide
  ·rw [List.eq_of_mem_replicate hx]; decide
 obtain ⟨m1,m2⟩:=planR_move c w hcm (near_goodE hw) (by omega)
 rw [hsum] at m2
 rw [rivetlaw20_LayoutMoves.l11]
 simp only [dt]
 rw [if_neg (by omega),plan_eq w (by omega) (fun x hx=>by have:=near_short hw x hx; omega),Option.bind_some,if_pos (by simp; omega),if_pos (by simp; omega),List.nil_append,
  plan_eq (c++w) (by simp; omega) (fun x hx=>by
   rcases List.mem_append.1 hx with hx | hx
   ·have:=hce x hx; omega
   ·have:=near_short hw x hx; omega),Option.bind_some]
 rcases planR_ways w with ⟨x,h1,h2,h3,h4,_⟩ | ⟨r,p,h1,h2,h3⟩
 ·rw [m1 _ _ h1 h3,h1]
  unfold noPlan
  dsimp only
  rw [if_pos h2,if_pos trivial,if_pos rfl,w64 (x:=(x.1:Int)+k) (by omega),w64 (by omega),decide_eq_true (by omega)]
 ·obtain ⟨ats,g1,g2⟩:=m2 r p h1 h2
  have q1:=placeR_len _ _ _ _ _ h1
  have q2:=loadR_len _ _ _ _ h2
  obtain ⟨q3,q4⟩:=placeR_in 1000000 _ _ _ _ _ h1 (by omega) (fun v hv=>by cases hv) (fun v hv=>by cases hv)
  simp only [List.length_nil,Nat.zero_add] at q1 q2
  have hP:planR w=(r.1,r.2.1,p,((4 * r.2.2:Nat):Int),((r.2.2+p.length:Nat):Int),0,0,()):=by
   rw [h3]; unfold plEnd; dsimp only; rw [if_neg (by omega)]
  have hQ:=g2
  unfold plEnd at hQ
  dsimp only at hQ
  rw [if_neg (by rw [List.length_map]; omega)] at hQ
  rw [hP,hQ]
  dsimp only
  have e4:IntKind.i64.wrap (4 * (k:Int))=((4 * k:Nat):Int):=by rw [w64 (by omega)]; omega
  have e5:IntKind.i64.wrap (IntKind.i64.wrap ((r.1.length:Int)+k)+no)=((r.1.length+k+no:Nat):Int):=by rw [w64 (x:=(r.1.length:Int)+k) (by omega),w64 (by omega)]; omega
  have e6:IntKind.i64.wrap (((4 * r.2.2:Nat):Int)+((4 * k:Nat):Int))=((4 * (r.2.2+k):Nat):Int):=by rw [w64 (by omega)]; omega
  have e7:((ats.length+r.1.length:Nat):Int)=((r.1.length+k+no:Nat):Int):=by omega
  simp only [List.length_append,List.length_map,e4,e5,e6,e7,plan_words (c:=r.2.2+k) (k:=p.length) (by omega) (by omega),ne_eq,not_true_eq_false,decide_false,Bool.false_eq_true,↓reduceIte,Bool.not_true,Int.lt_irrefl]
  exact moves_l21 n k no (by omega) (by omega) r.1 (by omega) q3 r.2.1 (by omega) q4 (by omega) p _ _ ats (by omega) _ _ _ n 0 (by omega) (by omega)
theorem moves_l11 (n k no:Nat) (hk:k≤15) (hno:no≤15) (hn:1000≤n) (w:List Ln) (hw:Near w):∀ (m i:Nat),i≤no→no - i < m →
  rivetlaw20_LayoutMoves.l11 n m true w (List.replicate k hiL++List.replicate i zL) (k:Int) (no:Int) (i:Int)=some (true,()):=by
 intro m
 induction m with
 | zero=>intro i _ h; omega
 | succ m ih=>
  intro i hi hm
  by_cases h:i < no
  ·rw [rivetlaw20_LayoutMoves.l11]
   simp only [dt]
   rw [if_pos (by omega),if_pos (by simp; omega),w64 (by omega)]
   have:=ih (i+1) (by omega) (by omega)
   rw [List.replicate_succ',← List.append_assoc] at this
   exact this
  ·obtain rfl:i=no:=by omega
   exact moves_main n k i hk hno hn w hw (m+1) _ rfl (by omega)
theorem moves_l6 (n k:Nat) (hk:k≤15) (hn:1000≤n) (w:List Ln) (hw:Near w) (b c:Int) (hc:0≤c∧c≤255):∀ (m i:Nat),i≤k→k - i < m →
  rivetlaw20_LayoutMoves.l6 n m true w (List.replicate i hiL) (k:Int) (i:Int) b c=some (true,()):=by
 intro m
 induction m with
 | zero=>intro i _ h; omega
 | succ m ih=>
  intro i hi hm
  rw [rivetlaw20_LayoutMoves.l6]
  simp only [dt]
  by_cases h:i < k
  ·rw [if_pos (by omega),if_pos (by simp; omega),w64 (by omega)]
   have:=ih (i+1) (by omega) (by omega)
   rw [List.replicate_succ'] at this
   exact this
  ·obtain rfl:i=k:=by omega
   have e:IntKind.i64.wrap (Int.tmod ([b,c].getD (1:Int).toNat 0) 16)=((c.toNat % 16:Nat):Int):=by
    show IntKind.i64.wrap (Int.tmod c 16)=_
    rw [Int.tmod_eq_emod_of_nonneg hc.1,w64 (by omega)]; omega
   rw [if_neg (by omega),if_pos (by decide),e]
   have:=moves_l11 n i (c.toNat % 16) hk (by omega) hn w hw n 0 (by omega) (by omega)
   rw [List.replicate_zero,List.append_nil] at this
   exact this
theorem lmoves_wf {a:List Ln} {x0 x1:Int} (h:(a.length≤maxLen∧∀ x∈a,wfLn2 x)∧(Lit.int .u8 x0).wf=true∧(Lit.int .u8 x1).wf=true∧True):rivetlaw20_LayoutMoves.g a x0 x1=some (true,()):=by
 obtain ⟨q,hq,hql,hqo⟩:=fitX a h.1.2
 obtain ⟨w,hw,hn⟩:=fit20 q hqo
 have h0:=wfU8 h.2.1
 have h1:=wfU8 h.2.2.1
 unfold rivetlaw20_LayoutMoves.g rivetlaw20_LayoutMoves.f
 rw [shown20,Option.bind_some,hq,Option.bind_some,hw,Option.bind_some,if_pos (by decide)]
 have e:IntKind.i64.wrap (Int.tmod ([x0,x1].getD (0:Int).toNat 0) 16)=((x0.toNat % 16:Nat):Int):=by
  show IntKind.i64.wrap (Int.tmod x0 16)=_
  rw [Int.tmod_eq_emod_of_nonneg h0.1,w64 (by omega)]; omega
 rw [e]
 exact moves_l6 _ (x0.toNat % 16) (by omega) (by omega) w hn x0 x1 h1 (1000+a.length+x0.toNat+x1.toNat) 0 (by omega) (by omega)
end Rv
