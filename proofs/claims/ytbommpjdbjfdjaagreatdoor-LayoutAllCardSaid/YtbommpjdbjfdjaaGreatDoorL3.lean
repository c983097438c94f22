/- Texts put together. -/
import Derived.Test.YtbommpjdbjfdjaaGreatDoorL2
import Derived.Test.YtbommpjdbjfdjaaGreatDoorL1
set_option linter.all false
namespace Rv
open Go
theorem labelOk_ne {s:Str} (h:labelOk s=true):s≠[]:=by
 intro e; subst e; revert h; decide
theorem findR_isSome {s:Str}:∀ {l:List Sym} {x:Sym},x∈l→x.1=s→(findR s l).isSome=true
 | y::l,x,hm,hs=>by
  unfold findR
  split
  ·rfl
  ·rename_i hne
   rcases List.mem_cons.1 hm with rfl | hm
   ·exact absurd hs hne
   ·exact findR_isSome hm hs
theorem enough_congr:∀ {a b:List Item} (t:Int),a.map needsR=b.map needsR→enough t a=enough t b
 | [],[],_,_=>rfl
 | [],_::_,_,h=>by simp at h
 | _::_,[],_,h=>by simp at h
 | x::a,y::b,t,h=>by
  simp only [List.map_cons,List.cons.injEq] at h
  unfold enough
  rw [h.1]
  split
  ·exact enough_congr _ h.2
  ·rfl
theorem set_needs {l:List Item} {i:Nat} {x:Item} (hi:i < l.length) (h:needsR x=needsR (l.getD i ((0:Int),((0:Int),(([]:Str),()))))):(l.set i x).map needsR=l.map needsR:=by
 rw [List.map_set,h]
 apply List.ext_getElem?
 intro j
 rw [List.getElem?_set]
 split
 ·rename_i e
  subst e
  simp [hi,List.getD_eq_getElem?_getD]
 ·rfl
theorem take_set {α:Type} {l:List α} {i:Nat} {x:α} (hi:i < l.length):(l.set i x).take (i+1)=l.take i++[x]:=by
 rw [List.take_succ_eq_append_getElem (by simpa using hi)]
 simp [List.take_set_of_le]
theorem named_loop (labels:List Sym) (hlab:labels.length≤100) (hg:∀ x∈labels,labelOk x.1=true∧x.1.length≤12) (n:Nat):∀ (m i:Nat) (out:List Item),i≤out.length→out.length≤19→out.length - i < m→(∀ x∈out,goodItem x)→(∀ x∈out,x.2.2.1.length≤12)→(∀ x∈out.take i,x.1=2→(findR x.2.2.1 labels).isSome=true) →
  ∃ r,Zao.l3 n m labels out (i:Int)=some (r,())∧r.map needsR=out.map needsR∧r.length=out.length∧(∀ x∈r,goodItem x)∧∀ x∈r,x.1=2→(findR x.2.2.1 labels).isSome=true:=by
 intro m
 induction m with
 | zero=>intro i out _ _ h; omega
 | succ m ih=>
  intro i out hi h19 hm hgo hnl ht
  simp only [Zao.l3,dt,Int.toNat_natCast]
  by_cases h1:i < out.length
  ·have hmem:out.getD i ((0:Int),((0:Int),(([]:Str),())))∈out:=by
    rw [List.getD_eq_getElem?_getD,List.getElem?_eq_getElem h1]; exact List.getElem_mem h1
   have hgx:=hgo _ hmem
   have hnx:=hnl _ hmem
   have htk:out.take (i+1)=out.take i++[out.getD i ((0:Int),((0:Int),(([]:Str),())))]:=by
    rw [List.take_succ_eq_append_getElem h1,List.getD_eq_getElem?_getD,List.getElem?_eq_getElem h1]; rfl
   rw [if_pos (by omega),if_pos (by omega)]
   have put:∀ x:Item,needsR x=needsR (out.getD i ((0:Int),((0:Int),(([]:Str),()))))→goodItem x→x.2.2.1.length≤12→(x.1=2→(findR x.2.2.1 labels).isSome=true)→∃ r,Zao.j4 n (Zao.l3 n m) labels (out.set i x) (i:Int)=some (r,())∧r.map needsR=out.map needsR∧r.length=out.length∧(∀ x∈r,goodItem x)∧∀ x∈r,x.1=2→(findR x.2.2.1 labels).isSome=true:=by
    intro x hx hxg hxn hxf
    unfold Zao.j4
    rw [w64 (by omega)]
    obtain ⟨r,h1',h2',h3',h4',h5'⟩:=ih (i+1) (out.set i x) (by simp; omega) (by simp; omega) (by simp; omega) (fun y hy=>by
      rcases List.mem_or_eq_of_mem_set hy with hy | rfl
      ·exact hgo y hy
      ·exact hxg) (fun y hy=>by
      rcases List.mem_or_eq_of_mem_set hy with hy | rfl
      ·exact hnl y hy
      ·exact hxn) (fun y hy=>by
      rw [take_set h1] at hy
      rcases List.mem_append.1 hy with hy | hy
      ·exact ht y hy
      ·rw [List.mem_singleton] at hy; subst hy; exact hxf)
    exact ⟨r,h1',by rw [h2',set_needs h1 hx],by rw [h3',List.length_set],h4',h5'⟩
   generalize hxe:out.getD i ((0:Int),((0:Int),(([]:Str),())))=x at *
   by_cases h2:x.1=2
   ·rw [if_neg (by simpa using h2)]
    have hn:needsR x=(0,true):=by
     have h3:=hgx.2.2
     unfold needsR at h3 ⊢
     rw [if_neg (by omega),if_pos h2] at h3 ⊢
     simp only at h3
     rw [h3]
    by_cases h0:labels.length=0
    ·rw [if_pos (by omega),if_pos (by omega),if_pos (by omega)]
     refine put _ ?_ ?_ ?_ ?_
     ·rw [hn]; rfl
     ·exact ⟨(u32_range _).1,(u32_range _).2,rfl⟩
     ·simp
     ·intro h; simp at h
    ·have hx1:IntKind.i64.wrap ((i:Int)+(x.2.2.1.length:Int))=((i+x.2.2.1.length:Nat):Int):=by rw [w64 (by omega)]; omega
     have hx2:Int.tmod ((i+x.2.2.1.length:Nat):Int) (labels.length:Int)=(((i+x.2.2.1.length) % labels.length:Nat):Int):=by
      rw [Int.tmod_eq_emod_of_nonneg (by omega)]; omega
     have hx3:(i+x.2.2.1.length) % labels.length < labels.length:=Nat.mod_lt _ (by omega)
     rw [if_neg (by omega),if_pos (by omega),if_neg (by omega),hx1,hx2,if_pos (by omega),if_pos (by omega),Int.toNat_natCast]
     have hlm:labels.getD ((i+x.2.2.1.length) % labels.length) (([]:Str),((0:Int),()))∈labels:=by
      rw [List.getD_eq_getElem?_getD,List.getElem?_eq_getElem hx3]; exact List.getElem_mem hx3
     generalize labels.getD ((i+x.2.2.1.length) % labels.length) (([]:Str),((0:Int),()))=y at hlm ⊢
     obtain ⟨g1,g2⟩:=hg y hlm
     have hx0:x.2.1=0:=by
      have h3:=hgx.2.2
      unfold needsR at h3
      rw [if_neg (by omega),if_pos h2] at h3
      simp only [Bool.and_eq_true,decide_eq_true_eq] at h3
      exact h3.1
     have hy:needsR (x.1,x.2.1,y.1,())=(0,true):=by
      unfold needsR
      dsimp only
      rw [if_neg (by omega),if_pos h2,hx0,g1]; rfl
     refine put _ ?_ ?_ ?_ ?_
     ·rw [hn,hy]
     ·exact ⟨hgx.1,hgx.2.1,by rw [hy]⟩
     ·show y.1.length≤12; omega
     ·intro _; exact findR_isSome hlm rfl
   ·rw [if_pos (by simpa using h2)]
    unfold Zao.j4
    rw [w64 (by omega)]
    obtain ⟨r,h1',h2',h3',h4',h5'⟩:=ih (i+1) out (by omega) h19 (by omega) hgo hnl (fun y hy=>by
      rw [htk] at hy
      rcases List.mem_append.1 hy with hy | hy
      ·exact ht y hy
      ·rw [List.mem_singleton] at hy; subst hy; exact fun h=>absurd h h2)
    exact ⟨r,h1',h2',h3',h4',h5'⟩
  ·rw [if_neg (by omega)]
   have:out.take i=out:=List.take_of_length_le (by omega)
   rw [this] at ht
   exact ⟨out,rfl,rfl,rfl,hgo,ht⟩
theorem good_len {x:Item} (h:goodItem x):x.2.2.1.length≤12:=by
 have h3:=h.2.2
 unfold needsR at h3
 split at h3
 ·simp only [decide_eq_true_eq] at h3; rw [h3]; simp
 ·split at h3
  ·simp only [Bool.and_eq_true] at h3
   have:=h3.2
   unfold labelOk at this
   simp only [Bool.and_eq_true,decide_eq_true_eq] at this
   exact this.1.1.1.2
  ·split at h3
   ·simp only [Bool.and_eq_true,decide_eq_true_eq] at h3; rw [h3.2]; simp
   ·split at h3
    ·simp only [Bool.and_eq_true,decide_eq_true_eq] at h3; rw [h3.2]; simp
    ·cases h3
theorem named_eq (l:List Item) (hl:l.length≤9223372036854775807) (hw:wfItems l) (labels:List Sym) (hlab:labels.length≤100) (hg:∀ x∈labels,labelOk x.1=true∧x.1.length≤12) :
  ∃ e,Zao.g l labels=some (e,())∧wellL e∧e.length≤19∧(∀ x∈e,goodItem x)∧∀ x∈e,x.1=2→(findR x.2.2.1 labels).isSome=true:=by
 unfold Zao.g Zao.f
 obtain ⟨r,hr,hwell,hlen,hgood⟩:=fit15_eq l hl hw
 rw [hr,Option.bind_some]
 obtain ⟨e,h1,h2,h3,h4,h5⟩:=named_loop labels hlab hg (1000+l.length+labels.length) (1000+l.length+labels.length) 0 r (by omega) hlen (by omega) hgood (fun x hx=>good_len (hgood x hx)) (fun x hx=>by simp at hx)
 refine ⟨e,h1,?_,by omega,h4,h5⟩
 unfold wellL
 rw [enough_congr 0 h2]
 exact hwell
end Rv
namespace Rv
open Go
def labs (l:List Ln):List Str:=(l.map (·.1)).filter fun s=>decide (s≠[])
theorem labs_app (a b:List Ln):labs (a++b)=labs a++labs b:=by unfold labs; rw [List.map_append,List.filter_append]
theorem labs_none {x:Ln} (h:x.1=[]):labs [x]=[]:=by simp [labs,h]
theorem labs_one {x:Ln} (h:x.1≠[]):labs [x]=[x.1]:=by simp [labs,h]
theorem labs_map {a b:List Ln} (h:a.map (·.1)=b.map (·.1)):labs a=labs b:=by unfold labs; rw [h]
theorem f20_a (a:List Ln) (ha:∀ x∈a,okLn x) (n:Nat):∀ (m i:Nat) (out:List Ln) (lb:List Sym),i≤a.length→i≤20→20 - i < m→out.length=i→lb.length≤i→lb.map (·.1)=labs out→(labs out).Nodup→(∀ x∈out,okLn x) →
  ∃ (out':List Ln) (lb':List Sym),Zaa.l4 n m a out lb (i:Int)=Zaa.l14 n n out' lb' 0∧out'.length≤20∧lb'.length≤20∧lb'.map (·.1)=labs out'∧(labs out').Nodup∧∀ x∈out',okLn x:=by
 intro m
 induction m with
 | zero=>intro i out lb _ _ h; omega
 | succ m ih=>
  intro i out lb hi h20 hm ho hlb hls hnd hout
  rw [Zaa.l4]
  simp only [dt,Int.toNat_natCast]
  by_cases h:i < a.length
  ·rw [if_pos (by omega)]
   by_cases h2:i < 20
   ·have hx:=ha _ (getD_ln' h)
    rw [if_pos (by omega),if_pos (by omega),find16_eq lb _ (by omega),Option.bind_some]
    generalize a.getD i zL=x at hx
    have W1:IntKind.i64.wrap ((i:Int)+1)=((i+1:Nat):Int):=by rw [w64 (by omega)]; omega
    have J:∀ s:Str,(s=[]∨okLb s)→(s≠[]→s ∉ labs out)→∃ (out':List Ln) (lb':List Sym),Zaa.j10 n (Zaa.l4 n m) a out lb (i:Int) s x.2.1.1 x.2.1.2.1 x.2.1.2.2.1 x.2.1.2.2.2.1 x.2.1.2.2.2.2.1 x.2.1.2.2.2.2.2.1 x.2.1.2.2.2.2.2.2.1 x.2.1.2.2.2.2.2.2.2.1=Zaa.l14 n n out' lb' 0∧out'.length≤20∧lb'.length≤20∧lb'.map (·.1)=labs out'∧(labs out').Nodup∧∀ x∈out',okLn x:=by
     intro s hs hns
     unfold Zaa.j10 Zaa.j12
     rw [W1]
     have hok:okLn (s,(x.2.1.1,x.2.1.2.1,x.2.1.2.2.1,x.2.1.2.2.2.1,x.2.1.2.2.2.2.1,x.2.1.2.2.2.2.2.1,x.2.1.2.2.2.2.2.2.1,x.2.1.2.2.2.2.2.2.2.1,()),()):=⟨hs,hx.2⟩
     generalize hl:((s,(x.2.1.1,x.2.1.2.1,x.2.1.2.2.1,x.2.1.2.2.2.1,x.2.1.2.2.2.2.1,x.2.1.2.2.2.2.2.1,x.2.1.2.2.2.2.2.2.1,x.2.1.2.2.2.2.2.2.2.1,()),()):Ln)=y at hok
     have hy:y.1=s:=by rw [← hl]
     have hout':∀ z∈out++[y],okLn z:=fun z hz=>by
      rcases List.mem_append.1 hz with hz | hz
      ·exact hout z hz
      ·rw [List.mem_singleton.1 hz]; exact hok
     by_cases he:s=[]
     ·rw [if_neg (by simpa using he),if_pos (by simp; omega)]
      have e:labs (out++[y])=labs out:=by rw [labs_app,labs_none (by rw [hy]; exact he),List.append_nil]
      exact ih (i+1) _ lb (by omega) (by omega) (by omega) (by simp [ho]) (by omega) (by rw [e]; exact hls) (by rw [e]; exact hnd) hout'
     ·rw [if_pos (by simpa using he),if_pos (by simp; omega),if_pos (by simp; omega)]
      have e:labs (out++[y])=labs out++[s]:=by rw [labs_app,labs_one (by rw [hy]; exact he),hy]
      refine ih (i+1) _ _ (by omega) (by omega) (by omega) (by simp [ho]) (by simp; omega) (by rw [e,List.map_append,hls]; rfl) ?_ hout'
      rw [e,List.nodup_append]
      refine ⟨hnd,by simp,fun u hu v hv=>?_⟩
      rw [List.mem_singleton.1 hv]
      intro huv; subst huv; exact hns he hu
    dsimp only
    by_cases hf:(findR x.1 lb).isSome=true
    ·rw [if_pos hf]
     exact J [] (.inl rfl) (fun h=>absurd rfl h)
    ·rw [if_neg hf]
     refine J x.1 hx.1 fun _ hm=>?_
     rw [← hls] at hm
     exact findR_mem (by simpa using hf) hm
   ·rw [if_neg (by omega)]
    exact ⟨out,lb,rfl,by omega,by omega,hls,hnd,hout⟩
  ·rw [if_neg (by omega)]
   exact ⟨out,lb,rfl,by omega,by omega,hls,hnd,hout⟩
theorem getD_set_eq {α:Type} {l:List α} {i:Nat} {x d:α} (h:i < l.length):(l.set i x).getD i d=x:=by
 simp [List.getD_eq_getElem?_getD,h]
theorem getD_set_ne {α:Type} {l:List α} {i j:Nat} {x d:α} (h:i≠j):(l.set i x).getD j d=l.getD j d:=by
 simp [List.getD_eq_getElem?_getD,List.getElem?_set_ne h]
theorem map_set_at {α β:Type} {l:List α} {i:Nat} {x d:α} {f:α→β} (hi:i < l.length) (h:f x=f (l.getD i d)):(l.set i x).map f=l.map f:=by
 rw [List.map_set,h]
 apply List.ext_getElem?
 intro j
 rw [List.getElem?_set]
 split
 ·rename_i e
  subst e
  simp [hi,List.getD_eq_getElem?_getD]
 ·rfl
def nearX (lb:List Sym) (x:Ln):Prop:=
 okLn x∧(eL x).length≤19∧(∀ y∈eL x,y.2.1 < 50)∧(∀ y∈eL x,y.1=2→(findR y.2.2.1 lb).isSome=true)∧(x.2.1.1=10→(findR x.2.1.2.2.2.2.2.2.2.1 lb).isSome=true) ∧
  ((x.2.1.1=7∨x.2.1.1=8)→lb≠[]→∃ s,(findR s lb).isSome=true∧eL x=[(2,0,s,())])
def md (y:Item):Item:=(y.1,Int.tmod y.2.1 50,y.2.2.1,())
theorem md_needs {y:Item} (h:goodItem y):needsR (md y)=needsR y∧0≤(md y).2.1∧(md y).2.1 < 50:=by
 have e:(md y).2.1=y.2.1 % 50:=Int.tmod_eq_emod_of_nonneg h.1
 refine ⟨?_,by rw [e]; omega,by rw [e]; omega⟩
 have hb:=h.2.2
 have h0:y.2.1=0→(md y).2.1=0:=fun h0=>by rw [e,h0]; rfl
 unfold needsR at hb ⊢
 show (if y.1=1 then _ else if y.1=2 then (0,decide ((md y).2.1=0) && labelOk y.2.2.1) else if y.1=3 then (1,decide ((md y).2.1=0) && decide (y.2.2.1=[])) else if y.1=4∨y.1=5∨y.1=6 then (2,decide ((md y).2.1=0) && decide (y.2.2.1=[])) else _)=_
 by_cases h1:y.1=1
 ·rw [if_pos h1,if_pos h1]; rfl
 ·rw [if_neg h1] at hb
  rw [if_neg h1,if_neg h1]
  by_cases h2:y.1=2
  ·rw [if_pos h2] at hb
   simp only [Bool.and_eq_true,decide_eq_true_eq] at hb
   rw [if_pos h2,if_pos h2,h0 hb.1,hb.1]
  ·rw [if_neg h2] at hb
   rw [if_neg h2,if_neg h2]
   by_cases h3:y.1=3
   ·rw [if_pos h3] at hb
    simp only [Bool.and_eq_true,decide_eq_true_eq] at hb
    rw [if_pos h3,if_pos h3,h0 hb.1,hb.1]
   ·rw [if_neg h3] at hb
    rw [if_neg h3,if_neg h3]
    by_cases h4:y.1=4∨y.1=5∨y.1=6
    ·rw [if_pos h4] at hb
     simp only [Bool.and_eq_true,decide_eq_true_eq] at hb
     rw [if_pos h4,if_pos h4,h0 hb.1,hb.1]
    ·rw [if_neg h4,if_neg h4]
theorem l20_eq (n:Nat) (rl) (a:List Ln) (b:List Sym) (c k o A B C:Int) (u:Bool) (e0:List Item) (nm:Str):∀ (m i:Nat) (d:List Item),i≤d.length→d.length≤19→d.length - i < m →
  Zaa.l20 n rl m a b c d (i:Int) k o A B C u e0 nm=Zaa.l20 n rl 1 a b c (d.take i++(d.drop i).map md) (d.length:Int) k o A B C u e0 nm:=by
 intro m
 induction m with
 | zero=>intro i d _ _ h; omega
 | succ m ih=>
  intro i d hi h19 hm
  by_cases h:i < d.length
  ·have hd:d.drop i=d.getD i zI::d.drop (i+1):=by
    rw [List.drop_eq_getElem_cons h,List.getD_eq_getElem?_getD,List.getElem?_eq_getElem h]; rfl
   conv=>lhs; rw [Zaa.l20]
   simp only [dt,Int.toNat_natCast]
   rw [if_pos (by omega),if_pos (by omega),if_pos (by omega),w64 (by omega),show (i:Int)+1=((i+1:Nat):Int) by omega]
   show Zaa.l20 n rl m a b c (d.set i (md (d.getD i zI))) ((i+1:Nat):Int) k o A B C u e0 nm=_
   rw [ih (i+1) _ (by simp; omega) (by simp; omega) (by simp; omega),take_set h,List.length_set,List.drop_set_of_lt (by omega),hd]
   simp
  ·obtain rfl:i=d.length:=by omega
   have e:d.take d.length++(d.drop d.length).map md=d:=by simp
   rw [e]
   conv=>lhs; rw [Zaa.l20]
   conv=>rhs; rw [Zaa.l20]
   simp only [dt]
   rw [if_neg (show ¬ ((d.length:Int) < (d.length:Int)) by omega),if_neg (show ¬ ((d.length:Int) < (d.length:Int)) by omega)]
theorem setE {s:Sm} {t0 t':Tr} (h:GoodS s (some t0)) (ht:okT' t'):GoodS ⟨s.k,s.o,s.a,s.b,s.c,s.u,t'.post,s.nm⟩ (some t'):=by
 cases h with
 | ins1 h hk _=>exact .ins1 h hk ht
 | load h _=>exact .load h ht
 | word _=>exact .word ht
theorem good_kind {s:Sm} {t0:Tr} (h:GoodS s (some t0)):s.k≠10:=by
 cases h with
 | @ins1 k o a b c u t h hk _=>exact (by omega:k≠10)
 | load h _=>exact (by decide:(8:Int)≠10)
 | word _=>exact (by decide:(9:Int)≠10)
theorem noI {p:Item→Prop}:∀ y∈([]:List Item),p y:=fun y hy=>by cases hy
theorem name_of {s:Str} (h:labelOk s=true) (h2:bt s 0≠95):nameOk s=true:=by
 unfold labelOk at h
 simp only [Bool.and_eq_true,decide_eq_true_eq] at h
 obtain ⟨⟨⟨⟨h1,h3⟩,h4⟩,h5⟩,h6⟩:=h
 unfold nameOk
 simp only [Bool.and_eq_true,decide_eq_true_eq]
 refine ⟨⟨⟨⟨h1,h3⟩,?_⟩,h6⟩,h5⟩
 match s,h1 with
 | c::r,_=>
  have hw:isW c=true:=(List.all_eq_true.1 h5) c (by simp)
  have h2:¬ ((c.toNat:Int)=95):=h2
  unfold isW at hw
  rw [isA_L] at hw
  have hd:isD c=false:=by simpa using h4
  rw [hd] at hw
  have h95:decide (c.toNat=95)=false:=by rw [decide_eq_false_iff_not]; omega
  rw [h95] at hw
  simpa using hw
theorem f20_b (lb:List Sym) (hlb:lb.length≤20) (hg:∀ x∈lb,okLb x.1) (n:Nat) (hn:100≤n):∀ (m i:Nat) (out:List Ln),i≤out.length→out.length≤20→out.length - i < m→(∀ x∈out,okLn x)→(∀ j,j < i→nearX lb (out.getD j zL)) →
  ∃ r:List Ln,Zaa.l14 n m out lb (i:Int)=some (r,())∧r.map (·.1)=out.map (·.1)∧r.length=out.length∧∀ j,j < r.length→nearX lb (r.getD j zL):=by
 intro m
 induction m with
 | zero=>intro i out _ _ h; omega
 | succ m ih=>
  intro i out hi h20 hm hout hnear
  rw [Zaa.l14]
  simp only [dt,Int.toNat_natCast]
  by_cases h:i < out.length
  ·have hx:=hout _ (getD_ln' h)
   rw [if_pos (by omega),if_pos (by omega)]
   have W1:IntKind.i64.wrap ((i:Int)+1)=((i+1:Nat):Int):=by rw [w64 (by omega)]; omega
   have J36:∀ (k o A B C:Int) (u:Bool) (e:List Item) (nm:Str),nearX lb ((out.getD i zL).1,(k,o,A,B,C,u,e,nm,()),())→∃ r:List Ln,Zaa.j36 n (Zaa.l14 n m) out lb (i:Int) k o A B C u e nm=some (r,())∧r.map (·.1)=out.map (·.1)∧r.length=out.length∧∀ j,j < r.length→nearX lb (r.getD j zL):=by
    intro k o A B C u e nm hN
    unfold Zaa.j36
    rw [if_pos (by omega),Int.toNat_natCast,W1]
    obtain ⟨r,h1,h2,h3,h4⟩:=ih (i+1) (out.set i ((out.getD i zL).1,(k,o,A,B,C,u,e,nm,()),())) (by simp; omega) (by simp; omega) (by simp; omega) (fun y hy=>by
     rcases List.mem_or_eq_of_mem_set hy with hy | rfl
     ·exact hout y hy
     ·exact hN.1) (fun j hj=>by
     by_cases hij:i=j
     ·subst hij; rw [getD_set_eq h]; exact hN
     ·rw [getD_set_ne hij]; exact hnear j (by omega))
    exact ⟨r,h1,by rw [h2]; exact map_set_at (d:=zL) h rfl,by rw [h3,List.length_set],h4⟩
   generalize hxe:out.getD i zL=x at hx J36
   obtain ⟨hl,t,hgs⟩:=hx
   cases t with
   | none=>
    have he:eL x=[]:=(good_elen hgs).2.1
    have he':x.2.1.2.2.2.2.2.2.1=[]:=he
    rw [he',if_neg (by simp)]
    unfold Zaa.j27
    by_cases h10:x.2.1.1=10
    ·rw [if_pos (by simpa using h10)]
     have l30:∀ (q m' d:Nat) (nm:Str),d≤lb.length→lb.length - d < m'→(nm=[]∨(nameOk nm=true∧(findR nm lb).isSome=true)) →
       ∃ r:List Ln,Zaa.l30 n (Zaa.l14 n m) m' out lb (i:Int) (d:Int) x.2.1.1 x.2.1.2.1 x.2.1.2.2.1 x.2.1.2.2.2.1 x.2.1.2.2.2.2.1 x.2.1.2.2.2.2.2.1 [] nm=some (r,())∧r.map (·.1)=out.map (·.1)∧r.length=out.length∧∀ j,j < r.length→nearX lb (r.getD j zL):=by
      intro q m'
      induction m' with
      | zero=>intro d nm _ h; omega
      | succ m' ih2=>
       intro d nm hd hm' hnm
       rw [Zaa.l30]
       simp only [dt,Int.toNat_natCast]
       by_cases hd2:d < lb.length
       ·have hmem:lb.getD d (([]:Str),((0:Int),()))∈lb:=by
         rw [List.getD_eq_getElem?_getD,List.getElem?_eq_getElem hd2]; exact List.getElem_mem hd2
        have hy:=hg _ hmem
        have hfy:=findR_isSome hmem rfl
        generalize lb.getD d (([]:Str),((0:Int),()))=y at hy hfy
        have hy0:=labelOk_ne hy.1
        have hyl:0 < y.1.length:=List.length_pos_iff.2 hy0
        have W2:IntKind.i64.wrap ((d:Int)+1)=((d+1:Nat):Int):=by rw [w64 (by omega)]; omega
        have J31:∀ nm',(nm'=[]∨(nameOk nm'=true∧(findR nm' lb).isSome=true))→∃ r:List Ln,Zaa.j31 n (Zaa.l14 n m) (Zaa.l30 n (Zaa.l14 n m) m') out lb (i:Int) (d:Int) x.2.1.1 x.2.1.2.1 x.2.1.2.2.1 x.2.1.2.2.2.1 x.2.1.2.2.2.2.1 x.2.1.2.2.2.2.2.1 [] nm'=some (r,())∧r.map (·.1)=out.map (·.1)∧r.length=out.length∧∀ j,j < r.length→nearX lb (r.getD j zL):=fun nm' hn'=>by
         unfold Zaa.j31
         rw [W2]
         exact ih2 (d+1) nm' (by omega) (by omega) hn'
        rw [if_pos (by omega),if_pos (by omega),if_pos (by omega)]
        by_cases h95:bt y.1 0≠95
        ·rw [if_pos h95]
         by_cases hq:nm=[]
         ·rw [if_pos hq,if_pos (by omega)]
          exact J31 y.1 (.inr ⟨name_of hy.1 h95,hfy⟩)
         ·rw [if_neg hq]
          exact J31 nm hnm
        ·rw [if_neg h95]
         exact J31 nm hnm
       ·rw [if_neg (by omega)]
        by_cases hq:nm=[]
        ·rw [if_pos hq]
         exact J36 0 0 0 0 0 false [] [] ⟨⟨hl,none,.none⟩,Nat.zero_le _,noI,noI,fun h=>absurd (show (0:Int)=10 from h) (by decide),fun h=>absurd (show (0:Int)=7∨(0:Int)=8 from h) (by decide)⟩
        ·rw [if_neg hq]
         obtain ⟨hq1,hq2⟩:=hnm.resolve_left hq
         refine J36 x.2.1.1 x.2.1.2.1 x.2.1.2.2.1 x.2.1.2.2.2.1 x.2.1.2.2.2.2.1 x.2.1.2.2.2.2.2.1 [] nm ⟨⟨hl,none,?_⟩,Nat.zero_le _,noI,noI,fun _=>hq2,fun h=>absurd (show x.2.1.1=7∨x.2.1.1=8 from h) (by omega)⟩
         have:∀ s:Sm,GoodS s none→s.k=10→GoodS ⟨s.k,s.o,s.a,s.b,s.c,s.u,[],nm⟩ none:=fun s hs hk=>by
          cases hs with
          | none=>simp at hk
          | ins0 h hk2=>simp only at hk; omega
          | exp _=>exact .exp hq1
         exact this _ hgs h10
     exact l30 0 n 0 [] (by omega) (by omega) (.inl rfl)
    ·rw [if_neg (by simpa using h10)]
     refine J36 _ _ _ _ _ _ _ _ ⟨⟨hl,none,by rw [← he']; exact hgs⟩,Nat.zero_le _,noI,noI,fun h=>absurd h h10,fun h=>?_⟩
     exfalso
     have:∀ s:Sm,GoodS s none→¬ (s.k=7∨s.k=8):=fun s hs=>by
      cases hs with
      | none=>simp
      | ins0 h hk2=>simp only; omega
      | exp _=>simp
     exact this _ hgs h
   | some t0=>
    have he:eL x=t0.post:=(good_elen hgs).2.1
    have ht0:=(good_elen hgs).2.2 t0 rfl
    have he':x.2.1.2.2.2.2.2.2.1=t0.post:=he
    have hk10:x.2.1.1≠10:=good_kind hgs
    have hpos:=t0.post_pos
    have hgood:=post_good t0 ht0.1
    obtain ⟨e1,n1,n2,n3,n4,n5⟩:=named_eq t0.post (by have:=ht0.2.2.2; omega) (fun y hy=>⟨(hgood y hy).1,(hgood y hy).2.1,by have:=good_len (hgood y hy); omega⟩) lb (by omega) (fun y hy=>⟨(hg y hy).1,by have:=(hg y hy).2.1; omega⟩)
    rw [he',if_pos (by omega),n1,Option.bind_some]
    dsimp only
    have hl20:=l20_eq n (Zaa.l14 n m) out lb (i:Int) x.2.1.1 x.2.1.2.1 x.2.1.2.2.1 x.2.1.2.2.2.1 x.2.1.2.2.2.2.1 x.2.1.2.2.2.2.2.1 t0.post x.2.1.2.2.2.2.2.2.2.1 n 0 e1 (by omega) n3 (by omega)
    rw [show ((0:Nat):Int)=0 from rfl,List.take_zero,List.drop_zero,List.nil_append] at hl20
    rw [hl20]
    have q1:∀ y∈e1.map md,goodItem y∧y.2.1 < 50∧(y.1=2→(findR y.2.2.1 lb).isSome=true):=fun y hy=>by
     obtain ⟨z,hz,rfl⟩:=List.mem_map.1 hy
     obtain ⟨g1,g2,g3⟩:=md_needs (n4 z hz)
     exact ⟨⟨g2,by omega,by rw [g1]; exact (n4 z hz).2.2⟩,g3,n5 z hz⟩
    have q2:wellL (e1.map md):=by
     unfold wellL
     rw [enough_congr 0 (b:=e1)]
     ·exact n2
     ·rw [List.map_map]; exact List.map_congr_left fun y hy=>(md_needs (n4 y hy)).1
    have q3:(e1.map md).length≤19:=by rw [List.length_map]; exact n3
    have hlen:(e1.length:Int)=((e1.map md).length:Int):=by rw [List.length_map]
    rw [hlen]
    generalize e1.map md=e2 at q1 q2 q3
    have fin:∀ e,wellL e→e.length≤19→(∀ y∈e,goodItem y∧y.2.1 < 50∧(y.1=2→(findR y.2.2.1 lb).isSome=true))→((x.2.1.1=7∨x.2.1.1=8)→lb≠[]→∃ s,(findR s lb).isSome=true∧e=[(2,0,s,())]) →
      ∃ r:List Ln,Zaa.j26 n (Zaa.l14 n m) out lb (i:Int) e x.2.1.1 x.2.1.2.1 x.2.1.2.2.1 x.2.1.2.2.2.1 x.2.1.2.2.2.2.1 x.2.1.2.2.2.2.2.1 t0.post x.2.1.2.2.2.2.2.2.2.1=some (r,())∧r.map (·.1)=out.map (·.1)∧r.length=out.length∧∀ j,j < r.length→nearX lb (r.getD j zL):=by
     intro e w1 w2 w3 w4
     unfold Zaa.j26 Zaa.j27
     rw [if_neg (by simpa using hk10)]
     obtain ⟨t',rfl,p1,p2⟩:=tree_of w1 fun y hy=>(w3 y hy).1
     exact J36 _ _ _ _ _ _ _ _ ⟨⟨hl,some t',setE hgs ⟨p1,p2,w1,by omega⟩⟩,w2,fun y hy=>(w3 y hy).2.1,fun y hy=>(w3 y hy).2.2,fun h=>absurd h hk10,w4⟩
    have J24:∀ jump:Bool,((x.2.1.1=7∨x.2.1.1=8)→jump=true)→∃ r:List Ln,Zaa.j24 n (Zaa.l14 n m) out lb (i:Int) e2 jump x.2.1.1 x.2.1.2.1 x.2.1.2.2.1 x.2.1.2.2.2.1 x.2.1.2.2.2.2.1 x.2.1.2.2.2.2.2.1 t0.post x.2.1.2.2.2.2.2.2.2.1=some (r,())∧r.map (·.1)=out.map (·.1)∧r.length=out.length∧∀ j,j < r.length→nearX lb (r.getD j zL):=by
     intro jump hj
     unfold Zaa.j24
     simp only [dt]
     by_cases hjt:jump=true
     ·rw [if_pos hjt]
      by_cases hl0:0 < lb.length
      ·have ht:Int.tmod (e2.length:Int) (lb.length:Int)=((e2.length % lb.length:Nat):Int):=by
        rw [Int.tmod_eq_emod_of_nonneg (by omega)]; omega
       have hlt:e2.length % lb.length < lb.length:=Nat.mod_lt _ hl0
       rw [if_pos (by omega),if_neg (by omega),ht,if_pos (by omega),Int.toNat_natCast]
       have hmem:lb.getD (e2.length % lb.length) (([]:Str),((0:Int),()))∈lb:=by
        rw [List.getD_eq_getElem?_getD,List.getElem?_eq_getElem hlt]; exact List.getElem_mem hlt
       generalize lb.getD (e2.length % lb.length) (([]:Str),((0:Int),()))=y at hmem
       have hfy:=findR_isSome hmem rfl
       have hgi:goodItem ((2:Int),0,y.1,()):=⟨Int.le_refl _,(by decide:(0:Int)≤4294967295),by
        unfold needsR; dsimp only; rw [if_neg (by decide),if_pos rfl,(hg y hmem).1]; rfl⟩
       refine fin _ ?_ (by simp) (fun z hz=>?_) (fun _ _=>⟨y.1,hfy,rfl⟩)
       ·show enough 0 [((2:Int),0,y.1,())]=some 1
        have hn:needsR ((2:Int),0,y.1,())=(0,true):=by
         unfold needsR; dsimp only; rw [if_neg (by decide),if_pos rfl,(hg y hmem).1]; rfl
        unfold enough
        rw [hn]; rfl
       ·rw [List.mem_singleton.1 hz]; exact ⟨hgi,(by decide:(0:Int) < 50),fun _=>hfy⟩
      ·rw [if_neg (by omega)]
       exact fin e2 q2 q3 q1 fun _ hne=>absurd (List.length_eq_zero_iff.1 (by omega)) hne
     ·rw [if_neg hjt]
      exact fin e2 q2 q3 q1 fun hk _=>absurd (hj hk) hjt
    rw [Zaa.l20]
    simp only [dt,df]
    rw [if_neg (by omega)]
    by_cases h7:x.2.1.1=7
    ·rw [if_neg (by simpa using h7)]; exact J24 true fun _=>rfl
    ·rw [if_pos h7]
     by_cases h8:x.2.1.1=8
     ·rw [if_neg (by simpa using h8)]; exact J24 true fun _=>rfl
     ·rw [if_pos h8]
      by_cases h9:x.2.1.1=9
      ·rw [if_pos h9]; exact J24 _ fun hk=>by omega
      ·rw [if_neg h9]; exact J24 false fun hk=>by omega
  ·obtain rfl:i=out.length:=by omega
   rw [if_neg (by omega)]
   exact ⟨out,rfl,rfl,rfl,hnear⟩
structure Near (w:List Ln):Prop where
 len:w.length≤20
 nd:(labs w).Nodup
 ln:∃ lb:List Sym,lb.map (·.1)=labs w∧∀ x∈w,nearX lb x
theorem fit20 (a:List Ln) (ha:∀ x∈a,okLn x):∃ w,Zaa.g a=some (w,())∧Near w:=by
 unfold Zaa.g Zaa.f
 obtain ⟨out,lb,h1,h2,h3,h4,h5,h6⟩:=f20_a a ha (1000+a.length) (1000+a.length) 0 [] [] (by omega) (by omega) (by omega) rfl (by simp) rfl (by simp [labs]) (fun x hx=>by cases hx)
 have hlb:∀ x∈lb,okLb x.1:=fun x hx=>by
  have hm:x.1∈labs out:=by rw [← h4]; exact List.mem_map_of_mem hx
  unfold labs at hm
  rw [List.mem_filter] at hm
  obtain ⟨hm,hne⟩:=hm
  obtain ⟨y,hy,hxy⟩:=List.mem_map.1 hm
  rw [← hxy] at hne ⊢
  exact (h6 y hy).1.resolve_left (by simpa using hne)
 obtain ⟨r,g1,g2,g3,g4⟩:=f20_b lb h3 hlb (1000+a.length) (by omega) (1000+a.length) 0 out (by omega) h2 (by omega) h6 (fun j hj=>by omega)
 refine ⟨r,h1.trans g1,by omega,by rw [labs_map g2]; exact h5,lb,by rw [labs_map g2]; exact h4,fun x hx=>?_⟩
 obtain ⟨j,hj,rfl⟩:=List.getElem_of_mem hx
 have:=g4 j hj
 rw [List.getD_eq_getElem?_getD,List.getElem?_eq_getElem hj] at this
 exact this
end Rv
namespace Rv
open Go
theorem shown20:Zbb.g=some (true,()):=by decide +kernel
theorem ok_mid {x:Ln} (h:okLn x):midL x∧(eL x).length≤64∧∀ y∈eL x,goodItem y:=by
 obtain ⟨_,t,hg⟩:=h
 obtain ⟨h1,h2,h3⟩:=good_elen hg
 have h1:(eL x).length≤64:=h1
 have h2:eL x=postO t:=h2
 have hgood:∀ y∈eL x,goodItem y:=fun y hy=>by
  cases t with
  | none=>rw [h2] at hy; cases hy
  | some t0=>rw [h2] at hy; exact post_good t0 (h3 t0 rfl).1 y hy
 exact ⟨⟨by omega,fun y hy=>by have:=good_len (hgood y hy); omega⟩,h1,hgood⟩
end Rv
namespace Rv
open Go
def smI (x:Item):Prop:=(0≤x.2.1∧x.2.1≤4294967295)∧x.2.2.1.length≤20
def smLn (x:Ln):Prop:=x.1.length≤20∧(eL x).length≤20∧(∀ y∈eL x,smI y)∧x.2.1.2.2.2.2.2.2.2.1.length≤20
theorem mn20 (n:Nat):mn (n:Int) 20=((min n 20:Nat):Int):=by unfold mn; split <;> omega
theorem take20 (s:Str):((s.take (min s.length 20)).drop 0).length≤20:=by rw [List.drop_zero,List.length_take]; omega
theorem short_items (a b:List Ln) (c:Int) (lb:Str) (k o A B C:Int) (u:Bool) (e:List Item) (nm:Str) (he:∀ x∈e,0≤x.2.1∧x.2.1≤4294967295) (n:Nat) (rl):∀ (m i:Nat) (d:List Item),i≤20→20 - i < m→d.length=i→(∀ x∈d,smI x) →
  ∃ r,Zan.l10 n rl m a b c d (i:Int) lb k o A B C u e nm=Zan.j15 n rl a b c r lb k o A B C u e nm∧r.length≤20∧∀ x∈r,smI x:=by
 intro m
 induction m with
 | zero=>intro i d _ h; omega
 | succ m ih=>
  intro i d hi hm hd hs
  rw [Zan.l10]
  simp only [dt,Int.toNat_natCast]
  by_cases h:i < e.length
  ·rw [if_pos (by omega)]
   by_cases h2:i < 20
   ·have hg:e.getD i zI∈e:=by rw [List.getD_eq_getElem?_getD,List.getElem?_eq_getElem h]; exact List.getElem_mem h
    have hr:=he _ hg
    generalize e.getD i zI=x at hr ⊢
    have W1:IntKind.i64.wrap ((i:Int)+1)=((i+1:Nat):Int):=by rw [w64 (by omega)]; omega
    rw [if_pos (by omega),if_pos (by omega),mn20,Int.toNat_natCast,if_pos (by omega),if_pos (by simp; omega),W1]
    refine ih (i+1) _ (by omega) (by omega) (by simp [hd]) fun y hy=>?_
    rcases List.mem_append.1 hy with g | g
    ·exact hs y g
    ·rw [List.mem_singleton.1 g]
     exact ⟨hr,take20 _⟩
   ·rw [if_neg (by omega)]
    exact ⟨d,rfl,by omega,hs⟩
  ·rw [if_neg (by omega)]
   exact ⟨d,rfl,by omega,hs⟩
theorem short_loop (a:List Ln) (ha:∀ x∈a,∀ y∈eL x,0≤y.2.1∧y.2.1≤4294967295) (n:Nat) (hn:100≤n):∀ (m i:Nat) (out:List Ln),i≤20→20 - i < m→out.length=i→(∀ x∈out,smLn x) →
  ∃ r,Zan.l3 n m a out (i:Int)=some (r,())∧r.length≤20∧∀ x∈r,smLn x:=by
 intro m
 induction m with
 | zero=>intro i out _ h; omega
 | succ m ih=>
  intro i out hi hm ho hs
  rw [Zan.l3]
  simp only [dt,Int.toNat_natCast]
  by_cases h:i < a.length
  ·rw [if_pos (by omega)]
   by_cases h2:i < 20
   ·have hg:a.getD i zL∈a:=by rw [List.getD_eq_getElem?_getD,List.getElem?_eq_getElem h]; exact List.getElem_mem h
    have hr:=ha _ hg
    generalize a.getD i zL=x at hr ⊢
    have W1:IntKind.i64.wrap ((i:Int)+1)=((i+1:Nat):Int):=by rw [w64 (by omega)]; omega
    rw [if_pos (by omega),if_pos (by omega),mn20,Int.toNat_natCast,if_pos (by omega),mn20,Int.toNat_natCast,if_pos (by omega)]
    obtain ⟨r,h1,h3,h4⟩:=short_items a out (i:Int) ((x.1.take (min x.1.length 20)).drop 0) x.2.1.1 x.2.1.2.1 x.2.1.2.2.1 x.2.1.2.2.2.1 x.2.1.2.2.2.2.1 x.2.1.2.2.2.2.2.1 x.2.1.2.2.2.2.2.2.1 ((x.2.1.2.2.2.2.2.2.2.1.take (min x.2.1.2.2.2.2.2.2.2.1.length 20)).drop 0) hr n (Zan.l3 n m) n 0 [] (by omega) (by omega) rfl (fun y hy=>by cases hy)
    rw [show ((0:Nat):Int)=0 from rfl] at h1
    rw [h1]
    unfold Zan.j15
    rw [if_pos (by simp; omega),W1]
    refine ih (i+1) _ (by omega) (by omega) (by simp [ho]) fun y hy=>?_
    rcases List.mem_append.1 hy with g | g
    ·exact hs y g
    ·rw [List.mem_singleton.1 g]
     exact ⟨take20 _,h3,h4,take20 _⟩
   ·rw [if_neg (by omega)]
    exact ⟨out,rfl,by omega,hs⟩
  ·rw [if_neg (by omega)]
   exact ⟨out,rfl,by omega,hs⟩
theorem short_eq (a:List Ln) (ha:∀ x∈a,∀ y∈eL x,0≤y.2.1∧y.2.1≤4294967295):∃ r,Zan.g a=some (r,())∧r.length≤20∧∀ x∈r,smLn x:=by
 unfold Zan.g Zan.f
 exact short_loop a ha _ (by omega) _ 0 [] (by omega) (by omega) rfl fun x hx=>by cases hx
end Rv
namespace Rv
open Go
theorem all20_loop (n:Nat) (w:List Ln) (hw:w.length≤1000000) (b c j k:Int) (t1:List Int) (l1:List Sym) (q1:List Val) (f1 w1:Int) (t2:List Int) (l2:List Sym) (q2:List Val) (f2 w2:Int)
  (a1:t1.length≤1000000) (a2:l1.length≤1000000) (a3:q1.length≤1000000) (b1:t2.length≤1000000) (b2:l2.length≤1000000) (b3:q2.length≤1000000):∀ (m i:Nat),i≤w.length→w.length - i < m →
  rivetlaw20_LayoutAll.l8 n m true b c b c w j k j k (i:Int) t1 l1 q1 f1 w1 t1 l1 q1 f1 w1 t2 l2 q2 f2 w2 t2 l2 q2 f2 w2=some (true,()):=by
 intro m
 induction m with
 | zero=>intro i _ h; omega
 | succ m ih=>
  intro i hi hm
  rw [rivetlaw20_LayoutAll.l8]
  simp only [dt,Int.toNat_natCast]
  by_cases h:i < w.length
  ·rw [if_pos (by omega),if_pos (by omega),lsize_eq,Option.bind_some,if_pos (by omega),rsize_eq,Option.bind_some,if_neg (by simp),w64 (by omega)]
   exact ih (i+1) (by omega) (by omega)
  ·rw [if_neg (by omega),if_pos trivial,same20 t1 l1 q1 f1 w1 a1 a2 a3,Option.bind_some,if_pos rfl,if_pos trivial,if_pos trivial,same20 t2 l2 q2 f2 w2 b1 b2 b3,Option.bind_some,if_pos rfl,if_pos trivial]
   simp
theorem lall_wf {a:List Ln} (h:(a.length≤maxLen∧∀ x∈a,wfLn2 x)∧True):rivetlaw20_LayoutAll.g a=some (true,()):=by
 obtain ⟨r,hr,hl,hs⟩:=short_eq a (fun x hx y hy=>by
  obtain ⟨_,⟨_,_,_,_,_,_,w2,_⟩,_⟩:=h.1.2 x hx
  exact wfU32 (w2.2 y hy).2.1)
 obtain ⟨q,hq,hql,hqo⟩:=fitX a h.1.2
 obtain ⟨w,hw,hn⟩:=fit20 q hqo
 have hrm:∀ x∈r,midL x:=fun x hx=>⟨by have:=(hs x hx).2.1; omega,fun y hy=>by have:=((hs x hx).2.2.1 y hy).2; omega⟩
 obtain ⟨lb,_,hnx⟩:=hn.ln
 have hwm:∀ x∈w,midL x:=fun x hx=>(ok_mid (hnx x hx).1).1
 have hwl:=hn.len
 obtain ⟨p1,p2,p3⟩:=planR_len r
 obtain ⟨p4,p5,p6⟩:=planR_len w
 unfold rivetlaw20_LayoutAll.g rivetlaw20_LayoutAll.f
 rw [shown20,Option.bind_some,hr,Option.bind_some,plan_eq r (by omega) (fun x hx=>by have:=(hrm x hx).1; omega),Option.bind_some,Option.bind_some,rplan_eq r (by omega) hrm,Option.bind_some,hq,Option.bind_some,hw,Option.bind_some,
  plan_eq w (by omega) (fun x hx=>by have:=(hwm x hx).1; omega),Option.bind_some,rplan_eq w (by omega) hwm,Option.bind_some]
 exact all20_loop (1000+a.length) w (by omega) _ _ _ _ _ _ _ _ _ _ _ _ _ _ (by omega) (by omega) (by omega) (by omega) (by omega) (by omega) (1000+a.length) 0 (by omega) (by omega)
end Rv
