/- Texts put together. -/
import Derived.Test.YtaonefbdamklhaaGreatDoorZ2
import Derived.Test.YtaonefbdamklhaaGreatDoorZ1
set_option linter.all false
namespace Rv
open Go
abbrev dIt:Item:=((0:Int),((0:Int),(([]:Str),())))
theorem pat_eq (s:Str) (hs:s.length≤1000000) (k lv:Nat):Zbk.g s (k:Int) (lv:Int)=some (brkT (decide (k < lv)) s,()):=by
 unfold Zbk.g Zbk.f brkT
 by_cases h:k < lv
 ·rw [if_pos (by simp; omega),if_pos (by simp; omega),if_pos (by simp; omega),if_pos (by simpa using h)]
  simp
 ·rw [if_neg (by simp; omega),if_neg (by simpa using h)]
theorem fu_eq (n:Int) (h:0≤n∧n≤4294967295):Zdt.g (IntKind.u64.wrap n) 10=some (Lib.itoa n,()):=by
 rw [w64u (by omega)]
 unfold Zdt.g Zdt.f L.formatUintO
 rw [if_pos ⟨rfl,h.1,by omega⟩]
 rfl
def parts (st:List Tr):List (Str×Int×Unit):=st.map fun t=>(t.txt,(t.tight:Int),())
theorem parts_len (st:List Tr):(parts st).length=st.length:=by simp [parts]
theorem parts_app (a b:List Tr):parts (a++b)=parts a++parts b:=by simp [parts]
theorem it_at {e:List Item} {i:Nat} {x:Item} {r:List Item} (h:e.drop i=x::r):i < e.length∧e.getD i dIt=x∧e.drop (i+1)=r:=by
 have hi:i < e.length:=by
  apply Classical.byContradiction
  intro hn
  rw [List.drop_eq_nil_of_le (by omega)] at h
  cases h
 have hd:e.drop i=e.getD i dIt::e.drop (i+1):=by
  rw [List.drop_eq_getElem_cons hi,List.getD_eq_getElem?_getD,List.getElem?_eq_getElem hi]; rfl
 rw [hd,List.cons.injEq] at h
 exact ⟨hi,h.1,h.2⟩
theorem j23_eq (n:Nat) (rl) (st on:List Tr) (e:List Item) (i:Nat) (he:e.length≤1000) (hi:i < e.length) (s:Str) (k:Int) (hst:st.length+on.length≤1000) :
  Zai.j23 n rl (parts (st++on)) (on.length:Int) e (e.length:Int) (i:Int) s k=rl (parts st++[(s,k,())]) e (e.length:Int) ((i+1:Nat):Int):=by
 unfold Zai.j23
 have hl:(parts (st++on)).length=st.length+on.length:=by rw [parts_len]; simp
 have hw:IntKind.i64.wrap (((parts (st++on)).length:Int) - (on.length:Int))=(st.length:Int):=by rw [hl,w64 (by omega)]; omega
 have ht:(parts (st++on)).take st.length=parts st:=by
  rw [parts_app]
  exact List.take_left' (parts_len st)
 rw [hw,hl,if_pos (by omega),Int.toNat_natCast,ht,if_pos (by rw [parts_len]; simp; omega),w64 (by omega)]
 rfl
theorem print_run (e:List Item) (he:e.length≤1000) (n:Nat):∀ t:Tr,t.ok→t.plain→∀ (st:List Tr) (m i:Nat) (rest:List Item),st.length+t.post.length≤1000→e.drop i=t.post++rest →
  Zai.l5 n (m+t.post.length) (parts st) e (e.length:Int) (i:Int)=Zai.l5 n m (parts (st++[t])) e (e.length:Int) ((i+t.post.length:Nat):Int)
 | .num v,ho,hp,st,m,i,rest,hst,hd=>by
  obtain ⟨h1,h2,_⟩:=it_at (x:=(1,v,[],())) (r:=rest) hd
  show Zai.l5 n (m+1) (parts st) e (e.length:Int) (i:Int)=_
  rw [Zai.l5]
  simp only [dt,Int.toNat_natCast]
  rw [if_pos (by omega),if_pos (by omega),h2]
  dsimp only
  rw [needs_eq,Option.bind_some]
  have e0:(needsR (1,v,[],())).1=0:=rfl
  dsimp only
  rw [e0,if_pos (by rw [parts_len,w64 (by simp [Tr.post] at hst; omega)]; omega),if_pos rfl,fu_eq v ho,Option.bind_some]
  have:=j23_eq n (Zai.l5 n m) st [] e i he h1 (Lib.itoa v) 2 (by simp [Tr.post] at hst ⊢; omega)
  rw [List.append_nil] at this
  rw [show ((0:Int))=(([]:List Tr).length:Int) from rfl,this,parts_app]
  rfl
 | .nam s,ho,hp,st,m,i,rest,hst,hd=>by
  obtain ⟨h1,h2,_⟩:=it_at (x:=(2,0,s,())) (r:=rest) hd
  show Zai.l5 n (m+1) (parts st) e (e.length:Int) (i:Int)=_
  rw [Zai.l5]
  simp only [dt,Int.toNat_natCast]
  rw [if_pos (by omega),if_pos (by omega),h2]
  dsimp only
  rw [needs_eq,Option.bind_some]
  have e0:(needsR (2,0,s,())).1=0:=rfl
  dsimp only
  rw [e0,if_pos (by rw [parts_len,w64 (by simp [Tr.post] at hst; omega)]; omega),if_neg (show ¬ (2:Int)=1 by decide),if_pos rfl]
  have:=j23_eq n (Zai.l5 n m) st [] e i he h1 s 2 (by simp [Tr.post] at hst ⊢; omega)
  rw [List.append_nil] at this
  rw [show ((0:Int))=(([]:List Tr).length:Int) from rfl,this,parts_app]
  rfl
 | .neg x,ho,hp,st,m,i,rest,hst,hd=>by
  have hP:(Tr.neg x).post=x.post++[(3,0,[],())]:=rfl
  rw [hP,List.append_assoc] at hd
  rw [hP] at hst ⊢
  simp only [List.length_append,List.length_cons,List.length_nil] at hst ⊢
  have hx:=print_run e he n x ho hp st (m+1) i ((3,0,[],())::rest) (by omega) hd
  rw [show m+(x.post.length+(0+1))=m+1+x.post.length by omega,hx]
  have hd2:e.drop (i+x.post.length)=(3,0,[],())::rest:=by
   rw [← List.drop_drop,hd]
   exact List.drop_left' rfl
  obtain ⟨h1,h2,_⟩:=it_at hd2
  have hl:=txt_len x ho hp
  rw [Zai.l5]
  simp only [dt,Int.toNat_natCast]
  rw [if_pos (by omega),if_pos (by omega),h2]
  dsimp only
  rw [needs_eq,Option.bind_some]
  have e0:(needsR (3,0,[],())).1=1:=rfl
  have hpl:(parts (st++[x])).length=st.length+1:=by rw [parts_len]; simp
  have hw:IntKind.i64.wrap (((parts (st++[x])).length:Int) - 1)=(st.length:Int):=by rw [hpl,w64 (by omega)]; omega
  have hon:((parts (st++[x])).take (parts (st++[x])).length).drop st.length=[(x.txt,(x.tight:Int),())]:=by
   rw [List.take_length,parts_app]
   exact List.drop_left' (parts_len st)
  dsimp only
  rw [e0,hw,if_pos (by rw [hpl]; omega),if_neg (show ¬ (3:Int)=1 by decide),if_neg (show ¬ (3:Int)=2 by decide),if_pos rfl]
  simp only [Int.toNat_natCast,hon]
  rw [if_pos (by simp),show ([(x.txt,(x.tight:Int),())]:List (Str×Int×Unit)).getD (0:Int).toNat (([]:Str),((0:Int),()))=(x.txt,(x.tight:Int),()) from rfl]
  dsimp only
  rw [show (2:Int)=((2:Nat):Int) from rfl,pat_eq x.txt (by omega),Option.bind_some]
  dsimp only
  have hb:=brkT_len (decide (x.tight < 2)) x.txt
  rw [if_pos (by simp; omega)]
  have:=j23_eq n (Zai.l5 n m) st [x] e (i+x.post.length) he h1 ([45]++brkT (decide (x.tight < 2)) x.txt) 2 (by simp; omega)
  rw [show (1:Int)=(([x]:List Tr).length:Int) from rfl,show ((2:Nat):Int)=2 from rfl,this,parts_app]
  rfl
 | .br x,_,hp,_,_,_,_,_,_=>hp.elim
 | .bin o a b,ho,hp,st,m,i,rest,hst,hd=>by
  have hP:(Tr.bin o a b).post=a.post++b.post++[(o.kind,0,[],())]:=rfl
  rw [hP,List.append_assoc,List.append_assoc] at hd
  rw [hP] at hst ⊢
  simp only [List.length_append,List.length_cons,List.length_nil] at hst ⊢
  have hxa:=print_run e he n a ho.1 hp.1 st (m+1+b.post.length) i (b.post++((o.kind,0,[],())::rest)) (by omega) hd
  have hd2:e.drop (i+a.post.length)=b.post++((o.kind,0,[],())::rest):=by
   rw [← List.drop_drop,hd]
   exact List.drop_left' rfl
  have hxb:=print_run e he n b ho.2 hp.2 (st++[a]) (m+1) (i+a.post.length) ((o.kind,0,[],())::rest) (by simp; omega) hd2
  rw [show m+(a.post.length+b.post.length+(0+1))=m+1+b.post.length+a.post.length by omega,hxa,hxb]
  have hd3:e.drop (i+a.post.length+b.post.length)=(o.kind,0,[],())::rest:=by
   rw [← List.drop_drop,hd2]
   exact List.drop_left' rfl
  obtain ⟨h1,h2,_⟩:=it_at hd3
  have hla:=txt_len a ho.1 hp.1
  have hlb:=txt_len b ho.2 hp.2
  rw [Zai.l5]
  simp only [dt,Int.toNat_natCast]
  rw [if_pos (by omega),if_pos (by omega),h2]
  dsimp only
  rw [needs_eq,Option.bind_some]
  have e0:(needsR (o.kind,0,[],())).1=2:=by cases o <;> rfl
  have hpl:(parts (st++[a]++[b])).length=st.length+2:=by rw [parts_len]; simp
  have hw:IntKind.i64.wrap (((parts (st++[a]++[b])).length:Int) - 2)=(st.length:Int):=by rw [hpl,w64 (by omega)]; omega
  have hon:((parts (st++[a]++[b])).take (parts (st++[a]++[b])).length).drop st.length=[(a.txt,(a.tight:Int),()),(b.txt,(b.tight:Int),())]:=by
   rw [List.take_length,List.append_assoc,parts_app]
   exact List.drop_left' (parts_len st)
  dsimp only
  rw [e0,hw,if_pos (by rw [hpl]; omega),if_neg (show ¬ o.kind=1 by cases o <;> decide),if_neg (show ¬ o.kind=2 by cases o <;> decide),if_neg (show ¬ o.kind=3 by cases o <;> decide)]
  simp only [Int.toNat_natCast,hon]
  have g0:([(a.txt,(a.tight:Int),()),(b.txt,(b.tight:Int),())]:List (Str×Int×Unit)).getD (0:Int).toNat (([]:Str),((0:Int),()))=(a.txt,(a.tight:Int),()):=rfl
  have g1:([(a.txt,(a.tight:Int),()),(b.txt,(b.tight:Int),())]:List (Str×Int×Unit)).getD (1:Int).toNat (([]:Str),((0:Int),()))=(b.txt,(b.tight:Int),()):=rfl
  simp only [g0,g1]
  have hb0:=brkT_len (decide (a.tight < 0)) a.txt
  have hb1:=brkT_len (decide (a.tight < 1)) a.txt
  have hc1:=brkT_len (decide (b.tight < 1)) b.txt
  have hc2:=brkT_len (decide (b.tight < 2)) b.txt
  have t0:Zbk.g a.txt (a.tight:Int) (0:Int)=some (brkT (decide (a.tight < 0)) a.txt,()):=pat_eq a.txt (by omega) a.tight 0
  have t1:Zbk.g a.txt (a.tight:Int) (1:Int)=some (brkT (decide (a.tight < 1)) a.txt,()):=pat_eq a.txt (by omega) a.tight 1
  have u1:Zbk.g b.txt (b.tight:Int) (1:Int)=some (brkT (decide (b.tight < 1)) b.txt,()):=pat_eq b.txt (by omega) b.tight 1
  have u2:Zbk.g b.txt (b.tight:Int) (2:Int)=some (brkT (decide (b.tight < 2)) b.txt,()):=pat_eq b.txt (by omega) b.tight 2
  have fin:=fun s k=>j23_eq n (Zai.l5 n m) st [a,b] e (i+a.post.length+b.post.length) he h1 s k (by have:=Tr.post_pos a; have:=Tr.post_pos b; simp only [List.length_cons,List.length_nil]; omega)
  have hab:st++[a]++[b]=st++[a,b]:=by simp
  rw [hab]
  cases o with
  | add=>
   rw [if_pos (show Opr.add.kind=4 from rfl),if_pos (by simp),t0,Option.bind_some]
   dsimp only [Opr.tight]
   rw [if_pos (by simp only [List.length_append,List.length_cons,List.length_nil]; omega),if_pos (by simp),u1,Option.bind_some]
   dsimp only
   rw [if_pos (by simp only [List.length_append,List.length_cons,List.length_nil]; omega),show (2:Int)=(([a,b]:List Tr).length:Int) from rfl,fin,parts_app,List.append_assoc,show i+a.post.length+b.post.length+1=i+(a.post.length+b.post.length+(0+1)) by omega]
   rfl
  | sub=>
   rw [if_neg (show ¬ Opr.sub.kind=4 by decide),if_pos (show Opr.sub.kind=5 from rfl),if_pos (by simp),t0,Option.bind_some]
   dsimp only [Opr.tight]
   rw [if_pos (by simp only [List.length_append,List.length_cons,List.length_nil]; omega),if_pos (by simp),u1,Option.bind_some]
   dsimp only
   rw [if_pos (by simp only [List.length_append,List.length_cons,List.length_nil]; omega),show (2:Int)=(([a,b]:List Tr).length:Int) from rfl,fin,parts_app,List.append_assoc,show i+a.post.length+b.post.length+1=i+(a.post.length+b.post.length+(0+1)) by omega]
   rfl
  | mul=>
   rw [if_neg (show ¬ Opr.mul.kind=4 by decide),if_neg (show ¬ Opr.mul.kind=5 by decide),if_pos (show Opr.mul.kind=6 from rfl),if_pos (by simp),t1,Option.bind_some]
   dsimp only [Opr.tight]
   rw [if_pos (by simp only [List.length_append,List.length_cons,List.length_nil]; omega),if_pos (by simp),u2,Option.bind_some]
   dsimp only
   rw [if_pos (by simp only [List.length_append,List.length_cons,List.length_nil]; omega),show (2:Int)=(([a,b]:List Tr).length:Int) from rfl,fin,parts_app,List.append_assoc,show i+a.post.length+b.post.length+1=i+(a.post.length+b.post.length+(0+1)) by omega]
   rfl
theorem eprint_eq {t:Tr} (ho:t.ok) (hp:t.plain) (hw:wellL t.post) (hl:t.post.length≤64):Zai.g t.post=some (t.txt,0,()):=by
 unfold Zai.g Zai.f
 rw [well_eq t.post (by omega),well_of hw hl,Option.bind_some]
 dsimp only
 rw [if_neg (show ¬ (!true)=true by decide)]
 obtain ⟨N,hN⟩:∃ N,1000+t.post.length=N+1+t.post.length:=⟨999,by omega⟩
 rw [hN]
 have:=print_run t.post (by omega) (N+1+t.post.length) t ho hp [] (N+1) 0 [] (by simp; omega) (by simp)
 rw [show parts []=[] from rfl,show ((0:Nat):Int)=0 from rfl] at this
 rw [this,Zai.l5]
 simp only [dt]
 rw [if_neg (by omega),if_pos (by rw [parts_len]; simp)]
 rfl
end Rv
namespace Rv
open Go
abbrev R:=rec_expr_parser_sum
abbrev dTok:TokL:=((0:Int),((0:Int),(([]:Str),((0:Int),()))))
theorem next_at (l:List TokL) (p:Nat) (out:List Item) (hp:p < l.length):Zbl.g l p out 0=some ((l.getD p dTok).1,(l.getD p dTok).2.1,(l.getD p dTok).2.2.1,(l.getD p dTok).2.2.2.1,true,l,(p:Int),out,0,()):=by
 unfold Zbl.g Zbl.f
 simp only [df,dt]
 rw [if_pos (by simp),if_pos (by omega),if_neg (by omega),if_pos (by omega),Int.toNat_natCast]
theorem next_end (l:List TokL) (p:Nat) (out:List Item) (hp:l.length≤p):Zbl.g l p out 0=some (0,0,[],0,false,l,(p:Int),out,0,()):=by
 unfold Zbl.g Zbl.f
 simp only [df,dt]
 rw [if_pos (by simp),if_pos (by omega),if_pos (by omega)]
theorem next_err (l:List TokL) (p:Int) (out:List Item) (e:Int) (he:e≠0):Zbl.g l p out e=some (0,0,[],0,false,l,p,out,e,()):=by
 unfold Zbl.g Zbl.f
 simp only [df]
 rw [if_neg (by simpa using he)]
theorem sign_loop (n:Nat) (all:List Str) (hall:all.length≤100) (ok:Bool) (l:List TokL) (p:Int) (out:List Item) (e k a:Int) (tx:Str) (nn:Int):∀ (m i:Nat),i≤all.length→all.length - i < m →
  Zaq.l3 n m ok all (all.length:Int) (i:Int) l p out e k a tx nn=if ok=true∧k=3∧tx∈all.drop i then some (tx,true,l,IntKind.i64.wrap (p+1),out,e,()) else some ([],false,l,p,out,e,()):=by
 intro m
 induction m with
 | zero=>intro i _ h; omega
 | succ m ih=>
  intro i hi hm
  rw [Zaq.l3]
  simp only [dt,Zaq.j8,Int.toNat_natCast]
  by_cases h:i < all.length
  ·have hd:all.drop i=all.getD i []::all.drop (i+1):=by
    rw [List.drop_eq_getElem_cons h,List.getD_eq_getElem?_getD,List.getElem?_eq_getElem h]; rfl
   have hih:=ih (i+1) (by omega) (by omega)
   rw [if_pos (by omega),if_pos (by omega),w64 (x:=(i:Int)+1) (by omega),show (i:Int)+1=((i+1:Nat):Int) by omega,hih,hd]
   generalize all.getD i []=s
   by_cases h1:ok=true
   ·rw [if_pos h1]
    by_cases h2:k=3
    ·rw [if_pos h2]
     by_cases h3:tx=s
     ·rw [if_pos h3,if_pos ⟨h1,h2,by simp [h3]⟩,h3]
     ·rw [if_neg h3]
      by_cases h4:tx∈all.drop (i+1)
      ·rw [if_pos ⟨h1,h2,h4⟩,if_pos ⟨h1,h2,by simp [h4]⟩]
      ·rw [if_neg (fun h=>h4 h.2.2),if_neg (fun h=>by simp [h3,h4] at h)]
    ·rw [if_neg h2,if_neg (fun h=>h2 h.2.1),if_neg (fun h=>h2 h.2.1)]
   ·rw [if_neg h1,if_neg (fun h=>h1 h.1),if_neg (fun h=>h1 h.1)]
  ·have:i=all.length:=by omega
   subst this
   rw [if_neg (by omega),if_neg (fun h=>by simp at h)]
theorem sign_err (all:List Str) (hall:all.length≤100) (l:List TokL) (p:Int) (out:List Item) (e:Int) (he:e≠0):Zaq.g all l p out e=some ([],false,l,p,out,e,()):=by
 unfold Zaq.g Zaq.f
 rw [next_err l p out e he,Option.bind_some]
 have:=sign_loop (1000+all.length+l.length+p.toNat+out.length+e.toNat) all hall false l p out e 0 0 [] 0 (1000+all.length+l.length+p.toNat+out.length+e.toNat) 0 (by omega) (by omega)
 rw [if_neg (fun h=>by cases h.1)] at this
 exact this
theorem fail_eq (x:Int) (l:List TokL) (p:Int) (out:List Item):Zbe.g x l p out 0=some (l,p,out,x,()):=by
 unfold Zbe.g Zbe.f
 rw [if_pos (by decide)]
abbrev sMul:List Str:=[[42]]
abbrev sAdd:List Str:=[[43],[45]]
def mc:Tr→Nat
 | .bin .mul a _=>mc a+1
 | _=>0
end Rv
namespace Rv
open Go
theorem fail_err (x:Int) (l:List TokL) (p:Int) (out:List Item) (e:Int) (he:e≠0):Zbe.g x l p out e=some (l,p,out,e,()):=by
 unfold Zbe.g Zbe.f
 rw [if_neg (by simpa using he)]
theorem l52_err (n:Nat) (r:Rec_expr_parser_sum) (m:Nat) (l:List TokL) (p:Int) (out:List Item) (e d:Int) (he:e≠0):expr_parser_row_c201.l1 n r (m+1) sMul l p out e d=some (l,p,out,e,(),d,()):=by
 rw [expr_parser_row_c201.l1,sign_err sMul (by simp) l p out e he,Option.bind_some]
 rfl
theorem l51_err (n:Nat) (r:Rec_expr_parser_sum) (m:Nat) (l:List TokL) (p:Int) (out:List Item) (e d:Int) (he:e≠0):expr_parser_row_c200.l1 n r (m+1) sAdd l p out e d=some (l,p,out,e,(),d,()):=by
 rw [expr_parser_row_c200.l1,sign_err sAdd (by simp) l p out e he,Option.bind_some]
 rfl
theorem F_deep (q:Nat) (l:List TokL) (p:Int) (out:List Item):(R (q+1)).expr_parser_factor 9 l p out 0=some (l,p,out,24,()):=by
 show expr_parser_factor.h (R q) 9 l p out 0=_
 unfold expr_parser_factor.h expr_parser_factor.f
 rw [if_neg (by decide),if_pos (by decide),fail_eq,Option.bind_some]
end Rv
namespace Rv
open Go
theorem sameE_refl (a:List Item) (ha:a.length≤1000):Zck.g a a=some (true,()):=by
 have loop:∀ (n m i:Nat),i≤a.length→a.length - i < m→Zck.l4 n m a a (i:Int)=some (true,()):=by
  intro n m
  induction m with
  | zero=>intro i _ h; omega
  | succ m ih=>
   intro i hi hm
   rw [Zck.l4]
   simp only [dt]
   by_cases h:i < a.length
   ·rw [if_pos (by omega),if_pos (by omega),if_pos (by omega),if_neg (by simp),w64 (by omega)]
    exact ih (i+1) (by omega) (by omega)
   ·rw [if_neg (by omega)]
 unfold Zck.g Zck.f
 rw [if_neg (by simp)]
 exact loop _ _ 0 (by omega) (by omega)
end Rv
namespace Rv
open Go
structure Sm where
 k:Int
 o:Int
 a:Int
 b:Int
 c:Int
 u:Bool
 e:List Item
 nm:Str
def okT' (t:Tr):Prop:=t.ok∧t.plain∧wellL t.post∧t.post.length≤64
def postO:Option Tr→List Item
 | none=>[]
 | some t=>t.post
inductive GoodS:Sm→Option Tr→Prop
 | none:GoodS ⟨0,0,0,0,0,false,[],[]⟩ none
 | ins0 {k o a b c:Int} {u:Bool}:GoodI0 k o a b c u→(k=1∨k=3∨k=4∨k=6)→GoodS ⟨k,o,a,b,c,u,[],[]⟩ none
 | ins1 {k o a b c:Int} {u:Bool} {t:Tr}:GoodI0 k o a b c u→(k=2∨k=5∨k=7)→okT' t→GoodS ⟨k,o,a,b,c,u,t.post,[]⟩ (some t)
 | load {a:Int} {t:Tr}:rg a→okT' t→GoodS ⟨8,0,a,0,0,false,t.post,[]⟩ (some t)
 | word {t:Tr}:okT' t→GoodS ⟨9,0,0,0,0,false,t.post,[]⟩ (some t)
 | exp {nm:Str}:nameOk nm=true→GoodS ⟨10,0,0,0,0,false,[],nm⟩ none
def rn (a:Int):Str:=regN a.toNat
theorem rn_eq {a:Int} (h:rg a):Zaz.g a=some (rn a,()):=by
 obtain ⟨k,rfl⟩:∃ k:Nat,a=(k:Int):=⟨a.toNat,by have:=h.1; omega⟩
 have:=(reg_fact k (by have:=h.2; omega)).1
 rw [this]; unfold rn; rw [Int.toNat_natCast]
theorem rn_ne (k:Nat):regN k≠[]:=by unfold regN; split <;> simp
theorem rn_total (a:Int):∃ s,Zaz.g a=some (s,())∧(s≠[]→rg a):=by
 obtain ⟨s,h,hs⟩:=regName_cases a
 exact ⟨s,h,fun e=>by obtain ⟨k,hk,rfl,_⟩:=hs e; exact ⟨by omega,by omega⟩⟩
theorem numbered_eq (k:Int):Zdm.g k=some (decide (k=2∨k=5∨k=7∨k=8∨k=9),()):=by
 unfold Zdm.g Zdm.f
 simp only [dt]
 by_cases h1:k=2
 ·simp [h1]
 ·by_cases h2:k=5
  ·simp [h2]
  ·by_cases h3:k=7
   ·simp [h3]
   ·by_cases h4:k=8
    ·simp [h4]
    ·by_cases h5:k=9
     ·simp [h5]
     ·simp [h1,h2,h3,h4,h5]
abbrev mayG (s:Sm):Option (Bool×Unit):=Zag.g s.k s.o s.a s.b s.c s.u s.e s.nm
theorem may_good {s:Sm} {t:Option Tr} (h:GoodS s t):mayG s=some (true,()):=by
 have hw:∀ t:Tr,okT' t→Zbp.g t.post=some (true,()):=fun t h=>by
  rw [well_eq t.post (by have:=h.2.2.2; omega),well_of h.2.2.1 h.2.2.2]
 have hp:∀ t:Tr,decide ((0:Int) < (t.post.length:Int))=true:=fun t=>by have:=t.post_pos; simp; omega
 cases h with
 | none=>rfl
 | @ins0 k o a b c u h hk=>
  unfold mayG Zag.g
  generalize 1000+_+_+_+_+_+_+_=n
  unfold Zag.f
  have hn:decide (k=2∨k=5∨k=7∨k=8∨k=9)=false:=by simp; omega
  have h10:decide (k=10)=false:=by simp; omega
  simp only [numbered_eq,hn,Option.bind_some]
  rw [if_pos (by simp),if_neg (by decide),h10,if_neg (by simp)]
  unfold Zag.j4 Zag.j12
  simp only [dt]
  rw [isa_good h,Option.bind_some,if_neg (by omega),if_neg (by omega),if_neg (by omega),if_neg (by omega)]
 | @ins1 k o a b c u t h hk ht=>
  unfold mayG Zag.g
  generalize 1000+_+_+_+_+_+_+_=n
  unfold Zag.f
  have hn:decide (k=2∨k=5∨k=7∨k=8∨k=9)=true:=by simp; omega
  have h10:decide (k=10)=false:=by simp; omega
  simp only [numbered_eq,hn,Option.bind_some,hp,hw t ht]
  rw [if_pos (by simp),if_pos (by decide),if_pos (by decide),h10,if_neg (by simp)]
  unfold Zag.j4 Zag.j12
  simp only [dt]
  rw [isa_good h,Option.bind_some,if_neg (by omega),if_neg (by omega),if_neg (by omega),if_neg (by omega)]
 | @load a t ha ht=>
  unfold mayG Zag.g
  generalize 1000+_+_+_+_+_+_+_=n
  unfold Zag.f
  simp only [numbered_eq,Option.bind_some,hp,hw t ht]
  rw [if_pos (by simp),if_pos (by decide),if_pos (by decide),if_neg (by simp)]
  unfold Zag.j4
  simp only [rn_eq ha,Option.bind_some]
  have:=rn_ne a.toNat
  simp [rn,this]
 | @word t ht=>
  unfold mayG Zag.g
  generalize 1000+_+_+_+_+_+_+_=n
  unfold Zag.f
  simp only [numbered_eq,Option.bind_some,hp,hw t ht]
  rw [if_pos (by simp),if_pos (by decide),if_pos (by decide),if_neg (by simp)]
  rfl
 | @exp nm hn=>
  have hne:nm≠[]:=by rintro rfl; exact absurd hn (by decide)
  unfold mayG Zag.g
  generalize 1000+_+_+_+_+_+_+_=n
  unfold Zag.f
  simp only [numbered_eq,Option.bind_some]
  rw [if_pos (by simp),if_neg (by decide),if_neg (by simp [hne])]
  unfold Zag.j4
  simp only [lename_eq,hn,Option.bind_some]
  rfl
theorem may_only (s:Sm) (he:s.e.length≤4611686018427387904):∃ r,mayG s=some (r,())∧(r=true→(0≤s.k∧s.k≤10)∧rg s.a∧rg s.c∧(s.nm=[]∨nameOk s.nm=true)∧(s.e=[]∨well s.e=true)):=by
 have z:rg 0:=⟨by decide,by decide⟩
 obtain ⟨k,o,a,b,c,u,e,nm⟩:=s
 dsimp only at he ⊢
 unfold mayG Zag.g
 generalize 1000+_+_+_+_+_+_+_=n
 unfold Zag.f
 simp only [numbered_eq,Option.bind_some,well_eq e he]
 have J:(e=[]∨well e=true)→¬ (!(decide (k=10) == !decide (nm=[])))=true→∃ r,Zag.j4 n k o a b c u e nm k o a b c 0 u=some (r,())∧(r=true→(0≤k∧k≤10)∧rg a∧rg c∧(nm=[]∨nameOk nm=true)∧(e=[]∨well e=true)):=by
  intro hwe hnm
  have hnm':k≠10→nm=[]:=fun h=>by rw [decide_eq_false h] at hnm; simpa using hnm
  unfold Zag.j4 Zag.j12
  simp only [dt,lename_eq,Option.bind_some]
  have zero:∀ q:Prop,((decide (k=k) && (decide (o=0) && (decide (a=0) && (decide (b=0) && (decide (c=0) && (decide ((0:Int)=0) && ((u == false) && true)))))))=true)→a=0∧c=0:=fun q h=>by
   simp only [Bool.and_eq_true,decide_eq_true_eq] at h
   exact ⟨h.2.2.1,h.2.2.2.2.1⟩
  by_cases h0:k=0
  ·subst h0
   rw [if_pos rfl,if_pos rfl]
   refine ⟨_,rfl,fun h=>?_⟩
   obtain ⟨rfl,rfl⟩:=zero True h
   exact ⟨⟨by decide,by decide⟩,z,z,.inl (hnm' (by decide)),hwe⟩
  ·rw [if_neg h0]
   by_cases h9:k=9
   ·subst h9
    rw [if_pos rfl]
    refine ⟨_,rfl,fun h=>?_⟩
    obtain ⟨rfl,rfl⟩:=zero True h
    exact ⟨⟨by decide,by decide⟩,z,z,.inl (hnm' (by decide)),hwe⟩
   ·rw [if_neg h9]
    by_cases h10:k=10
    ·subst h10
     rw [if_pos rfl]
     split
     ·rename_i h
      obtain ⟨rfl,rfl⟩:=zero True h
      exact ⟨_,rfl,fun h=>⟨⟨by decide,by decide⟩,z,z,.inr h,hwe⟩⟩
     ·exact ⟨_,rfl,fun h=>by cases h⟩
    ·rw [if_neg h10]
     by_cases h8:k=8
     ·subst h8
      rw [if_pos rfl]
      split
      ·rename_i h
       simp only [Bool.and_eq_true,decide_eq_true_eq] at h
       obtain ⟨x,hx,hr⟩:=rn_total a
       rw [hx,Option.bind_some]
       refine ⟨_,rfl,fun h'=>⟨⟨by decide,by decide⟩,hr (by simpa using h'),?_,.inl (hnm' (by decide)),hwe⟩⟩
       rw [h.2.2.2.2.1]; exact z
      ·exact ⟨_,rfl,fun h=>by cases h⟩
     ·rw [if_neg h8]
      obtain ⟨r,hr,hg⟩:=isa_total k o a b c 0 u
      rw [hr,Option.bind_some]
      refine ⟨_,rfl,fun h=>?_⟩
      obtain ⟨h1,h2,_,h4⟩:=hg h
      exact ⟨⟨by omega,by omega⟩,h2,h4,.inl (hnm' h10),hwe⟩
 by_cases hn:k=2∨k=5∨k=7∨k=8∨k=9
 ·rw [decide_eq_true hn]
  by_cases hl:e=[]
  ·subst hl
   rw [if_neg (by simp)]; exact ⟨_,rfl,fun h=>by cases h⟩
  ·have:decide ((0:Int) < e.length)=true:=by have:=List.length_pos_iff.2 hl; simp; omega
   rw [this,if_pos (show (!true == true)=false from rfl),if_pos (show true=true from rfl)]
   cases hw:well e with
   | false=>rw [if_neg (show ¬ (!false)=false by decide)]; exact ⟨_,rfl,fun h=>by cases h⟩
   | true=>
    rw [if_pos (show (!true)=false from rfl)]
    split
    ·exact ⟨_,rfl,fun h=>by cases h⟩
    ·rename_i h
     obtain ⟨r,h1,h2⟩:=J (.inr hw) h
     refine ⟨r,h1,fun hr=>?_⟩
     obtain ⟨g1,g2,g3,g4,_⟩:=h2 hr
     exact ⟨g1,g2,g3,g4,.inr rfl⟩
 ·rw [decide_eq_false hn]
  by_cases hl:e=[]
  ·subst hl
   rw [if_pos (by simp),if_neg (by simp)]
   split
   ·exact ⟨_,rfl,fun h=>by cases h⟩
   ·rename_i h
    exact J (.inl rfl) h
  ·have:decide ((0:Int) < e.length)=true:=by have:=List.length_pos_iff.2 hl; simp; omega
   rw [this,if_neg (by decide)]; exact ⟨_,rfl,fun h=>by cases h⟩
end Rv
namespace Rv
open Go
inductive Od
 | A | B | C | E | Q | N
def Od.rd:Od→Fn
 | .A=>K.rdA | .B=>K.rdB | .C=>K.rdC | .E=>K.rdE | .Q=>K.rdQ | .N=>K.rdN
def Od.wr:Od→Fn
 | .A=>K.wrA | .B=>K.wrB | .C=>K.wrC | .E=>K.wrE | .Q=>K.wrQ | .N=>K.wrN
def odL (k o:Int):List Od:=
 if k=1 then (if o=0 then [.A,.C] else [.A,.B,.C]) else
 if k=2 then (if o=0 then [.A,.E] else [.A,.B,.E]) else
 if k=3∨k=4 then [.A] else
 if k=5 then [.A,.B,.E] else
 if k=6 then [.C] else
 if k=7∨k=9 then [.E] else
 if k=8 then [.A,.Q] else
 if k=10 then [.N] else []
abbrev odF (d:Od):Fn×Fn×Unit:=(d.rd,d.wr,())
theorem opsR_eq (k o:Int):L.opsR k o=(odL k o).map odF:=by
 unfold L.opsR odL
 split
 ·split <;> rfl
 ·split
  ·split <;> rfl
  ·repeat' split
   all_goals rfl
theorem odL_len (k o:Int):(odL k o).length≤3:=by
 unfold odL
 repeat' split
 all_goals simp
theorem odL_reg {o:Int} (h:0 < o):odL 1 o=[.A,.B,.C]:=by unfold odL; rw [if_pos rfl,if_neg (by omega)]
theorem odL_imm {o:Int} (h:0 < o):odL 2 o=[.A,.B,.E]:=by unfold odL; rw [if_neg (by decide),if_pos rfl,if_neg (by omega)]
theorem trimB_loop (n:Nat):∀ (m:Nat) (s:Str),s.length < m→s.length≤1000000→Zcm.l1 n m s 32=some (s.dropWhile (· == 32),())
 | 0,_,h,_=>by omega
 | m+1,[],_,_=>by rw [Zcm.l1]; rfl
 | m+1,b::s,h,hs=>by
  rw [Zcm.l1]
  simp only [dt]
  have hb:bt (b::s) 0=(b.toNat:Int):=rfl
  have h32:((b.toNat:Int)=32)=(b=32):=byte_is b 32 (by omega)
  rw [if_pos (by simp),if_pos (by simp),hb,List.dropWhile_cons]
  by_cases e:b=32
  ·rw [if_pos (h32.mpr e),if_pos (by simp; omega),if_pos (by simp [e])]
   have:((b::s).take ((((b::s).length:Nat):Int)).toNat).drop ((1:Int)).toNat=s:=by
    rw [Int.toNat_natCast,List.take_length]; rfl
   rw [this]
   exact trimB_loop n m s (by simp at h; omega) (by simp at hs; omega)
  ·rw [if_neg (fun h=>e (h32.mp h)),if_neg (by simp [e])]
theorem trimB_eq (s:Str) (hs:s.length≤1000000):Zdh.g s [32]=some (s.dropWhile (· == 32),()):=by
 unfold Zdh.g Zdh.f
 simp only [dt,df]
 by_cases h:s=[]
 ·subst h; rfl
 ·rw [if_pos h,if_neg (by decide),if_pos (by decide),if_pos (by decide),if_pos (by decide),if_pos (by decide)]
  have hb:bt [32] 0=32:=rfl
  unfold Zcm.g Zcm.f
  rw [hb,trimB_loop _ _ s (by omega) hs,Option.bind_some]
theorem itoa_head (n:Int) (h:0≤n):∃ c r,Lib.itoa n=c::r∧c≠32:=by
 obtain ⟨m,rfl⟩:∃ m:Nat,n=m:=⟨n.toNat,by omega⟩
 have hi:Lib.itoa (m:Int)=Lib.decDigits m:=by unfold Lib.itoa; rw [if_neg (by omega)]; rfl
 obtain ⟨h1,h2⟩:=dec_all m
 rw [hi]
 cases hd:Lib.decDigits m with
 | nil=>exact absurd hd h2
 | cons c r=>
  refine ⟨c,r,rfl,?_⟩
  rintro rfl
  rw [hd] at h1
  simp [isD] at h1
theorem brkT_head (b:Bool) {s:Str} (h:∃ c r,s=c::r∧c≠32):∃ c r,brkT b s=c::r∧c≠32:=by
 unfold brkT
 split
 ·exact ⟨_,_,rfl,by decide⟩
 ·exact h
theorem txt_head:∀ t:Tr,t.ok→∃ c r,t.txt=c::r∧c≠32
 | .num n,h=>itoa_head n h.1
 | .nam s,h=>by
  have h:labelOk s=true:=h
  cases s with
  | nil=>exact absurd h (by decide)
  | cons c r=>
   refine ⟨c,r,rfl,?_⟩
   rintro rfl
   unfold labelOk at h
   simp only [Bool.and_eq_true,List.all_cons] at h
   exact absurd h.1.2.1 (by decide)
 | .neg x,_=>⟨_,_,rfl,by decide⟩
 | .br x,_=>⟨_,_,rfl,by decide⟩
 | .bin o a b,h=>by
  obtain ⟨c,r,h1,h2⟩:=brkT_head (decide (a.tight < o.tight)) (txt_head a h.1)
  exact ⟨c,_,by show brkT _ _++_=_; rw [h1]; rfl,h2⟩
def et:Option Tr→Str
 | none=>[]
 | some t=>t.txt
def wtx (s:Sm) (t:Option Tr):Od→Str
 | .A=>rn s.a | .B=>rn s.b | .C=>rn s.c | .E=>et t | .Q=>61::32::et t | .N=>s.nm
def okOd (s:Sm) (t:Option Tr):Od→Prop
 | .A=>rg s.a | .B=>rg s.b | .C=>rg s.c | .E=>∃ x,t=some x∧okT' x∧s.e=x.post | .Q=>∃ x,t=some x∧okT' x∧s.e=x.post | .N=>nameOk s.nm=true
theorem good_od {s:Sm} {t:Option Tr} (h:GoodS s t):∀ d∈odL s.k s.o,okOd s t d:=by
 cases h with
 | none=>intro d hd; simp [odL] at hd
 | ins0 h hk=>
  cases h with
  | reg h1 h2 ha hb hc hu=>
   intro d hd
   dsimp only at hd
   rw [odL_reg h1] at hd
   simp only [List.mem_cons,List.not_mem_nil,or_false] at hd
   rcases hd with rfl | rfl | rfl
   ·exact ha
   ·exact hb
   ·exact hc
  | mov ha hc=>
   intro d hd
   simp only [odL,if_true,List.mem_cons,List.not_mem_nil,or_false] at hd
   rcases hd with rfl | rfl
   ·exact ha
   ·exact hc
  | hi ha=>intro d hd; simp [odL] at hd; subst hd; exact ha
  | fl ha=>intro d hd; simp [odL] at hd; subst hd; exact ha
  | br ho hc=>intro d hd; simp [odL] at hd; subst hd; exact hc
  | imm=>simp at hk
  | movi=>simp at hk
  | mem=>simp at hk
  | jmp=>simp at hk
 | ins1 h hk ht=>
  cases h with
  | imm h1 h2 ha hb hu=>
   intro d hd
   dsimp only at hd
   rw [odL_imm h1] at hd
   simp only [List.mem_cons,List.not_mem_nil,or_false] at hd
   rcases hd with rfl | rfl | rfl
   ·exact ha
   ·exact hb
   ·exact ⟨_,rfl,ht,rfl⟩
  | movi ha=>
   intro d hd
   simp [odL] at hd
   rcases hd with rfl | rfl
   ·exact ha
   ·exact ⟨_,rfl,ht,rfl⟩
  | mem h1 h2 ha hb=>
   intro d hd
   simp [odL] at hd
   rcases hd with rfl | rfl | rfl
   ·exact ha
   ·exact hb
   ·exact ⟨_,rfl,ht,rfl⟩
  | jmp ho=>intro d hd; simp [odL] at hd; subst hd; exact ⟨_,rfl,ht,rfl⟩
  | reg=>simp at hk
  | mov=>simp at hk
  | hi=>simp at hk
  | fl=>simp at hk
  | br=>simp at hk
 | load ha ht=>
  intro d hd
  simp [odL] at hd
  rcases hd with rfl | rfl
  ·exact ha
  ·exact ⟨_,rfl,ht,rfl⟩
 | word ht=>intro d hd; simp [odL] at hd; subst hd; exact ⟨_,rfl,ht,rfl⟩
 | exp hn=>intro d hd; simp [odL] at hd; subst hd; exact hn
theorem regN_len (k:Nat):(regN k).length≤3:=by unfold regN; split <;> simp
theorem wtx_len {s:Sm} {t:Option Tr} {d:Od} (h:okOd s t d):(wtx s t d).length≤1300:=by
 have r:∀ a:Int,(rn a).length≤1300:=fun a=>Nat.le_trans (regN_len _) (by decide)
 have e:(∃ x,t=some x∧okT' x∧s.e=x.post)→(et t).length≤1280:=by
  rintro ⟨x,rfl,hx,_⟩
  have:=txt_len x hx.1 hx.2.1
  have:=hx.2.2.2
  show x.txt.length≤1280
  omega
 cases d with
 | A=>exact r _
 | B=>exact r _
 | C=>exact r _
 | E=>exact Nat.le_trans (e h) (by decide)
 | Q=>have:=e h; show (61::32::et t).length≤1300; simp; omega
 | N=>
  have h:nameOk s.nm=true:=h
  unfold nameOk at h
  simp only [Bool.and_eq_true,decide_eq_true_eq] at h
  show s.nm.length≤1300
  have:=h.1.1.1.2
  omega
theorem num2_eq {s:Sm} {t:Option Tr} (h:∃ x,t=some x∧okT' x∧s.e=x.post) (q:Str) (hq:q=[]∨q=[61]) :
  Zdo.g s.k s.o s.a s.b s.c s.u s.e s.nm q=some (if q=[] then et t else 61::32::et t,()):=by
 obtain ⟨x,rfl,hx,he⟩:=h
 have hl:=txt_len x hx.1 hx.2.1
 have hl2:=hx.2.2.2
 unfold Zdo.g Zdo.f
 rw [he,eprint_eq hx.1 hx.2.1 hx.2.2.1 hx.2.2.2,Option.bind_some]
 dsimp only
 obtain ⟨c,r,h1,h2⟩:=txt_head x hx.1
 rcases hq with rfl | rfl
 ·rw [if_pos (by decide),if_pos (by simp; omega),trimB_eq _ (by simp; omega),Option.bind_some,if_pos rfl]
  show some ((([]++[32])++x.txt).dropWhile (· == 32),())=some (x.txt,())
  rw [h1]
  have:(c == 32)=false:=by simpa using h2
  simp [List.dropWhile_cons,this]
 ·rw [if_pos (by decide),if_pos (by simp; omega),trimB_eq _ (by simp; omega),Option.bind_some,if_neg (by decide)]
  rfl
theorem write_loop (s:Sm) (t:Option Tr) (out:List Str) (mn:Str) (n:Nat) (ods:List Od) (ho:∀ d∈ods,okOd s t d) (hl:ods.length≤3):∀ (m i:Nat) (l:List Str),i≤ods.length→ods.length - i < m→l.length=i →
  Zad.l12 n m out mn l (ods.map odF) (ods.length:Int) (i:Int) s.k s.o s.a s.b s.c s.u s.e s.nm=Zad.l12 n 1 out mn (l++(ods.drop i).map (wtx s t)) (ods.map odF) (ods.length:Int) (ods.length:Int) s.k s.o s.a s.b s.c s.u s.e s.nm:=by
 intro m
 induction m with
 | zero=>intro i _ _ h; omega
 | succ m ih=>
  intro i l hi hm hli
  by_cases h:i < ods.length
  ·have hd:ods.drop i=ods[i]::ods.drop (i+1):=List.drop_eq_getElem_cons h
   have hg:(ods.map odF).getD ((i:Int)).toNat (((0,[]):Fn),(((0,[]):Fn),()))=odF ods[i]:=by
    rw [Int.toNat_natCast,List.getD_eq_getElem?_getD,List.getElem?_eq_getElem (by simpa using h)]; simp
   have hok:=ho ods[i] (List.getElem_mem h)
   have next:=fun x:Str=>ih (i+1) (l++[x]) (by omega) (by omega) (by simp [hli])
   rw [Zad.l12,if_pos (by simp; omega),if_pos (by simp; omega),hg,hd,List.map_cons]
   have W1:IntKind.i64.wrap ((i:Int)+1)=((i+1:Nat):Int):=by rw [w64 (by omega)]; omega
   have fin:∀ x:Str,(if (l.length+([x]:List Str).length) * 16≤140737488355328∧0 < 16∧0 < 1 then (Zad.j15 n (Zad.l12 n m) out mn (l++([x]:List Str)) (ods.map odF) (ods.length:Int) (i:Int) s.k s.o s.a s.b s.c s.u s.e s.nm) else none) =
     Zad.l12 n 1 out mn (l++x::(ods.drop (i+1)).map (wtx s t)) (ods.map odF) (ods.length:Int) (ods.length:Int) s.k s.o s.a s.b s.c s.u s.e s.nm:=fun x=>by
    rw [if_pos (by simp; omega)]
    unfold Zad.j15
    rw [W1,next x,List.append_assoc]
    rfl
   generalize hx:ods[i]=d at hok ⊢
   cases d with
   | A=>
    show (if K.wrA=K.wrA then _ else _)=_
    rw [if_pos rfl]
    unfold Zcg.g Zcg.f Zdj.g Zdj.f
    rw [if_pos rfl,Option.bind_some]
    dsimp only
    rw [rn_eq hok,Option.bind_some,Option.bind_some]
    exact fin _
   | B=>
    show (if K.wrB=K.wrA then _ else if K.wrB=K.wrB then _ else _)=_
    rw [if_neg (by decide),if_pos rfl]
    unfold Zcg.g Zcg.f Zdk.g Zdk.f
    rw [if_neg (by decide),if_pos rfl,Option.bind_some]
    dsimp only
    rw [rn_eq hok,Option.bind_some,Option.bind_some]
    exact fin _
   | C=>
    show (if K.wrC=K.wrA then _ else if K.wrC=K.wrB then _ else if K.wrC=K.wrC then _ else _)=_
    rw [if_neg (by decide),if_neg (by decide),if_pos rfl]
    unfold Zcg.g Zcg.f Zdl.g Zdl.f
    rw [if_neg (by decide),if_neg (by decide),if_pos rfl,Option.bind_some]
    dsimp only
    rw [rn_eq hok,Option.bind_some,Option.bind_some]
    exact fin _
   | E=>
    show (if K.wrE=K.wrA then _ else if K.wrE=K.wrB then _ else if K.wrE=K.wrC then _ else if K.wrE=K.wrE then _ else _)=_
    rw [if_neg (by decide),if_neg (by decide),if_neg (by decide),if_pos rfl,num2_eq hok [] (.inl rfl),Option.bind_some]
    exact fin _
   | Q=>
    show (if K.wrQ=K.wrA then _ else if K.wrQ=K.wrB then _ else if K.wrQ=K.wrC then _ else if K.wrQ=K.wrE then _ else if K.wrQ=K.wrQ then _ else _)=_
    rw [if_neg (by decide),if_neg (by decide),if_neg (by decide),if_neg (by decide),if_pos rfl,num2_eq hok [61] (.inr rfl),Option.bind_some]
    exact fin _
   | N=>
    show (if K.wrN=K.wrA then _ else if K.wrN=K.wrB then _ else if K.wrN=K.wrC then _ else if K.wrN=K.wrE then _ else if K.wrN=K.wrQ then _ else if K.wrN=K.wrN then _ else _)=_
    rw [if_neg (by decide),if_neg (by decide),if_neg (by decide),if_neg (by decide),if_neg (by decide),if_pos rfl]
    unfold Zei.g Zei.f
    rw [Option.bind_some]
    exact fin _
  ·have hi':i=ods.length:=by omega
   subst hi'
   rw [List.drop_length,List.map_nil,List.append_nil,Zad.l12,Zad.l12]
   simp only [dt]
   rw [if_neg (by omega),if_neg (by omega)]
def hk (k:Int):Int:=if k=2 then 1 else if k=6 then 7 else k
def mtx (s:Sm):Str:=(if s.k=9∨s.k=10 then [46] else [])++L.mnemR (hk s.k) s.o s.u
def stx (s:Sm) (t:Option Tr):Str:=if s.k=0 then [] else mtx s++32::L.sjoinR [44,32] ((odL s.k s.o).map (wtx s t))
def ltx (lb:Str) (s:Sm) (t:Option Tr):Str:=if lb=[] then stx s t else lb++58::(if s.k=0 then [] else 32::stx s t)
theorem nt_len:∀ e∈L.nameTbl,e.2.2.length≤6:=by decide +kernel
theorem mnem_len (k o:Int) (u:Bool):(L.mnemR k o u).length≤6:=by
 by_cases h:L.mnemR k o u=[]
 ·rw [h]; simp
 ·obtain ⟨e,he,_,h2⟩:=mnem_mem h
  rw [← h2]; exact nt_len e he
theorem flat_len (sep:Str) (b:Nat):∀ (l:List Str),(∀ x∈l,x.length≤b)→((l.map (sep++·)).flatten).length≤(b+sep.length) * l.length
 | [],_=>by simp
 | y::r,h=>by
  have h1:=h y (by simp)
  have h2:=flat_len sep b r fun z hz=>h z (by simp [hz])
  rw [List.map_cons,List.flatten_cons,List.length_append,List.length_append,List.length_cons,Nat.mul_add,Nat.mul_one]
  omega
theorem sjoin_len (sep:Str) (b:Nat) (l:List Str) (h:∀ x∈l,x.length≤b):(L.sjoinR sep l).length≤(b+sep.length) * l.length:=by
 cases l with
 | nil=>simp [L.sjoinR]
 | cons x r=>
  have h1:=h x (by simp)
  have h2:=flat_len sep b r fun z hz=>h z (by simp [hz])
  rw [show L.sjoinR sep (x::r)=x++(r.map (sep++·)).flatten from rfl,List.length_append,List.length_cons,Nat.mul_add,Nat.mul_one]
  omega
theorem hk_range {k:Int} (h:0≤k) (h2:k≤10):-9223372036854775808≤hk k∧hk k≤9223372036854775807:=by unfold hk; split <;> (try split) <;> omega
theorem head_eq' (k:Int):Zeb.g k=some (hk k,()):=by
 unfold Zeb.g Zeb.f hk
 simp only [dt]
 split
 ·rfl
 ·split <;> rfl
theorem dotted_eq (k:Int):Zdd.g k=some (decide (k=9∨k=10),()):=by
 unfold Zdd.g Zdd.f
 simp only [df]
 by_cases h:k=9
 ·rw [if_neg (by simp [h])]; simp [h]
 ·rw [if_pos h]; simp [h]
abbrev printG (lb:Str) (s:Sm):Option (Str×Int×Unit):=Zad.g lb s.k s.o s.a s.b s.c s.u s.e s.nm
theorem good_kr {s:Sm} {t:Option Tr} (h:GoodS s t):0≤s.k∧s.k≤10∧0≤s.o∧s.o≤15:=by
 cases h with
 | none=>decide
 | ins0 h hk=>obtain ⟨h1,h2,h3,h4⟩:=i0_range h; exact ⟨by dsimp only; omega,by dsimp only; omega,h3,h4⟩
 | ins1 h hk ht=>obtain ⟨h1,h2,h3,h4⟩:=i0_range h; exact ⟨by dsimp only; omega,by dsimp only; omega,h3,h4⟩
 | load ha ht=>refine ⟨?_,?_,?_,?_⟩ <;> dsimp only <;> decide
 | word ht=>refine ⟨?_,?_,?_,?_⟩ <;> dsimp only <;> decide
 | exp hn=>refine ⟨?_,?_,?_,?_⟩ <;> dsimp only <;> decide
theorem print_good {s:Sm} {t:Option Tr} (h:GoodS s t) {lb:Str} (hlb:lb=[]∨labelOk lb=true):printG lb s=some (ltx lb s t,0,()):=by
 have hod:=good_od h
 have hkr:=good_kr h
 have hl3:=odL_len s.k s.o
 have hll:lb.length≤12:=by
  rcases hlb with rfl | hlb
  ·simp
  ·unfold labelOk at hlb
   simp only [Bool.and_eq_true,decide_eq_true_eq] at hlb
   exact hlb.1.1.1.2
 have hbody:(L.sjoinR [44,32] ((odL s.k s.o).map (wtx s t))).length≤4000:=by
  have:=sjoin_len [44,32] 1300 ((odL s.k s.o).map (wtx s t)) (fun x hx=>by
   obtain ⟨d,hd,rfl⟩:=List.mem_map.1 hx
   exact wtx_len (hod d hd))
  rw [List.length_map] at this
  have h2:(1300+([44,32]:Str).length) * (odL s.k s.o).length≤1302 * 3:=Nat.mul_le_mul (by decide) hl3
  omega
 have hmt:(mtx s).length≤7:=by
  unfold mtx
  have:=mnem_len (hk s.k) s.o s.u
  rw [List.length_append]
  split <;> simp <;> omega
 have hm:L.mnemO (hk s.k) s.o s.u=some (L.mnemR (hk s.k) s.o s.u,()):=mnemO_eq s.u (hk_range hkr.1 hkr.2.1) (by omega)
 have J17:∀ (n:Nat) (out:List Str),(L.sjoinR [32] out).length≤10000→out.length≤10→Zad.j17 n out=some (L.sjoinR [32] out,0,()):=fun n out h1 h2=>by
  unfold Zad.j17 L.sjoinO
  rw [if_pos ⟨by omega,by omega⟩,Option.bind_some]
 have J10:∀ (n:Nat) (out:List Str),10≤n→out.length≤1→(∀ x∈out,x.length≤13)→Zad.j10 n out (mtx s) s.k s.o s.a s.b s.c s.u s.e s.nm=some (L.sjoinR [32] (out++[mtx s,L.sjoinR [44,32] ((odL s.k s.o).map (wtx s t))]),0,()):=fun n out hn ho hx=>by
  unfold Zad.j10
  have hlen:((L.opsR s.k s.o).length:Int)=((odL s.k s.o).length:Int):=by rw [opsR_eq,List.length_map]
  rw [hlen,opsR_eq]
  have:=write_loop s t out (mtx s) n (odL s.k s.o) hod hl3 n 0 [] (by omega) (by omega) rfl
  rw [show ((0:Nat):Int)=0 from rfl] at this
  rw [this,List.drop_zero,List.nil_append,Zad.l12]
  simp only [dt]
  rw [if_neg (by omega)]
  unfold L.sjoinO
  rw [if_pos ⟨by omega,by rw [List.length_map]; omega⟩,Option.bind_some]
  dsimp only
  rw [if_pos (by simp; omega)]
  refine J17 n _ ?_ (by simp; omega)
  generalize L.sjoinR [44,32] ((odL s.k s.o).map (wtx s t))=B at hbody
  generalize mtx s=M at hmt
  match out,ho with
  | [],_=>simp [L.sjoinR]; omega
  | [x],_=>have:=hx x (by simp); simp [L.sjoinR]; omega
 have J6:∀ (n:Nat) (out:List Str),10≤n→out.length≤1→(∀ x∈out,x.length≤13)→Zad.j6 n out s.k s.o s.a s.b s.c s.u s.e s.nm=some (L.sjoinR [32] (out++(if s.k=0 then [] else [mtx s,L.sjoinR [44,32] ((odL s.k s.o).map (wtx s t))])),0,()):=fun n out hn ho hx=>by
  unfold Zad.j6
  simp only [dt,head_eq',Option.bind_some,hm,dotted_eq]
  by_cases h0:s.k=0
  ·rw [if_neg (by simp [h0]),if_pos h0,List.append_nil]
   refine J17 n out ?_ (by omega)
   match out,ho with
   | [],_=>simp [L.sjoinR]
   | [x],_=>have:=hx x (by simp); simp [L.sjoinR]; omega
  ·rw [if_pos h0,if_neg h0,← J10 n out hn ho hx]
   unfold mtx
   by_cases hd:s.k=9∨s.k=10
   ·rw [if_pos hd,if_pos (by have:=mnem_len (hk s.k) s.o s.u; simp; omega),if_pos hd]
   ·rw [if_neg hd,if_neg hd]; rfl
 have J3:∀ n,10≤n→Zad.j3 n lb s.k s.o s.a s.b s.c s.u s.e s.nm=some (ltx lb s t,0,()):=fun n hn=>by
  unfold Zad.j3 ltx stx
  by_cases hl:lb=[]
  ·subst hl
   rw [if_neg (by decide),J6 n [] hn (by simp) (by simp),if_pos rfl]
   by_cases h0:s.k=0
   ·rw [if_pos h0,if_pos h0]; rfl
   ·rw [if_neg h0,if_neg h0]; simp [L.sjoinR]
  ·rw [if_pos (by simp [hl]),if_pos (by simp; omega),if_pos (by simp),J6 n _ hn (by simp) (by simp; omega),if_neg hl]
   by_cases h0:s.k=0
   ·rw [if_pos h0,if_pos h0]; simp [L.sjoinR]
   ·rw [if_neg h0,if_neg h0,if_neg h0]; simp [L.sjoinR]
 unfold printG Zad.g
 have hN:10≤1000+lb.length+s.k.toNat+s.o.toNat+s.a.toNat+s.b.toNat+s.c.toNat+s.e.length+s.nm.length:=by omega
 generalize 1000+lb.length+s.k.toNat+s.o.toNat+s.a.toNat+s.b.toNat+s.c.toNat+s.e.length+s.nm.length=n at hN
 unfold Zad.f
 have hmay:Zag.g s.k s.o s.a s.b s.c s.u s.e s.nm=some (true,()):=may_good h
 rw [hmay,J3 n hN,label_eq]
 simp only [Option.bind_some]
 rcases hlb with rfl | hlb
 ·rfl
 ·rw [hlb]
  have:lb≠[]:=by rintro rfl; exact absurd hlb (by decide)
  rw [if_pos (by simp [this]),if_pos (by decide),if_neg (by decide)]
theorem print_bad {s:Sm} {lb:Str} (h:(lb≠[]∧labelOk lb=false)∨mayG s=some (false,())) (hm:∃ r,mayG s=some (r,())):printG lb s=some ([],22,()):=by
 unfold printG Zad.g
 generalize 1000+lb.length+s.k.toNat+s.o.toNat+s.a.toNat+s.b.toNat+s.c.toNat+s.e.length+s.nm.length=n
 unfold Zad.f
 obtain ⟨r,hr⟩:=hm
 have hr':Zag.g s.k s.o s.a s.b s.c s.u s.e s.nm=some (r,()):=hr
 rw [hr',label_eq]
 simp only [Option.bind_some]
 rcases h with ⟨h1,h2⟩ | h
 ·rw [if_pos (by simp [h1]),h2,if_neg (by decide)]
 ·have:r=false:=by rw [h] at hr; simpa using hr.symm
  subst this
  split
  ·split <;> rfl
  ·rfl
end Rv
namespace Rv
open Go
def ek:Option Tr→List Bt
 | none=>[]
 | some t=>t.toks
theorem stx_len {s:Sm} {t:Option Tr} (h:GoodS s t):(stx s t).length≤4100:=by
 unfold stx
 split
 ·simp
 ·have:=sjoin_len [44,32] 1300 ((odL s.k s.o).map (wtx s t)) (fun x hx=>by
   obtain ⟨d,hd,rfl⟩:=List.mem_map.1 hx
   exact wtx_len (good_od h d hd))
  rw [List.length_map] at this
  have h2:(1300+([44,32]:Str).length) * (odL s.k s.o).length≤1302 * 3:=Nat.mul_le_mul (by decide) (odL_len _ _)
  have h3:(mtx s).length≤7:=by
   unfold mtx
   have:=mnem_len (hk s.k) s.o s.u
   rw [List.length_append]
   split <;> simp <;> omega
  rw [List.length_append,List.length_cons]
  omega
theorem ltx_len {s:Sm} {t:Option Tr} (h:GoodS s t) {lb:Str} (hlb:lb=[]∨labelOk lb=true):(ltx lb s t).length≤5000:=by
 have h1:=stx_len h
 have hll:lb.length≤12:=by
  rcases hlb with rfl | hlb
  ·simp
  ·unfold labelOk at hlb
   simp only [Bool.and_eq_true,decide_eq_true_eq] at hlb
   exact hlb.1.1.1.2
 unfold ltx
 split
 ·omega
 ·rw [List.length_append,List.length_cons]
  split
  ·simp; omega
  ·rw [List.length_cons]; omega
end Rv
namespace Rv
open Go
def isSg (l:List TokL) (p:Nat) (c:UInt8):Bool:=decide (p < l.length) && decide ((l.getD p dTok).1=3) && decide ((l.getD p dTok).2.2.1=[c])
abbrev XR:=Except Int (List Item×Nat)
def xF (l:List TokL) (S F:Nat→XR) (p:Nat):XR:=
 if isSg l p 45=true then (match F (p+1) with | .error e=>.error e | .ok r=>.ok (r.1++[(3,0,[],())],r.2))
 else if isSg l p 40=true then (match S (p+1) with | .error e=>.error e | .ok r=>if isSg l r.2 41=true then .ok (r.1,r.2+1) else .error 23)
 else if p < l.length∧(l.getD p dTok).1=2 then .ok ([(1,(l.getD p dTok).2.2.2.1,[],())],p+1)
 else if p < l.length∧(l.getD p dTok).1=1∧labelOk (l.getD p dTok).2.2.1=true then .ok ([(2,0,(l.getD p dTok).2.2.1,())],p+1)
 else .error 23
def lT (l:List TokL) (F:Nat→XR):Nat→List Item→Nat→XR
 | 0,it,p=>.ok (it,p)
 | m+1,it,p=>if isSg l p 42=true then (match F (p+1) with | .error e=>.error e | .ok r=>lT l F m (it++r.1++[(6,0,[],())]) r.2) else .ok (it,p)
def xT (l:List TokL) (F:Nat→XR) (p:Nat):XR:=match F p with | .error e=>.error e | .ok r=>lT l F (l.length+1) r.1 r.2
def lS (l:List TokL) (T:Nat→XR):Nat→List Item→Nat→XR
 | 0,it,p=>.ok (it,p)
 | m+1,it,p=>if isSg l p 43=true then (match T (p+1) with | .error e=>.error e | .ok r=>lS l T m (it++r.1++[(4,0,[],())]) r.2)
  else if isSg l p 45=true then (match T (p+1) with | .error e=>.error e | .ok r=>lS l T m (it++r.1++[(5,0,[],())]) r.2) else .ok (it,p)
def xS (l:List TokL) (F:Nat→XR) (p:Nat):XR:=match xT l F p with | .error e=>.error e | .ok r=>lS l (xT l F) (l.length+1) r.1 r.2
def pF (l:List TokL):Nat→Nat→XR
 | 0,_=>.error 24
 | q+1,p=>xF l (xS l (pF l q)) (pF l q) p
def parseX (l:List TokL) (p:Nat):List Item×Int×Int×Unit:=
 match xS l (pF l 9) p with
 | .error e=>([],0,e,())
 | .ok r=>if 64 < r.1.length then ([],0,24,()) else (r.1,(r.2:Int),0,())
structure OkX (l:List TokL) (p:Nat) (it:List Item) (p':Nat):Prop where
 lt:p < p'
 le:p'≤l.length
 len:it.length≤p' - p
 well:wellL it
 good:(∀ t∈l,0≤t.2.2.2.1∧t.2.2.2.1≤4294967295)→∀ x∈it,goodItem x
def GoodX (l:List TokL) (p:Nat):XR→Prop
 | .error e=>e=23∨e=24
 | .ok r=>OkX l p r.1 r.2
theorem isSg_lt {l:List TokL} {p:Nat} {c:UInt8} (h:isSg l p c=true):p < l.length:=by
 unfold isSg at h
 simp only [Bool.and_eq_true,decide_eq_true_eq] at h
 exact h.1.1
theorem getD_memT {l:List TokL} {p:Nat} (h:p < l.length):l.getD p dTok∈l:=by
 rw [List.getD_eq_getElem?_getD,List.getElem?_eq_getElem h]; exact List.getElem_mem h
theorem goodX_F {l:List TokL} {S F:Nat→XR} (hS:∀ p,GoodX l p (S p)) (hF:∀ p,GoodX l p (F p)) (p:Nat):GoodX l p (xF l S F p):=by
 unfold xF
 split
 ·rename_i h
  have:=hF (p+1)
  cases hr:F (p+1) with
  | error e=>rw [hr] at this; exact this
  | ok r=>
   rw [hr] at this
   have h1:=this.lt; have h2:=this.len; have h3:=this.le
   refine ⟨by dsimp only; omega,h3,by simp; omega,well_one this.well _ rfl,fun ht x hx=>?_⟩
   simp only [List.mem_append,List.mem_singleton] at hx
   rcases hx with hx | rfl
   ·exact this.good ht x hx
   ·exact ⟨by decide,by decide,rfl⟩
 ·split
  ·have:=hS (p+1)
   cases hr:S (p+1) with
   | error e=>rw [hr] at this; exact this
   | ok r=>
    rw [hr] at this
    dsimp only
    split
    ·rename_i h
     have h0:=isSg_lt h
     have h1:=this.lt; have h2:=this.len; have h3:=this.le
     exact ⟨by dsimp only; omega,by dsimp only; omega,by dsimp only; omega,this.well,this.good⟩
    ·exact .inl rfl
  ·split
   ·rename_i h
    refine ⟨by dsimp only; omega,by have:=h.1; dsimp only; omega,by simp,rfl,fun ht x hx=>?_⟩
    simp only [List.mem_singleton] at hx
    subst hx
    have:=ht _ (getD_memT h.1)
    exact ⟨this.1,this.2,rfl⟩
   ·split
    ·rename_i h
     have hn:needsR (2,0,(l.getD p dTok).2.2.1,())=(0,true):=by
      generalize (l.getD p dTok).2.2.1=tx at h
      unfold needsR
      simp [h.2.2]
     refine ⟨by dsimp only; omega,by have:=h.1; dsimp only; omega,by simp,?_,fun ht x hx=>?_⟩
     ·show enough 0 [((2,0,(l.getD p dTok).2.2.1,()):Item)]=some 1
      generalize ((2,0,(l.getD p dTok).2.2.1,()):Item)=x at hn
      simp [enough,hn]
     ·simp only [List.mem_singleton] at hx
      subst hx
      exact ⟨by show (0:Int)≤0; decide,by show (0:Int)≤_; decide,by rw [hn]⟩
    ·exact .inl rfl
theorem goodX_bin {l:List TokL} {a b c:Nat} {A B:List Item} (ha:OkX l a A b) (hb:OkX l (b+1) B c) (x:Item) (hx:needsR x=(2,true)) (h0:x.2.1=0):OkX l a (A++B++[x]) c:=by
 have h1:=ha.lt; have h2:=ha.len; have h3:=hb.lt; have h4:=hb.len
 refine ⟨by omega,hb.le,by simp; omega,well_two ha.well hb.well x hx,fun ht y hy=>?_⟩
 simp only [List.mem_append,List.mem_singleton] at hy
 rcases hy with (hy | hy) | rfl
 ·exact ha.good ht y hy
 ·exact hb.good ht y hy
 ·exact ⟨by rw [h0]; decide,by rw [h0]; decide,by rw [hx]⟩
theorem goodX_lT {l:List TokL} {F:Nat→XR} (hF:∀ p,GoodX l p (F p)) (a:Nat):∀ (m:Nat) (it:List Item) (p:Nat),OkX l a it p→GoodX l a (lT l F m it p)
 | 0,it,p,h=>h
 | m+1,it,p,h=>by
  rw [lT]
  split
  ·have:=hF (p+1)
   cases hr:F (p+1) with
   | error e=>rw [hr] at this; exact this
   | ok r=>
    rw [hr] at this
    exact goodX_lT hF a m _ _ (goodX_bin h this _ rfl rfl)
  ·exact h
theorem goodX_T {l:List TokL} {F:Nat→XR} (hF:∀ p,GoodX l p (F p)) (p:Nat):GoodX l p (xT l F p):=by
 unfold xT
 have:=hF p
 cases hr:F p with
 | error e=>rw [hr] at this; exact this
 | ok r=>rw [hr] at this; exact goodX_lT hF p _ _ _ this
theorem goodX_lS {l:List TokL} {F:Nat→XR} (hF:∀ p,GoodX l p (F p)) (a:Nat):∀ (m:Nat) (it:List Item) (p:Nat),OkX l a it p→GoodX l a (lS l F m it p)
 | 0,it,p,h=>h
 | m+1,it,p,h=>by
  rw [lS]
  split
  ·have:=hF (p+1)
   cases hr:F (p+1) with
   | error e=>rw [hr] at this; exact this
   | ok r=>
    rw [hr] at this
    exact goodX_lS hF a m _ _ (goodX_bin h this _ rfl rfl)
  ·split
   ·have:=hF (p+1)
    cases hr:F (p+1) with
    | error e=>rw [hr] at this; exact this
    | ok r=>
     rw [hr] at this
     exact goodX_lS hF a m _ _ (goodX_bin h this _ rfl rfl)
   ·exact h
theorem goodX_S {l:List TokL} {F:Nat→XR} (hF:∀ p,GoodX l p (F p)) (p:Nat):GoodX l p (xS l F p):=by
 unfold xS
 have:=goodX_T hF p
 cases hr:xT l F p with
 | error e=>rw [hr] at this; exact this
 | ok r=>rw [hr] at this; exact goodX_lS (goodX_T hF) p _ _ _ this
theorem goodX_pF (l:List TokL):∀ (q p:Nat),GoodX l p (pF l q p)
 | 0,_=>.inr rfl
 | q+1,p=>goodX_F (goodX_S (goodX_pF l q)) (goodX_pF l q) p
theorem sign_any (all:List Str) (hall:all.length≤100) (l:List TokL) (p:Nat) (hl:l.length≤1000000) (out:List Item):Zaq.g all l p out 0 =
  if p < l.length∧(l.getD p dTok).1=3∧(l.getD p dTok).2.2.1∈all then some ((l.getD p dTok).2.2.1,true,l,((p+1:Nat):Int),out,0,()) else some ([],false,l,(p:Int),out,0,()):=by
 unfold Zaq.g Zaq.f
 by_cases hp:p < l.length
 ·rw [next_at l p out hp,Option.bind_some]
  dsimp only
  have:=sign_loop (1000+all.length+l.length+(p:Int).toNat+out.length+(0:Int).toNat) all hall true l p out 0 (l.getD p dTok).1 (l.getD p dTok).2.1 (l.getD p dTok).2.2.1 (l.getD p dTok).2.2.2.1 (1000+all.length+l.length+(p:Int).toNat+out.length+(0:Int).toNat) 0 (by omega) (by omega)
  rw [show ((0:Nat):Int)=0 from rfl] at this
  rw [this,w64 (by omega),List.drop_zero]
  by_cases h:(l.getD p dTok).1=3∧(l.getD p dTok).2.2.1∈all
  ·rw [if_pos ⟨rfl,h⟩,if_pos ⟨hp,h⟩]; rfl
  ·rw [if_neg (fun g=>h g.2),if_neg (fun g=>h g.2)]
 ·rw [next_end l p out (by omega),Option.bind_some]
  dsimp only
  have:=sign_loop (1000+all.length+l.length+(p:Int).toNat+out.length+(0:Int).toNat) all hall false l p out 0 0 0 [] 0 (1000+all.length+l.length+(p:Int).toNat+out.length+(0:Int).toNat) 0 (by omega) (by omega)
  rw [show ((0:Nat):Int)=0 from rfl] at this
  rw [this,if_neg (fun g=>by cases g.1),if_neg (fun g=>hp g.1)]
theorem isSg_iff {l:List TokL} {p:Nat} {c:UInt8}:isSg l p c=true↔p < l.length∧(l.getD p dTok).1=3∧(l.getD p dTok).2.2.1=[c]:=by
 unfold isSg
 simp only [Bool.and_eq_true,decide_eq_true_eq,and_assoc]
theorem put_big (a b:Int) (c:Str) (l:List TokL) (p:Int) (out:List Item) (e:Int) (ho:out.length≤3000000):Zbf.g a b c l p out e=some (l,p,out++[(a,b,c,())],e,()):=by
 unfold Zbf.g Zbf.f
 rw [if_pos (by simp; omega)]
def ResF (l:List TokL) (out:List Item) (B:Nat) (r:Option (List TokL×Int×List Item×Int×Unit)):XR→Prop
 | .ok x=>r=some (l,(x.2:Int),out++x.1,0,())
 | .error e=>∃ p' out',r=some (l,p',out',e,())∧out'.length≤B
def ResT (l:List TokL) (out:List Item) (d:Int) (B:Nat) (r:Option (List TokL×Int×List Item×Int×Unit×Int×Unit)):XR→Prop
 | .ok x=>r=some (l,(x.2:Int),out++x.1,0,(),d,())
 | .error e=>∃ p' out',r=some (l,p',out',e,(),d,())∧out'.length≤B
def okFq (l:List TokL) (q:Nat):Prop:=∀ (p:Nat) (out:List Item) (Q:Nat),out.length+(l.length - p)≤1000000→6 * q+1≤Q→ResF l out (2000000+3 * q) ((R Q).expr_parser_factor ((9 - q:Nat):Int) l p out 0) (pF l q p)
def okTq (l:List TokL) (q:Nat):Prop:=∀ (p:Nat) (out:List Item) (Q:Nat),out.length+(l.length - p)≤1000000→6 * q+4≤Q→∃ r,(R Q).expr_parser_sum_1 ((9 - q:Nat):Int) l p out 0=r.map (fun y=>((),((9 - q:Nat):Int),y))∧ResF l out (2000000+3 * q+1) r (xT l (pF l q) p)
def okSq (l:List TokL) (q:Nat):Prop:=∀ (p:Nat) (out:List Item) (Q:Nat),out.length+(l.length - p)≤1000000→6 * q+6≤Q→ResF l out (2000000+3 * q+2) ((R Q).expr_parser_sum ((9 - q:Nat):Int) l p out 0) (xS l (pF l q) p)
theorem err_ne {l:List TokL} {p:Nat} {x:XR} {e:Int} (h:GoodX l p x) (hx:x=.error e):e≠0:=by
 subst hx
 rcases h with rfl | rfl <;> decide
theorem T_loop {l:List TokL} (hl:l.length≤1000000) {q:Nat} (hq9:q≤9) (hF:okFq l q) (n:Nat) (Q:Nat) (hQ:6 * q+2≤Q) (out:List Item):∀ (m M:Nat) (it:List Item) (p:Nat),l.length - p < m→l.length - p < M→(out++it).length+(l.length - p)≤1000000 →
  ResT l out ((9 - q:Nat):Int) (2000000+3 * q+1) (expr_parser_row_c201.l1 n (R Q) M sMul l p (out++it) 0 ((9 - q:Nat):Int)) (lT l (pF l q) m it p):=by
 intro m
 induction m with
 | zero=>intro M it p h; omega
 | succ m ih=>
  intro M it p hm hM ho
  obtain ⟨M,rfl⟩:∃ M',M=M'+1:=⟨M - 1,by omega⟩
  rw [expr_parser_row_c201.l1,sign_any sMul (by simp) l p hl,lT]
  by_cases hs:isSg l p 42=true
  ·have hs':=isSg_iff.1 hs
   rw [if_pos ⟨hs'.1,hs'.2.1,by rw [hs'.2.2]; decide⟩,if_pos hs,Option.bind_some,hs'.2.2]
   dsimp only
   rw [if_neg (by decide)]
   obtain ⟨Q,rfl⟩:∃ Q',Q=Q'+1:=⟨Q - 1,by omega⟩
   have e:(R (Q+1)).expr_parser_sum_1_1 ((9 - q:Nat):Int) l ((p+1:Nat):Int) (out++it) 0=expr_parser_sum_1_1.h (R Q) ((9 - q:Nat):Int) l ((p+1:Nat):Int) (out++it) 0:=rfl
   rw [e]
   unfold expr_parser_sum_1_1.h expr_parser_sum_1_1.f
   have hg:=goodX_pF l q (p+1)
   have hr:=hF (p+1) (out++it) Q (by omega) (by omega)
   cases hx:pF l q (p+1) with
   | error e=>
    rw [hx] at hr
    obtain ⟨p',out',h1,h2⟩:=hr
    have hne:=err_ne hg hx
    have hlt:=hs'.1
    rw [h1,Option.bind_some,Option.bind_some]
    dsimp only
    rw [put_big _ _ _ _ _ _ _ (by omega),Option.bind_some]
    dsimp only
    obtain ⟨M,rfl⟩:∃ M',M=M'+1:=⟨M - 1,by omega⟩
    rw [l52_err n _ M l p' _ e _ hne]
    exact ⟨p',_,rfl,by simp; omega⟩
   | ok r=>
    rw [hx] at hr hg
    have hr:(R Q).expr_parser_factor ((9 - q:Nat):Int) l ((p+1:Nat):Int) (out++it) 0=some (l,(r.2:Int),(out++it)++r.1,0,()):=hr
    have g1:=hg.lt; have g2:=hg.len; have g3:=hg.le
    rw [hr,Option.bind_some,Option.bind_some]
    dsimp only
    rw [put_big _ _ _ _ _ _ _ (by simp at ho ⊢; omega),Option.bind_some]
    dsimp only
    have:=ih M (it++r.1++[(6,0,[],())]) r.2 (by omega) (by omega) (by simp at ho ⊢; omega)
    rw [show out++it++r.1++[((L.kinds [42]).1,0,[],())]=out++(it++r.1++[(6,0,[],())]) by simp [L.kinds]]
    exact this
  ·rw [if_neg (fun h=>hs (isSg_iff.2 ⟨h.1,h.2.1,by simpa using h.2.2⟩)),if_neg hs,Option.bind_some]
   rfl
theorem T_of {l:List TokL} (hl:l.length≤1000000) {q:Nat} (hq9:q≤9) (hF:okFq l q):okTq l q:=by
 intro p out Q ho hQ
 obtain ⟨Q,rfl⟩:∃ Q',Q=Q'+2:=⟨Q - 2,by omega⟩
 have e:(R (Q+2)).expr_parser_sum_1 ((9 - q:Nat):Int) l (p:Int) out 0=expr_parser_sum_1.h (R (Q+1)) ((9 - q:Nat):Int) l (p:Int) out 0:=rfl
 rw [e]
 unfold expr_parser_sum_1.h expr_parser_sum_1.f
 have e2:(R (Q+1)).expr_parser_row_c201 sMul l (p:Int) out 0 ((9 - q:Nat):Int)=expr_parser_row_c201.h (R Q) sMul l (p:Int) out 0 ((9 - q:Nat):Int):=rfl
 rw [e2]
 unfold expr_parser_row_c201.h expr_parser_row_c201.f
 obtain ⟨N,hN⟩:∃ N,1000+sMul.length+l.length+(p:Int).toNat+out.length+(0:Int).toNat+(((9 - q:Nat):Int)).toNat=N:=⟨_,rfl⟩
 rw [hN]
 obtain ⟨Q,rfl⟩:∃ Q',Q=Q'+1:=⟨Q - 1,by omega⟩
 have e3:(R (Q+1)).expr_parser_sum_1_1 ((9 - q:Nat):Int) l (p:Int) out 0=expr_parser_sum_1_1.h (R Q) ((9 - q:Nat):Int) l (p:Int) out 0:=rfl
 rw [e3]
 unfold expr_parser_sum_1_1.h expr_parser_sum_1_1.f
 have hg:=goodX_pF l q p
 have hr:=hF p out Q (by omega) (by omega)
 unfold xT
 cases hx:pF l q p with
 | error e=>
  rw [hx] at hr
  obtain ⟨p',out',h1,h2⟩:=hr
  have hne:=err_ne hg hx
  rw [h1,Option.bind_some,Option.bind_some]
  dsimp only
  obtain ⟨M,rfl⟩:∃ M',N=M'+1:=⟨N - 1,by omega⟩
  rw [l52_err _ _ M l p' _ e _ hne,Option.bind_some]
  exact ⟨some (l,p',out',e,()),rfl,p',out',rfl,by omega⟩
 | ok r=>
  rw [hx] at hr hg
  have hr:(R Q).expr_parser_factor ((9 - q:Nat):Int) l (p:Int) out 0=some (l,(r.2:Int),out++r.1,0,()):=hr
  have g1:=hg.lt; have g2:=hg.len; have g3:=hg.le
  rw [hr,Option.bind_some,Option.bind_some]
  dsimp only
  have:=T_loop hl hq9 hF N (Q+1) (by omega) out (l.length+1) N r.1 r.2 (by omega) (by omega) (by simp; omega)
  generalize expr_parser_row_c201.l1 N (R (Q+1)) N sMul l (r.2:Int) (out++r.1) 0 ((9 - q:Nat):Int)=X at this
  cases hy:lT l (pF l q) (l.length+1) r.1 r.2 with
  | error e=>
   rw [hy] at this
   obtain ⟨p',out',h1,h2⟩:=this
   rw [h1,Option.bind_some]
   exact ⟨some (l,p',out',e,()),rfl,p',out',rfl,h2⟩
  | ok x=>
   rw [hy] at this
   have this:X=some (l,(x.2:Int),out++x.1,0,(),((9 - q:Nat):Int),()):=this
   rw [this,Option.bind_some]
   exact ⟨some (l,(x.2:Int),out++x.1,0,()),rfl,rfl⟩
theorem S_loop {l:List TokL} (hl:l.length≤1000000) {q:Nat} (hq9:q≤9) (hT:okTq l q) (n:Nat) (Q:Nat) (hQ:6 * q+4≤Q) (out:List Item):∀ (m M:Nat) (it:List Item) (p:Nat),l.length - p < m→l.length - p < M→(out++it).length+(l.length - p)≤1000000 →
  ResT l out ((9 - q:Nat):Int) (2000000+3 * q+2) (expr_parser_row_c200.l1 n (R Q) M sAdd l p (out++it) 0 ((9 - q:Nat):Int)) (lS l (xT l (pF l q)) m it p):=by
 intro m
 induction m with
 | zero=>intro M it p h; omega
 | succ m ih=>
  intro M it p hm hM ho
  obtain ⟨M,rfl⟩:∃ M',M=M'+1:=⟨M - 1,by omega⟩
  rw [expr_parser_row_c200.l1,sign_any sAdd (by simp) l p hl,lS]
  have step:∀ (c:UInt8) (K:Int),(L.kinds [c]).1=K→isSg l p c=true →
    ResT l out ((9 - q:Nat):Int) (2000000+3 * q+2) (((R Q).expr_parser_sum_1 ((9 - q:Nat):Int) l ((p+1:Nat):Int) (out++it) 0).bind fun y2=>(Zbf.g ((L.kinds [c]).1) 0 ([]:Str) y2.2.2.1 y2.2.2.2.1 y2.2.2.2.2.1 y2.2.2.2.2.2.1).bind fun y3=>(expr_parser_row_c200.l1 n (R Q) M) sAdd y3.1 y3.2.1 y3.2.2.1 y3.2.2.2.1 y2.2.1)
     (match xT l (pF l q) (p+1) with | .error e=>.error e | .ok r=>lS l (xT l (pF l q)) m (it++r.1++[(K,0,[],())]) r.2):=by
   intro c K hK hs
   have hs':=isSg_iff.1 hs
   have hlt:=hs'.1
   have hg:=goodX_T (goodX_pF l q) (p+1)
   obtain ⟨rr,h0,hr⟩:=hT (p+1) (out++it) Q (by omega) hQ
   rw [h0]
   cases hx:xT l (pF l q) (p+1) with
   | error e=>
    rw [hx] at hr
    obtain ⟨p',out',h1,h2⟩:=hr
    have hne:=err_ne hg hx
    rw [h1,Option.map_some,Option.bind_some]
    dsimp only
    rw [put_big _ _ _ _ _ _ _ (by omega),Option.bind_some]
    dsimp only
    obtain ⟨M,rfl⟩:∃ M',M=M'+1:=⟨M - 1,by omega⟩
    rw [l51_err n _ M l p' _ e _ hne]
    exact ⟨p',_,rfl,by simp; omega⟩
   | ok r=>
    rw [hx] at hr hg
    have hr:rr=some (l,(r.2:Int),(out++it)++r.1,0,()):=hr
    have g1:=hg.lt; have g2:=hg.len; have g3:=hg.le
    rw [hr,Option.map_some,Option.bind_some]
    dsimp only
    rw [put_big _ _ _ _ _ _ _ (by simp at ho ⊢; omega),Option.bind_some]
    dsimp only
    have:=ih M (it++r.1++[(K,0,[],())]) r.2 (by omega) (by omega) (by simp at ho ⊢; omega)
    rw [hK,show out++it++r.1++[(K,0,[],())]=out++(it++r.1++[(K,0,[],())]) by simp]
    exact this
  by_cases hs:isSg l p 43=true
  ·have hs':=isSg_iff.1 hs
   rw [if_pos ⟨hs'.1,hs'.2.1,by rw [hs'.2.2]; decide⟩,if_pos hs,Option.bind_some,hs'.2.2]
   dsimp only
   rw [if_neg (by decide)]
   exact step 43 4 rfl hs
  ·by_cases hs2:isSg l p 45=true
   ·have hs':=isSg_iff.1 hs2
    rw [if_pos ⟨hs'.1,hs'.2.1,by rw [hs'.2.2]; decide⟩,if_neg hs,if_pos hs2,Option.bind_some,hs'.2.2]
    dsimp only
    rw [if_neg (by decide)]
    exact step 45 5 rfl hs2
   ·rw [if_neg (fun h=>by
     have h3:=h.2.2
     simp only [List.mem_cons,List.not_mem_nil,or_false] at h3
     rcases h3 with h3 | h3
     ·exact hs (isSg_iff.2 ⟨h.1,h.2.1,h3⟩)
     ·exact hs2 (isSg_iff.2 ⟨h.1,h.2.1,h3⟩)),if_neg hs,if_neg hs2,Option.bind_some]
    rfl
theorem S_of {l:List TokL} (hl:l.length≤1000000) {q:Nat} (hq9:q≤9) (hT:okTq l q):okSq l q:=by
 intro p out Q ho hQ
 obtain ⟨Q,rfl⟩:∃ Q',Q=Q'+2:=⟨Q - 2,by omega⟩
 have e:(R (Q+2)).expr_parser_sum ((9 - q:Nat):Int) l (p:Int) out 0=expr_parser_sum.h (R (Q+1)) ((9 - q:Nat):Int) l (p:Int) out 0:=rfl
 rw [e]
 unfold expr_parser_sum.h expr_parser_sum.f
 have e2:(R (Q+1)).expr_parser_row_c200 sAdd l (p:Int) out 0 ((9 - q:Nat):Int)=expr_parser_row_c200.h (R Q) sAdd l (p:Int) out 0 ((9 - q:Nat):Int):=rfl
 rw [e2]
 unfold expr_parser_row_c200.h expr_parser_row_c200.f
 obtain ⟨N,hN⟩:∃ N,1000+sAdd.length+l.length+(p:Int).toNat+out.length+(0:Int).toNat+(((9 - q:Nat):Int)).toNat=N:=⟨_,rfl⟩
 rw [hN]
 have hg:=goodX_T (goodX_pF l q) p
 obtain ⟨rr,h0,hr⟩:=hT p out Q (by omega) (by omega)
 rw [h0]
 unfold xS
 cases hx:xT l (pF l q) p with
 | error e=>
  rw [hx] at hr
  obtain ⟨p',out',h1,h2⟩:=hr
  have hne:=err_ne hg hx
  rw [h1,Option.map_some,Option.bind_some]
  dsimp only
  obtain ⟨M,rfl⟩:∃ M',N=M'+1:=⟨N - 1,by omega⟩
  rw [l51_err _ _ M l p' _ e _ hne,Option.bind_some]
  exact ⟨p',out',rfl,by omega⟩
 | ok r=>
  rw [hx] at hr hg
  have hr:rr=some (l,(r.2:Int),out++r.1,0,()):=hr
  have g1:=hg.lt; have g2:=hg.len; have g3:=hg.le
  rw [hr,Option.map_some,Option.bind_some]
  dsimp only
  have:=S_loop hl hq9 hT N Q (by omega) out (l.length+1) N r.1 r.2 (by omega) (by omega) (by simp; omega)
  generalize expr_parser_row_c200.l1 N (R Q) N sAdd l (r.2:Int) (out++r.1) 0 ((9 - q:Nat):Int)=X at this
  cases hy:lS l (xT l (pF l q)) (l.length+1) r.1 r.2 with
  | error e=>
   rw [hy] at this
   obtain ⟨p',out',h1,h2⟩:=this
   rw [h1,Option.bind_some]
   exact ⟨p',out',rfl,h2⟩
  | ok x=>
   rw [hy] at this
   have this:X=some (l,(x.2:Int),out++x.1,0,(),((9 - q:Nat):Int),()):=this
   rw [this,Option.bind_some]
   rfl
theorem F_of {l:List TokL} (hl:l.length≤1000000) {q:Nat} (hq9:q+1≤9) (hF:okFq l q) (hS:okSq l q):okFq l (q+1):=by
 intro p out Q ho hQ
 obtain ⟨Q,rfl⟩:∃ Q',Q=Q'+1:=⟨Q - 1,by omega⟩
 have e:(R (Q+1)).expr_parser_factor ((9 - (q+1):Nat):Int) l (p:Int) out 0=expr_parser_factor.h (R Q) ((9 - (q+1):Nat):Int) l (p:Int) out 0:=rfl
 rw [e]
 unfold expr_parser_factor.h expr_parser_factor.f
 have hd:IntKind.i64.wrap (((9 - (q+1):Nat):Int)+1)=((9 - q:Nat):Int):=by rw [w64 (by omega)]; omega
 rw [if_neg (by decide),if_neg (by simp; omega),sign_any [[45],[40]] (by simp) l p hl,hd]
 show ResF l out _ _ (xF l (xS l (pF l q)) (pF l q) p)
 unfold xF
 by_cases h1:isSg l p 45=true
 ·have hs':=isSg_iff.1 h1
  rw [if_pos ⟨hs'.1,hs'.2.1,by rw [hs'.2.2]; decide⟩,if_pos h1,Option.bind_some,hs'.2.2]
  dsimp only
  rw [if_pos (by decide)]
  have hlt:=hs'.1
  have hg:=goodX_pF l q (p+1)
  have hr:=hF (p+1) out Q (by omega) (by omega)
  cases hx:pF l q (p+1) with
  | error e=>
   rw [hx] at hr
   obtain ⟨p',out',h3,h2⟩:=hr
   rw [h3,Option.bind_some]
   dsimp only
   rw [put_big _ _ _ _ _ _ _ (by omega),Option.bind_some]
   exact ⟨p',_,rfl,by simp; omega⟩
  | ok r=>
   rw [hx] at hr hg
   have hr:(R Q).expr_parser_factor ((9 - q:Nat):Int) l ((p+1:Nat):Int) out 0=some (l,(r.2:Int),out++r.1,0,()):=hr
   have g1:=hg.lt; have g2:=hg.len; have g3:=hg.le
   rw [hr,Option.bind_some]
   dsimp only
   rw [put_big _ _ _ _ _ _ _ (by simp; omega),Option.bind_some]
   show some (l,(r.2:Int),out++r.1++[(3,0,[],())],0,())=some (l,(r.2:Int),out++(r.1++[(3,0,[],())]),0,())
   rw [List.append_assoc]
 ·by_cases h2:isSg l p 40=true
  ·have hs':=isSg_iff.1 h2
   rw [if_pos ⟨hs'.1,hs'.2.1,by rw [hs'.2.2]; decide⟩,if_neg h1,if_pos h2,Option.bind_some,hs'.2.2]
   dsimp only
   rw [if_neg (by decide),if_pos (by decide)]
   have hlt:=hs'.1
   have hg:=goodX_S (goodX_pF l q) (p+1)
   have hr:=hS (p+1) out Q (by omega) (by omega)
   cases hx:xS l (pF l q) (p+1) with
   | error e=>
    rw [hx] at hr
    obtain ⟨p',out',h3,h4⟩:=hr
    have hne:=err_ne hg hx
    rw [h3,Option.bind_some]
    dsimp only
    rw [sign_err _ (by simp) l p' out' e hne,Option.bind_some]
    dsimp only
    rw [if_pos (show (!false)=true from rfl),fail_err 23 l p' out' e hne,Option.bind_some]
    exact ⟨p',out',rfl,by omega⟩
   | ok r=>
    rw [hx] at hr hg
    have hr:(R Q).expr_parser_sum ((9 - q:Nat):Int) l ((p+1:Nat):Int) out 0=some (l,(r.2:Int),out++r.1,0,()):=hr
    have g1:=hg.lt; have g2:=hg.len; have g3:=hg.le
    rw [hr,Option.bind_some]
    dsimp only
    rw [sign_any [[41]] (by simp) l r.2 hl]
    by_cases h3:isSg l r.2 41=true
    ·have hs2:=isSg_iff.1 h3
     rw [if_pos ⟨hs2.1,hs2.2.1,by rw [hs2.2.2]; decide⟩,if_pos h3,Option.bind_some]
     dsimp only
     rw [if_neg (by decide)]
     rfl
    ·rw [if_neg (fun h=>h3 (isSg_iff.2 ⟨h.1,h.2.1,by simpa using h.2.2⟩)),if_neg h3,Option.bind_some]
     dsimp only
     rw [if_pos (show (!false)=true from rfl),fail_eq,Option.bind_some]
     exact ⟨_,_,rfl,by simp; omega⟩
  ·rw [if_neg (fun h=>by
     have h3:=h.2.2
     simp only [List.mem_cons,List.not_mem_nil,or_false] at h3
     rcases h3 with h3 | h3
     ·exact h1 (isSg_iff.2 ⟨h.1,h.2.1,h3⟩)
     ·exact h2 (isSg_iff.2 ⟨h.1,h.2.1,h3⟩)),if_neg h1,if_neg h2,Option.bind_some]
   dsimp only
   rw [if_neg (show ¬ decide (([]:Str)=[45])=true by decide),if_neg (show ¬ decide (([]:Str)=[40])=true by decide)]
   by_cases hp:p < l.length
   ·rw [next_at l p out hp,Option.bind_some]
    dsimp only
    generalize ht:l.getD p dTok=t
    by_cases k2:t.1=2
    ·rw [if_pos (show true=true from rfl),if_pos (show decide (t.1=2)=true by simp [k2]),if_pos (show p < l.length∧t.1=2 from ⟨hp,k2⟩),put_big _ _ _ _ _ _ _ (by omega),Option.bind_some]
     unfold expr_parser_factor.j19
     dsimp only
     rw [w64 (by omega)]
     rfl
    ·rw [if_pos (show true=true from rfl),if_neg (show ¬ decide (t.1=2)=true by simp [k2]),if_pos (show true=true from rfl),if_neg (show ¬ (p < l.length∧t.1=2) from fun h=>k2 h.2)]
     by_cases k1:t.1=1
     ·rw [if_pos (show decide (t.1=1)=true by simp [k1]),label_eq,Option.bind_some]
      dsimp only
      by_cases hL:labelOk t.2.2.1=true
      ·rw [if_pos hL,if_pos (show p < l.length∧t.1=1∧labelOk t.2.2.1=true from ⟨hp,k1,hL⟩),put_big _ _ _ _ _ _ _ (by omega),Option.bind_some]
       unfold expr_parser_factor.j19
       dsimp only
       rw [w64 (by omega)]
       rfl
      ·rw [if_neg hL,if_neg (show ¬ (p < l.length∧t.1=1∧labelOk t.2.2.1=true) from fun h=>hL h.2.2),fail_eq,Option.bind_some]
       exact ⟨_,_,rfl,by dsimp only; omega⟩
     ·rw [if_neg (show ¬ decide (t.1=1)=true by simp [k1]),if_neg (show ¬ (p < l.length∧t.1=1∧labelOk t.2.2.1=true) from fun h=>k1 h.2.1),fail_eq,Option.bind_some]
      exact ⟨_,_,rfl,by dsimp only; omega⟩
   ·rw [next_end l p out (by omega),Option.bind_some]
    dsimp only
    rw [if_neg (show ¬ false=true by decide),if_neg (show ¬ false=true by decide),if_neg (show ¬ (p < l.length∧(l.getD p dTok).1=2) from fun h=>hp h.1),if_neg (show ¬ (p < l.length∧(l.getD p dTok).1=1∧labelOk (l.getD p dTok).2.2.1=true) from fun h=>hp h.1),fail_eq,Option.bind_some]
    exact ⟨_,_,rfl,by dsimp only; omega⟩
theorem F_all {l:List TokL} (hl:l.length≤1000000):∀ q,q≤9→okFq l q
 | 0,_=>fun p out Q ho hQ=>by
  obtain ⟨Q,rfl⟩:∃ Q',Q=Q'+1:=⟨Q - 1,by omega⟩
  exact ⟨_,_,F_deep Q l p out,by omega⟩
 | q+1,h=>F_of hl h (F_all hl q (by omega)) (S_of hl (by omega) (T_of hl (by omega) (F_all hl q (by omega))))
theorem parseX_eq (l:List TokL) (hl:l.length≤1000000) (p:Nat):Zbz.g l p=some (parseX l p):=by
 unfold Zbz.g Zbz.f expr_parser_sum.g
 have hr:=S_of hl (by decide) (T_of hl (by decide) (F_all hl 9 (by decide))) p [] (1000+(0:Int).toNat+l.length+(p:Int).toNat+([]:List Item).length+(0:Int).toNat) (by simp; omega) (by omega)
 have hg:=goodX_S (goodX_pF l 9) p
 unfold parseX
 cases hx:xS l (pF l 9) p with
 | error e=>
  rw [hx] at hr
  obtain ⟨p',out',h3,_⟩:=hr
  have hne:=err_ne hg hx
  rw [show ((9 - 9:Nat):Int)=0 from rfl] at h3
  rw [h3,Option.bind_some]
  dsimp only
  rw [if_neg (by simpa using hne)]
  unfold Zbz.j5
  rw [if_pos (by simpa using hne)]
 | ok r=>
  rw [hx] at hr
  have hr:(R (1000+(0:Int).toNat+l.length+(p:Int).toNat+([]:List Item).length+(0:Int).toNat)).expr_parser_sum ((9 - 9:Nat):Int) l (p:Int) [] 0=some (l,(r.2:Int),[]++r.1,0,()):=hr
  rw [show ((9 - 9:Nat):Int)=0 from rfl] at hr
  rw [hr,Option.bind_some]
  dsimp only
  rw [if_pos (show decide ((0:Int)=0)=true from rfl),List.nil_append]
  by_cases h64:64 < r.1.length
  ·rw [if_pos (by simp; omega),if_pos h64]
   unfold Zbz.j5
   rw [if_pos (by decide)]
  ·rw [if_neg (by simp; omega),if_neg h64]
   unfold Zbz.j5
   rw [if_neg (by decide)]
end Rv
namespace Rv
open Go
def pk (kd:Int) (l:List TokL) (p:Nat) (e:Int):Str:=if e=0∧p < l.length∧(l.getD p dTok).1=kd then (l.getD p dTok).2.2.1 else []
def chk (ok:Bool) (e:Int):Int:=if ok=false∧e=0 then 22 else e
theorem peek_eq (kd:Int) (l:List TokL) (p:Nat) (e:Int):Zde.g kd l p e=some (pk kd l p e,l,(p:Int),e,()):=by
 unfold Zde.g Zde.f pk
 simp only [dt,df,Int.toNat_natCast]
 by_cases h:e=0
 ·rw [if_pos (by simp [h])]
  by_cases hp:p < l.length
  ·rw [if_pos (by omega),if_pos (by omega)]
   by_cases hk:(l.getD p dTok).1=kd
   ·rw [if_neg (by simpa using hk),if_pos (by omega),if_pos ⟨h,hp,hk⟩]
   ·rw [if_pos (by simpa using hk),if_neg (fun g=>hk g.2.2)]
  ·rw [if_neg (by omega),if_neg (fun g=>hp g.2.1)]
 ·rw [if_neg (by simp [h]),if_neg (fun g=>h g.1)]
theorem take_eq (kd:Int) (l:List TokL) (p:Nat) (e:Int) (hp:p≤9000000):Zcb.g kd l p e=some (pk kd l p e,l,((p+1:Nat):Int),e,()):=by
 unfold Zcb.g Zcb.f
 rw [peek_eq,Option.bind_some]
 dsimp only
 rw [w64 (by omega)]
 rfl
theorem check_eq (ok:Bool) (l:List TokL) (p:Int) (e:Int):Zbb.g ok l p e=some (l,p,chk ok e,()):=by
 unfold Zbb.g Zbb.f chk
 cases ok
 ·by_cases h:e=0
  ·rw [if_pos (show (!false)=true from rfl),if_pos (by simp [h]),if_pos ⟨rfl,h⟩]
  ·rw [if_pos (show (!false)=true from rfl),if_neg (by simp [h]),if_neg (fun g=>h g.2)]
 ·rw [if_neg (by decide),if_neg (fun g=>by cases g.1)]
theorem pk_len {l:List TokL} (hl:∀ t∈l,t.2.2.1.length≤1000000) (kd:Int) (p:Nat) (e:Int):(pk kd l p e).length≤1000000:=by
 unfold pk
 split
 ·rename_i h; exact hl _ (getD_memT h.2.1)
 ·simp
def chK (l:List TokL) (p:Nat) (e:Int) (s:Sm):Int:=
 if s.k=1∧((regOf (pk 1 l p e)).2=false∨(s.u=true∧s.o=0)) then 2 else if s.k=7∧(regOf (pk 1 l p e)).2=true then 6 else s.k
abbrev smR (l:List TokL) (p:Nat) (e:Int) (s:Sm):List TokL×Int×Int×Int×Int×Int×Int×Int×Bool×List Item×Str×Unit:=(l,(p:Int),e,s.k,s.o,s.a,s.b,s.c,s.u,s.e,s.nm,())
theorem choose_eq {l:List TokL} (hl:∀ t∈l,t.2.2.1.length≤1000000) (p:Nat) (e:Int) (s:Sm):Zdv.g l p e s.k s.o s.a s.b s.c s.u s.e s.nm=some (smR l p e { s with k:=chK l p e s }):=by
 unfold Zdv.g Zdv.f chK
 rw [peek_eq,Option.bind_some]
 dsimp only
 rw [reg_eq _ (pk_len hl 1 p e),Option.bind_some]
 dsimp only
 generalize (regOf (pk 1 l p e)).2=is
 simp only [dt]
 by_cases h1:s.k=1
 ·rw [if_pos h1]
  cases is
  ·rw [if_neg (by decide),if_pos ⟨h1,.inl rfl⟩]
  ·rw [if_pos (by decide)]
   by_cases hu:s.u=true
   ·rw [if_pos hu]
    by_cases ho:s.o=0
    ·rw [if_pos ho,if_pos ⟨h1,.inr ⟨hu,ho⟩⟩]
    ·rw [if_neg ho,if_neg (by omega),if_neg (fun g=>by rcases g.2 with g | g; cases g; exact ho g.2),if_neg (fun g=>by omega)]
   ·rw [if_neg hu,if_neg (by omega),if_neg (fun g=>by rcases g.2 with g | g; cases g; exact hu g.1),if_neg (fun g=>by omega)]
 ·have hm:(if s.k=1∧(is=false∨(s.u=true∧s.o=0)) then (2:Int) else if s.k=7∧is=true then 6 else s.k)=if s.k=7∧is=true then 6 else s.k:=if_neg (fun g=>h1 g.1)
  rw [if_neg h1,hm]
  by_cases h7:s.k=7
  ·rw [if_pos h7]
   cases is
   ·rw [if_neg (by decide),if_neg (fun g=>by cases g.2)]
   ·rw [if_pos rfl,if_pos ⟨h7,rfl⟩]
  ·have hm2:(if s.k=7∧is=true then (6:Int) else s.k)=s.k:=if_neg (fun g=>h7 g.1)
   rw [if_neg h7,hm2]
def rdE (l:List TokL) (p:Nat) (e:Int) (s:Sm):Nat×Int×Sm:=if e=0 then ((parseX l p).2.1.toNat,(parseX l p).2.2.1,{ s with e:=(parseX l p).1 }) else (p,e,s)
def rd (l:List TokL) (p:Nat) (e:Int) (s:Sm):Od→Nat×Int×Sm
 | .A=>(p+1,chk (regOf (pk 1 l p e)).2 e,{ s with a:=(regOf (pk 1 l p e)).1 })
 | .B=>(p+1,chk (regOf (pk 1 l p e)).2 e,{ s with b:=(regOf (pk 1 l p e)).1 })
 | .C=>(p+1,chk (regOf (pk 1 l p e)).2 e,{ s with c:=(regOf (pk 1 l p e)).1 })
 | .E=>rdE l p e s
 | .Q=>rdE l (p+1) (chk (decide (pk 3 l p e=[61])) e) s
 | .N=>(p+1,chk (nameOk (pk 1 l p e)) e,{ s with nm:=pk 1 l p e })
abbrev smO (l:List TokL) (r:Nat×Int×Sm):=smR l r.1 r.2.1 r.2.2
theorem parseX_nn (l:List TokL) (p:Nat):(parseX l p).2.1=((parseX l p).2.1.toNat:Int)∧(parseX l p).2.1.toNat≤l.length:=by
 unfold parseX
 have hg:=goodX_S (goodX_pF l 9) p
 cases hx:xS l (pF l 9) p with
 | error e=>exact ⟨rfl,Nat.zero_le _⟩
 | ok r=>
  rw [hx] at hg
  have:=hg.le
  dsimp only
  split
  ·exact ⟨rfl,Nat.zero_le _⟩
  ·exact ⟨by dsimp only; omega,by dsimp only; omega⟩
section
variable {l:List TokL} (hl0:l.length≤1000000) (hl:∀ t∈l,t.2.2.1.length≤1000000)
include hl0 in
theorem j2_eq (n p:Nat) (e:Int) (s:Sm):Zbr.j2 n l p e s.k s.o s.a s.b s.c s.u s.e s.nm=some (smO l (rdE l p e s)):=by
 unfold Zbr.j2 rdE
 simp only [dt]
 by_cases h:e=0
 ·rw [if_pos h,if_pos h,parseX_eq l hl0 p,Option.bind_some]
  have:=(parseX_nn l p).1
  show some (l,(parseX l p).2.1,_)=some (l,((parseX l p).2.1.toNat:Int),_)
  rw [← this]
 ·rw [if_neg h,if_neg h]
include hl in
theorem reg1_eq (p:Nat) (hp:p≤9000000) (e:Int) (s:Sm) (d:Od) (f:Fn) (hd:(d=.A∧f=K.atA)∨(d=.B∧f=K.atB)∨(d=.C∧f=K.atC)):Zdf.g f l p e s.k s.o s.a s.b s.c s.u s.e s.nm=some (smO l (rd l p e s d)):=by
 unfold Zdf.g Zdf.f
 rw [take_eq 1 l p e hp,Option.bind_some]
 dsimp only
 rw [reg_eq _ (pk_len hl 1 p e),Option.bind_some]
 dsimp only
 rw [check_eq,Option.bind_some]
 dsimp only
 rcases hd with ⟨rfl,rfl⟩ | ⟨rfl,rfl⟩ | ⟨rfl,rfl⟩
 ·rw [if_pos rfl]; rfl
 ·rw [if_neg (by decide),if_pos rfl]; rfl
 ·rw [if_neg (by decide),if_neg (by decide),if_pos rfl]; rfl
include hl0 in
theorem num1_eq (p:Nat) (hp:p≤9000000) (e:Int) (s:Sm):Zbr.g [] l p e s.k s.o s.a s.b s.c s.u s.e s.nm=some (smO l (rd l p e s .E))∧Zbr.g [61] l p e s.k s.o s.a s.b s.c s.u s.e s.nm=some (smO l (rd l p e s .Q)):=by
 constructor
 ·unfold Zbr.g Zbr.f
  rw [if_neg (by decide)]
  exact j2_eq hl0 _ p e s
 ·unfold Zbr.g Zbr.f
  rw [if_pos (by decide),take_eq 3 l p e hp,Option.bind_some]
  dsimp only
  rw [check_eq,Option.bind_some]
  exact j2_eq hl0 _ (p+1) _ s
theorem nam1_eq (p:Nat) (hp:p≤9000000) (e:Int) (s:Sm):Zdw.g l p e s.k s.o s.a s.b s.c s.u s.e s.nm=some (smO l (rd l p e s .N)):=by
 unfold Zdw.g Zdw.f
 rw [take_eq 1 l p e hp,Option.bind_some]
 dsimp only
 rw [lename_eq,Option.bind_some]
 dsimp only
 rw [check_eq,Option.bind_some]
 rfl
def stepR (l:List TokL) (op:Int) (many i p:Nat) (e:Int) (s:Sm):Nat×Int×Sm:=
 let p1:=if 0 < i then p+1 else p
 let e1:=if 0 < i then chk (decide (pk 3 l p e=[44])) e else e
 let s1:=if i+1=many then { s with k:=chK l p1 e1 s } else s
 match (odL s1.k op)[i]? with
 | some d=>rd l p1 e1 s1 d
 | none=>(p1,e1,s1)
def loopR (l:List TokL) (op:Int) (many:Nat):Nat→Nat→Nat×Int×Sm→Nat×Int×Sm
 | 0,_,r=>r
 | m+1,i,r=>loopR l op many m (i+1) (stepR l op many i r.1 r.2.1 r.2.2)
abbrev PR:=Str×Int×Int×Int×Int×Int×Bool×List Item×Str×Int×Unit
def outR (lb:Str) (e:Int) (s:Sm):PR:=if e≠0 then ([],0,0,0,0,0,false,[],[],e,()) else (lb,s.k,s.o,s.a,s.b,s.c,s.u,s.e,s.nm,0,())
def finR (l:List TokL) (lb:Str) (r:Nat×Int×Sm):PR:=outR lb (chk (decide (l.length≤r.1)) r.2.1) r.2.2
theorem chK_len (p:Nat) (e:Int) (s:Sm) (op:Int):(odL (chK l p e s) op).length=(odL s.k op).length:=by
 unfold chK
 split
 ·rename_i h
  rw [h.1]
  unfold odL
  split <;> (first | contradiction | skip) <;> simp <;> split <;> rfl
 ·split
  ·rename_i h; rw [h.1]; rfl
  ·rfl
theorem rd_k (p:Nat) (e:Int) (s:Sm) (d:Od):(rd l p e s d).2.2.k=s.k:=by
 have h:∀ p e,(rdE l p e s).2.2.k=s.k:=fun p e=>by unfold rdE; split <;> rfl
 cases d <;> first | rfl | exact h _ _
theorem rd_p (p:Nat) (e:Int) (s:Sm) (d:Od):(rd l p e s d).1≤max (p+1) l.length:=by
 have h:∀ p e,(rdE l p e s).1≤max p l.length:=fun p e=>by
  unfold rdE
  have:=(parseX_nn l p).2
  split <;> dsimp only <;> omega
 cases d with
 | A=>show p+1≤_; omega
 | B=>show p+1≤_; omega
 | C=>show p+1≤_; omega
 | N=>show p+1≤_; omega
 | E=>have:=h p e; show (rdE l p e s).1≤_; omega
 | Q=>exact h (p+1) _
theorem step_k (op:Int) (many i p:Nat) (e:Int) (s:Sm):(odL (stepR l op many i p e s).2.2.k op).length=(odL s.k op).length:=by
 unfold stepR
 dsimp only
 split
 ·rw [rd_k]; split
  ·exact chK_len _ _ s op
  ·rfl
 ·dsimp only; split
  ·exact chK_len _ _ s op
  ·rfl
theorem step_p (op:Int) (many i p:Nat) (e:Int) (s:Sm):(stepR l op many i p e s).1≤max (p+2) l.length:=by
 unfold stepR
 dsimp only
 generalize hp1:(if 0 < i then p+1 else p)=p1
 have h1:p1≤p+1:=by rw [← hp1]; split <;> omega
 generalize (if 0 < i then chk (decide (pk 3 l p e=[44])) e else e)=e1
 split
 ·have:=rd_p (l:=l) p1 e1 (if i+1=many then { s with k:=chK l p1 e1 s } else s) ‹Od›
  omega
 ·dsimp only; omega
include hl0 hl in
theorem j19_eq (n:Nat) (rl) (lb:Str) (op:Int) (many i:Nat) (p:Nat) (hp:p≤9000000) (e:Int) (s:Sm) (d:Od) (hd:(odL s.k op)[i]?=some d) :
  Zab.j19 n rl l lb op (many:Int) (i:Int) (many:Int) (i:Int) s.k s.o s.a s.b s.c s.u s.e s.nm l p e =
   Zab.j20 n rl l lb op (many:Int) (many:Int) (i:Int) (rd l p e s d).2.2.k (rd l p e s d).2.2.o (rd l p e s d).2.2.a (rd l p e s d).2.2.b (rd l p e s d).2.2.c (rd l p e s d).2.2.u (rd l p e s d).2.2.e (rd l p e s d).2.2.nm l (rd l p e s d).1 (rd l p e s d).2.1:=by
 unfold Zab.j19
 have hi:i < (odL s.k op).length:=by
  rcases Nat.lt_or_ge i (odL s.k op).length with h | h
  ·exact h
  ·rw [List.getElem?_eq_none h] at hd; cases hd
 have hg:((odL s.k op).map odF).getD ((i:Int)).toNat (((0,[]):Fn),(((0,[]):Fn),()))=odF d:=by
  rw [Int.toNat_natCast,List.getD_eq_getElem?_getD,List.getElem?_map,hd]; rfl
 rw [opsR_eq,hg,if_pos (by rw [List.length_map]; omega)]
 cases d with
 | A=>
  show (if K.rdA=K.rdA then _ else _)=_
  rw [if_pos rfl,reg1_eq hl p hp e s .A _ (.inl ⟨rfl,rfl⟩),Option.bind_some]
 | B=>
  show (if K.rdB=K.rdA then _ else if K.rdB=K.rdB then _ else _)=_
  rw [if_neg (by decide),if_pos rfl,reg1_eq hl p hp e s .B _ (.inr (.inl ⟨rfl,rfl⟩)),Option.bind_some]
 | C=>
  show (if K.rdC=K.rdA then _ else if K.rdC=K.rdB then _ else if K.rdC=K.rdC then _ else _)=_
  rw [if_neg (by decide),if_neg (by decide),if_pos rfl,reg1_eq hl p hp e s .C _ (.inr (.inr ⟨rfl,rfl⟩)),Option.bind_some]
 | E=>
  show (if K.rdE=K.rdA then _ else if K.rdE=K.rdB then _ else if K.rdE=K.rdC then _ else if K.rdE=K.rdE then _ else _)=_
  rw [if_neg (by decide),if_neg (by decide),if_neg (by decide),if_pos rfl,(num1_eq hl0 p hp e s).1,Option.bind_some]
 | Q=>
  show (if K.rdQ=K.rdA then _ else if K.rdQ=K.rdB then _ else if K.rdQ=K.rdC then _ else if K.rdQ=K.rdE then _ else if K.rdQ=K.rdQ then _ else _)=_
  rw [if_neg (by decide),if_neg (by decide),if_neg (by decide),if_neg (by decide),if_pos rfl,(num1_eq hl0 p hp e s).2,Option.bind_some]
 | N=>
  show (if K.rdN=K.rdA then _ else if K.rdN=K.rdB then _ else if K.rdN=K.rdC then _ else if K.rdN=K.rdE then _ else if K.rdN=K.rdQ then _ else if K.rdN=K.rdN then _ else _)=_
  rw [if_neg (by decide),if_neg (by decide),if_neg (by decide),if_neg (by decide),if_neg (by decide),if_pos rfl,nam1_eq p hp e s,Option.bind_some]
include hl0 hl in
theorem parse_loop (n:Nat) (lb:Str) (op:Int) (many:Nat) (h3:many≤3):∀ (M m i:Nat) (p:Nat) (e:Int) (s:Sm),i+m=many→m < M→p≤8000000+10 * i→(odL s.k op).length=many →
  Zab.l13 n M l lb op (many:Int) (many:Int) (i:Int) s.k s.o s.a s.b s.c s.u s.e s.nm l p e=some (finR l lb (loopR l op many m i (p,e,s))):=by
 intro M
 induction M with
 | zero=>intro m i p e s _ h; omega
 | succ M ih=>
  intro m i p e s him hm hp hk
  rw [Zab.l13]
  simp only [dt]
  cases m with
  | zero=>
   rw [if_neg (by omega),check_eq,Option.bind_some]
   dsimp only [loopR]
   unfold Zab.j22 finR outR
   simp only [dt]
   have:decide ((l.length:Int)≤(p:Int))=decide (l.length≤p):=by
    rw [Bool.eq_iff_iff,decide_eq_true_eq,decide_eq_true_eq]; omega
   rw [this]
   split <;> rfl
  | succ m=>
   rw [if_pos (by omega)]
   dsimp only [loopR]
   have hsk:=step_k (l:=l) op many i p e s
   have hsp:=step_p (l:=l) op many i p e s
   have nxt:=fun h=>ih m (i+1) (stepR l op many i p e s).1 (stepR l op many i p e s).2.1 (stepR l op many i p e s).2.2 (by omega) (by omega) (by omega) h
   rw [hsk] at nxt
   have nxt:=nxt hk
   have J:∀ (p1:Nat) (e1:Int),p1≤9000000→p1=(if 0 < i then p+1 else p)→e1=(if 0 < i then chk (decide (pk 3 l p e=[44])) e else e) →
     Zab.j17 n (Zab.l13 n M) l lb op (many:Int) (i:Int) (many:Int) (i:Int) s.k s.o s.a s.b s.c s.u s.e s.nm l p1 e1=some (finR l lb (loopR l op many m (i+1) (stepR l op many i p e s))):=by
    intro p1 e1 hp1 hp1' he1'
    have fin:∀ s1:Sm,s1=(if i+1=many then { s with k:=chK l p1 e1 s } else s)→Zab.j19 n (Zab.l13 n M) l lb op (many:Int) (i:Int) (many:Int) (i:Int) s1.k s1.o s1.a s1.b s1.c s1.u s1.e s1.nm l p1 e1=some (finR l lb (loopR l op many m (i+1) (stepR l op many i p e s))):=by
     intro s1 hs1
     have hlen:(odL s1.k op).length=many:=by
      rw [hs1]
      split
      ·rw [← hk]; exact chK_len _ _ s op
      ·exact hk
     obtain ⟨d,hd⟩:∃ d,(odL s1.k op)[i]?=some d:=⟨_,List.getElem?_eq_getElem (by omega)⟩
     have hst:stepR l op many i p e s=rd l p1 e1 s1 d:=by
      unfold stepR
      dsimp only
      rw [← hp1',← he1',← hs1,hd]
     rw [j19_eq hl0 hl n _ lb op many i p1 hp1 e1 s1 d hd,← hst]
     unfold Zab.j20
     rw [w64 (by omega),show (i:Int)+1=((i+1:Nat):Int) by omega]
     exact nxt
    unfold Zab.j17
    simp only [dt]
    have hw:IntKind.i64.wrap ((many:Int) - 1)=(many:Int) - 1:=w64 (by omega)
    rw [hw]
    by_cases hlast:i+1=many
    ·rw [if_pos (by omega),choose_eq hl p1 e1 s,Option.bind_some]
     exact fin { s with k:=chK l p1 e1 s } (by rw [if_pos hlast])
    ·rw [if_neg (by omega)]
     exact fin s (by rw [if_neg hlast])
   by_cases h0:0 < i
   ·rw [if_pos (by omega),take_eq 3 l p e (by omega),Option.bind_some]
    dsimp only
    rw [check_eq,Option.bind_some]
    exact J (p+1) _ (by omega) (by rw [if_pos h0]) (by rw [if_pos h0])
   ·rw [if_neg (by omega)]
    exact J p e (by omega) (by rw [if_neg h0]) (by rw [if_neg h0])
def headR (l:List TokL) (lb:Str) (p:Nat) (e:Int):PR:=
 if e=0∧p < l.length then
  let t:=l.getD p dTok
  let w:=L.ofR t.2.2.1
  let ok:=w.2.2.2.1 && (decide (t.1=4) == decide (w.1=9∨w.1=10)) && (decide (t.1=4) || decide (t.1=1))
  finR l lb (loopR l w.2.1 (odL w.1 w.2.1).length (odL w.1 w.2.1).length 0 (p+1,chk ok e,⟨w.1,w.2.1,0,0,0,w.2.2.1,[],[]⟩))
 else outR lb e ⟨0,0,0,0,0,false,[],[]⟩
def parseS (l:List TokL):PR:=
 if 1 < l.length∧(l.getD 0 dTok).1=1∧isSg l 1 58=true then headR l (l.getD 0 dTok).2.2.1 2 (chk (labelOk (l.getD 0 dTok).2.2.1) 0) else headR l [] 0 0
include hl0 hl in
theorem head_ok (n:Nat) (hn:10≤n) (lb:Str) (p:Nat) (hp:p≤2) (e:Int):Zab.j5 n l lb 0 0 0 0 0 false [] [] l p e=some (headR l lb p e):=by
 unfold Zab.j5 headR
 simp only [dt]
 by_cases he:e=0
 ·rw [if_pos he]
  by_cases hp':p < l.length
  ·rw [if_pos (by omega),if_pos (by omega),if_pos ⟨he,hp'⟩,Int.toNat_natCast]
   unfold L.nameOfO
   rw [Option.bind_some]
   generalize l.getD p dTok=t
   generalize L.ofR t.2.2.1=w
   have J9:∀ ok:Bool,Zab.j9 n l lb w.1 w.2.1 w.2.2.1 0 0 0 0 0 false [] [] l (p:Int) (chk ok e)=some (finR l lb (loopR l w.2.1 (odL w.1 w.2.1).length (odL w.1 w.2.1).length 0 (p+1,chk ok e,⟨w.1,w.2.1,0,0,0,w.2.2.1,[],[]⟩))):=fun ok=>by
    unfold Zab.j9
    have hlen:((L.opsR w.1 w.2.1).length:Int)=((odL w.1 w.2.1).length:Int):=by rw [opsR_eq,List.length_map]
    rw [hlen,w64 (by omega)]
    have h3:=odL_len w.1 w.2.1
    exact parse_loop hl0 hl n lb w.2.1 (odL w.1 w.2.1).length h3 n (odL w.1 w.2.1).length 0 (p+1) (chk ok e) ⟨w.1,w.2.1,0,0,0,w.2.2.1,[],[]⟩ (by omega) (by omega) (by omega) rfl
   cases hok:w.2.2.2.1 with
   | false=>
    rw [if_neg (by decide),check_eq,Option.bind_some]
    exact J9 false
   | true=>
    rw [if_pos rfl,dotted_eq,Option.bind_some]
    dsimp only
    cases hq:(decide (t.1=4) == decide (w.1=9∨w.1=10)) with
    | false=>
     rw [if_neg (by decide),check_eq,Option.bind_some]
     exact J9 false
    | true=>
     rw [if_pos rfl]
     by_cases h4:t.1=4
     ·rw [if_neg (by simp [h4]),check_eq,Option.bind_some,decide_eq_true h4]
      exact J9 true
     ·rw [if_pos (by simp [h4]),check_eq,Option.bind_some,decide_eq_false h4]
      exact J9 _
  ·rw [if_neg (by omega),if_neg (fun g=>hp' g.2)]
   unfold Zab.j22 outR
   simp only [dt]
   split <;> rfl
 ·rw [if_neg he,if_neg (fun g=>he g.1)]
  unfold Zab.j22 outR
  simp only [dt]
  split <;> rfl
include hl0 hl in
theorem parse_eq':Zab.g l=some (parseS l):=by
 unfold Zab.g
 have hn:10≤1000+l.length:=by omega
 generalize 1000+l.length=n at hn
 unfold Zab.f parseS
 have H:=head_ok hl0 hl n hn
 have H0:=H [] 0 (by decide) 0
 rw [show ((0:Nat):Int)=0 from rfl] at H0
 simp only [dt]
 have t0:((0:Int)).toNat=0:=rfl
 have t1:((1:Int)).toNat=1:=rfl
 rw [t0,t1]
 by_cases h1:1 < l.length
 ·rw [if_pos (by omega),if_pos (by omega)]
  by_cases k0:(l.getD 0 dTok).1=1
  ·rw [if_pos k0,if_pos (by omega)]
   by_cases k1:(l.getD 1 dTok).1=3
   ·rw [if_pos k1,if_pos (by omega)]
    by_cases k2:(l.getD 1 dTok).2.2.1=[58]
    ·rw [if_pos k2,if_pos (by omega),label_eq,Option.bind_some]
     dsimp only
     rw [check_eq,Option.bind_some,if_pos ⟨h1,k0,isSg_iff.2 ⟨h1,k1,k2⟩⟩]
     exact H _ 2 (by decide) _
    ·rw [if_neg k2,if_neg (fun g=>k2 (isSg_iff.1 g.2.2).2.2)]; exact H0
   ·rw [if_neg k1,if_neg (fun g=>k1 (isSg_iff.1 g.2.2).2.1)]; exact H0
  ·rw [if_neg k0,if_neg (fun g=>k0 g.2.1)]; exact H0
 ·rw [if_neg (by omega),if_neg (fun g=>h1 g.1)]; exact H0
end
end Rv
namespace Rv
open Go
theorem chK_self {l:List TokL} {p:Nat} {e:Int} {s:Sm} (h1:s.k≠1) (h7:s.k≠7):chK l p e s=s.k:=by
 unfold chK
 rw [if_neg (fun g=>h1 g.1),if_neg (fun g=>h7 g.1)]
end Rv
namespace Rv
open Go
def noP (e:Int):PR:=([],0,0,0,0,0,false,[],[],e,())
theorem chk_stick {b:Bool} {e:Int} (h:e≠0):chk b e=e:=by unfold chk; rw [if_neg (fun g=>h g.2)]
theorem rd_stick {l:List TokL} {p:Nat} {e:Int} {s:Sm} (h:e≠0) (d:Od):(rd l p e s d).2.1=e:=by
 have hE:∀ p,(rdE l p e s).2.1=e:=fun p=>by unfold rdE; rw [if_neg h]
 cases d with
 | E=>exact hE p
 | Q=>
  show (rdE l (p+1) (chk (decide (pk 3 l p e=[61])) e) s).2.1=e
  rw [chk_stick h]; exact hE _
 | _=>exact chk_stick h
theorem step_stick {l:List TokL} {op:Int} {many i p:Nat} {e:Int} {s:Sm} (h:e≠0):(stepR l op many i p e s).2.1=e:=by
 unfold stepR
 dsimp only
 have:(if 0 < i then chk (decide (pk 3 l p e=[44])) e else e)=e:=by
  split
  ·exact chk_stick h
  ·rfl
 rw [this]
 split
 ·exact rd_stick h _
 ·rfl
theorem loop_stick {l:List TokL} {op:Int} {many:Nat} {e:Int} (h:e≠0):∀ (m i:Nat) (r:Nat×Int×Sm),r.2.1=e→(loopR l op many m i r).2.1=e
 | 0,_,_,hr=>hr
 | m+1,i,r,hr=>loop_stick h m (i+1) _ (by rw [hr]; exact step_stick h)
theorem fin_stick {l:List TokL} {lb:Str} {r:Nat×Int×Sm} {e:Int} (h:e≠0) (hr:r.2.1=e):finR l lb r=noP e:=by
 unfold finR outR
 rw [hr,chk_stick h,if_pos h]; rfl
end Rv
namespace Rv
open Go
theorem same_refl (s:Sm) (he:s.e.length≤1000):Zec.g s.k s.o s.a s.b s.c s.u s.e s.nm s.k s.o s.a s.b s.c s.u s.e s.nm=some (true,()):=by
 unfold Zec.g
 generalize 1000+_+_+_+_+_+_+_+_+_+_+_+_+_+_=n
 unfold Zec.f Zcn.g Zcn.f
 rw [Option.bind_some,Option.bind_some,sameE_refl s.e he,if_pos (by simp),Option.bind_some,if_pos rfl]
 simp
end Rv
namespace Rv
open Go
def linesR:Str→List Str
 | []=>[]
 | b::s=>if b=10 then []::linesR s else match linesR s with
  | []=>[[b]]
  | l::r=>(b::l)::r
theorem split_ne (c:UInt8):∀ s,L.splitR c s≠[]
 | []=>by simp [L.splitR]
 | b::s=>by
  rw [L.splitR]
  split
  ·simp
  ·split <;> simp
def trimR (l:List Str):List Str:=if l.getD (l.length - 1) []=[] then l.take (l.length - 1) else l
theorem trim_cons (x:Str) {l:List Str} (h:l≠[]):trimR (x::l)=x::trimR l:=by
 obtain ⟨y,r,rfl⟩:=List.exists_cons_of_ne_nil h
 unfold trimR
 have e:(x::y::r).getD ((x::y::r).length - 1) []=(y::r).getD ((y::r).length - 1) []:=rfl
 rw [e]
 split
 ·rfl
 ·rfl
theorem lines_split:∀ s:Str,trimR (L.splitR 10 s)=linesR s
 | []=>rfl
 | b::s=>by
  have ih:=lines_split s
  have hne:=split_ne 10 s
  rw [L.splitR,linesR]
  by_cases h:b=10
  ·rw [if_pos h,if_pos h,trim_cons _ hne,ih]
  ·rw [if_neg h,if_neg h,← ih]
   obtain ⟨y,r,hs⟩:=List.exists_cons_of_ne_nil hne
   rw [hs]
   dsimp only
   cases r with
   | nil=>
    have h1:trimR [b::y]=[b::y]:=by unfold trimR; rw [if_neg (by simp)]
    rw [h1]
    unfold trimR
    cases y with
    | nil=>rfl
    | cons c t=>rw [if_neg (by simp)]
   | cons z r=>
    rw [trim_cons (b::y) (l:=z::r) (by simp),trim_cons y (l:=z::r) (by simp)]
theorem lines_le:∀ s:Str,(linesR s).length≤s.length∧∀ l∈linesR s,l.length≤s.length
 | []=>⟨Nat.le_refl _,fun l h=>by cases h⟩
 | b::s=>by
  obtain ⟨h1,h2⟩:=lines_le s
  rw [linesR]
  split
  ·refine ⟨by simp; omega,fun l hl=>?_⟩
   rcases List.mem_cons.1 hl with rfl | hl
   ·simp
   ·have:=h2 l hl; simp; omega
  ·split
   ·refine ⟨by simp,fun l hl=>?_⟩
    rw [List.mem_singleton] at hl; subst hl; simp
   ·rename_i x r hx
    rw [hx] at h1 h2
    refine ⟨by simp at h1 ⊢; omega,fun l hl=>?_⟩
    rcases List.mem_cons.1 hl with rfl | hl
    ·have:=h2 x (List.mem_cons_self ..); simp; omega
    ·have:=h2 l (List.mem_cons_of_mem _ hl); simp; omega
theorem lineR_text:∀ (n:Nat) (k:Int) (s:Str) (l:List Tok),s.length≤n→lineR k s=.ok l→∀ t∈l,t.2.2.1.length≤s.length
 | _,k,[],l,_,h=>by rw [lineR_nil] at h; cases h; intro t ht; cases ht
 | 0,k,c::r,l,hn,_=>by simp at hn
 | n+1,k,c::r,l,hn,h=>by
  simp only [List.length_cons] at hn ⊢
  rw [lineR_cons] at h
  split at h
  ·cases h; intro t ht; cases ht
  ·split at h
   ·intro t ht
    have:=lineR_text n (k+1) r l (by omega) h t ht; omega
   ·split at h
    ·cases h
    ·rename_i d q tx v hT
     obtain ⟨h1,h2,_⟩:=tokAt_ok hT
     split at h
     ·cases h
     ·rename_i l' hl
      cases h
      intro t ht
      rcases List.mem_cons.1 ht with rfl | ht
      ·simp only; omega
      ·have:=lineR_text n _ _ l' (by simp; omega) hl t ht
       simp at this; omega
def oneR (s:Str):PR:=let y:=lineOut [] (lineR 0 s); if y.2.1≠0 then noP y.2.1 else parseS y.1
abbrev errP (p:PR):Int:=p.2.2.2.2.2.2.2.2.2.1
abbrev lnP (p:PR):Ln:=(p.1,(p.2.1,p.2.2.1,p.2.2.2.1,p.2.2.2.2.1,p.2.2.2.2.2.1,p.2.2.2.2.2.2.1,p.2.2.2.2.2.2.2.1,p.2.2.2.2.2.2.2.2.1,()),())
theorem toks_small {k:Int} {s:Str} (hs:s.length≤1000000):(lineOut [] (lineR k s)).1.length≤1000000:=Nat.le_trans lineOut_len hs
theorem one_parse (s:Str) (hs:s.length≤1000000):Zab.g (lineOut [] (lineR 0 s)).1=some (parseS (lineOut [] (lineR 0 s)).1):=by
 refine parse_eq' (toks_small hs) fun t ht=>?_
 have h:∀ t∈(lineOut [] (lineR 0 s)).1,t.2.2.1.length≤s.length:=by
  cases h:lineR 0 s with
  | error e=>intro t ht; cases ht
  | ok l=>
   intro t ht
   have ht:t∈l:=by simpa [lineOut] using ht
   exact lineR_text s.length 0 s l (Nat.le_refl _) h t ht
 exact Nat.le_trans (h t ht) hs
theorem one_eq (s:Str) (hs:s.length≤1000000):Zed.g s=some (oneR s):=by
 unfold Zed.g Zed.f oneR
 rw [line_eq s hs,Option.bind_some]
 generalize hy:lineOut [] (lineR 0 s)=y
 have hp:=one_parse s hs
 rw [hy] at hp
 by_cases h:y.2.1≠0
 ·rw [if_pos (by simpa using h)]
  show _=some (if _ then _ else _)
  rw [if_pos h]; rfl
 ·rw [if_neg (by simpa using h),hp,Option.bind_some]
  show _=some (if _ then _ else _)
  rw [if_neg h]
def eachR:Nat→List Str→Except (Nat×Int) (List Ln)
 | _,[]=>.ok []
 | i,s::r=>if errP (oneR s)≠0 then .error (i+1,errP (oneR s)) else match eachR (i+1) r with
  | .error x=>.error x
  | .ok l=>.ok (lnP (oneR s)::l)
def outE (out:List Ln):Except (Nat×Int) (List Ln)→List Ln×Int×Int×Unit
 | .ok l=>(out++l,0,0,())
 | .error x=>([],(x.1:Int),x.2,())
theorem each_loop (l:List Str) (hl:l.length≤1000000) (hs:∀ s∈l,s.length≤1000000) (n:Nat):∀ (m i:Nat) (out:List Ln),i≤l.length→l.length - i < m→out.length=i →
  Zcp.l5 n m out l (l.length:Int) (i:Int)=some (outE out (eachR i (l.drop i))):=by
 intro m
 induction m with
 | zero=>intro i out _ h; omega
 | succ m ih=>
  intro i out hi hm ho
  rw [Zcp.l5]
  simp only [dt,Int.toNat_natCast]
  by_cases h:i < l.length
  ·have hd:l.drop i=l.getD i []::l.drop (i+1):=by
    rw [List.drop_eq_getElem_cons h,List.getD_eq_getElem?_getD,List.getElem?_eq_getElem h]; rfl
   have hg:l.getD i []∈l:=by rw [List.getD_eq_getElem?_getD,List.getElem?_eq_getElem h]; exact List.getElem_mem h
   have W1:IntKind.i64.wrap ((i:Int)+1)=((i+1:Nat):Int):=by rw [w64 (by omega)]; omega
   rw [if_pos (by omega),if_pos (by omega),one_eq _ (hs _ hg),Option.bind_some,hd,eachR,W1]
   by_cases he:errP (oneR (l.getD i []))≠0
   ·rw [if_pos he,if_pos he]; rfl
   ·rw [if_neg he,if_neg he,if_pos (by simp; omega),ih (i+1) _ (by omega) (by omega) (by simp [ho])]
    cases eachR (i+1) (l.drop (i+1)) with
    | error x=>rfl
    | ok r=>show some (_++r,_)=some (_++_,_); rw [List.append_assoc]; rfl
  ·obtain rfl:i=l.length:=by omega
   rw [if_neg (by omega),List.drop_length,eachR]
   simp [outE]
def parseT (s:Str):List Ln×Int×Int×Unit:=
 if 262144 < s.length then ([],0,2,()) else if 4096 < (linesR s).length then ([],0,2,()) else outE [] (eachR 0 (linesR s))
theorem eachs_eq (l:List Str) (hl:l.length≤1000000) (hs:∀ s∈l,s.length≤1000000):Zcp.g l=some (if 4096 < l.length then ([],0,2,()) else outE [] (eachR 0 l)):=by
 unfold Zcp.g Zcp.f
 by_cases h:4096 < l.length
 ·rw [if_pos (by simp; omega),if_pos h]
 ·rw [if_neg (by simp; omega),if_neg h]
  have:=each_loop l hl hs (1000+l.length) (1000+l.length) 0 [] (by omega) (by omega) rfl
  rw [List.drop_zero] at this
  exact this
theorem split_len:∀ s:Str,(L.splitR 10 s).length≤s.length+1
 | []=>Nat.le_refl _
 | b::s=>by
  have:=split_len s
  rw [L.splitR]
  split
  ·simp; omega
  ·split
   ·simp
   ·rename_i x r hx; rw [hx] at this; simp at this ⊢; omega
theorem parseT_eq (s:Str) (hs:s.length≤1000000):Zbx.g s=some (parseT s):=by
 unfold Zbx.g Zbx.f parseT
 by_cases h:262144 < s.length
 ·rw [if_pos (by simp; omega),if_pos h]
 ·rw [if_neg (by simp; omega),if_neg h]
  have hO:L.splitO s [10]=some (L.splitR 10 s,()):=by unfold L.splitO; dsimp only; rw [if_pos (by omega)]
  have h1:=split_len s
  have h2:=List.length_pos_iff.2 (split_ne 10 s)
  have ht:=lines_split s
  obtain ⟨g1,g2⟩:=lines_le s
  rw [hO,Option.bind_some]
  dsimp only
  generalize L.splitR 10 s=S at h1 h2 ht
  have W:IntKind.i64.wrap ((S.length:Int) - 1)=((S.length - 1:Nat):Int):=by rw [w64 (by omega)]; omega
  have fin:Zbx.j7 (1000+s.length) (trimR S)=some (if 4096 < (linesR s).length then ([],0,2,()) else outE [] (eachR 0 (linesR s))):=by
   rw [ht]
   unfold Zbx.j7
   rw [eachs_eq _ (by omega) (fun l hl=>by have:=g2 l hl; omega),Option.bind_some]
  simp only [dt]
  rw [W,Int.toNat_natCast,if_pos (by omega)]
  unfold trimR at fin
  by_cases he:S.getD (S.length - 1) []=[]
  ·rw [if_pos he] at fin
   rw [if_pos he,if_pos (by omega),List.drop_zero]
   exact fin
  ·rw [if_neg he] at fin
   rw [if_neg he]
   exact fin
theorem each_len:∀ (l:List Str) (i:Nat) (r:List Ln),eachR i l=.ok r→r.length=l.length
 | [],i,r,h=>by rw [eachR] at h; cases h; rfl
 | s::l,i,r,h=>by
  rw [eachR] at h
  split at h
  ·cases h
  ·cases hr:eachR (i+1) l with
   | error x=>rw [hr] at h; cases h
   | ok q=>rw [hr] at h; cases h; simp [each_len l (i+1) q hr]
theorem rdE_len {l:List TokL} {p:Nat} {e:Int} {s:Sm} (h:s.e.length≤64):(rdE l p e s).2.2.e.length≤64:=by
 unfold rdE
 split
 ·unfold parseX
  split
  ·simp
  ·split
   ·simp
   ·rename_i hl; dsimp only; omega
 ·exact h
theorem rd_len {l:List TokL} {p:Nat} {e:Int} {s:Sm} (h:s.e.length≤64) (d:Od):(rd l p e s d).2.2.e.length≤64:=by
 cases d with
 | E=>exact rdE_len h
 | Q=>exact rdE_len h
 | _=>exact h
theorem step_len {l:List TokL} {op:Int} {many i p:Nat} {e:Int} {s:Sm} (h:s.e.length≤64):(stepR l op many i p e s).2.2.e.length≤64:=by
 unfold stepR
 dsimp only
 generalize hs1:(if i+1=many then _ else s:Sm)=s1
 have h1:s1.e.length≤64:=by
  rw [← hs1]
  split <;> exact h
 split
 ·exact rd_len h1 _
 ·exact h1
theorem loop_len {l:List TokL} {op:Int} {many:Nat}:∀ (m i:Nat) (r:Nat×Int×Sm),r.2.2.e.length≤64→(loopR l op many m i r).2.2.e.length≤64
 | 0,_,_,h=>h
 | m+1,i,r,h=>loop_len m (i+1) _ (step_len h)
theorem out_len {lb:Str} {e:Int} {s:Sm} (h:s.e.length≤64):(outR lb e s).2.2.2.2.2.2.2.1.length≤64:=by
 unfold outR
 split
 ·simp
 ·exact h
theorem head_len {l:List TokL} {lb:Str} {p:Nat} {e:Int}:(headR l lb p e).2.2.2.2.2.2.2.1.length≤64:=by
 unfold headR
 split
 ·exact out_len (loop_len _ _ _ (by simp))
 ·exact out_len (by simp)
theorem parseS_len (l:List TokL):(parseS l).2.2.2.2.2.2.2.1.length≤64:=by unfold parseS; split <;> exact head_len
theorem oneR_len (s:Str):(oneR s).2.2.2.2.2.2.2.1.length≤64:=by
 unfold oneR
 dsimp only
 split
 ·simp [noP]
 ·exact parseS_len _
def shortL (x:Ln):Prop:=x.2.1.2.2.2.2.2.2.1.length≤64
theorem each_short:∀ (l:List Str) (i:Nat) (r:List Ln),eachR i l=.ok r→∀ x∈r,shortL x
 | [],i,r,h=>by rw [eachR] at h; cases h; intro x hx; cases hx
 | s::l,i,r,h=>by
  rw [eachR] at h
  split at h
  ·cases h
  ·cases hr:eachR (i+1) l with
   | error x=>rw [hr] at h; cases h
   | ok q=>
    rw [hr] at h; cases h
    intro x hx
    rcases List.mem_cons.1 hx with rfl | hx
    ·exact oneR_len s
    ·exact each_short l (i+1) q hr x hx
theorem same18_refl (a:List Ln) (ha:a.length≤1000000) (h:∀ x∈a,shortL x):Zch.g a a=some (true,()):=by
 have loop:∀ (n m i:Nat),i≤a.length→a.length - i < m→Zch.l4 n m a a (i:Int)=some (true,()):=by
  intro n m
  induction m with
  | zero=>intro i _ h; omega
  | succ m ih=>
   intro i hi hm
   rw [Zch.l4]
   simp only [dt,df,Int.toNat_natCast]
   by_cases hlt:i < a.length
   ·have hx:shortL (a.getD i zL):=by
     refine h _ ?_
     rw [List.getD_eq_getElem?_getD,List.getElem?_eq_getElem hlt]; exact List.getElem_mem hlt
    generalize a.getD i zL=x at hx
    have hs:=same_refl ⟨x.2.1.1,x.2.1.2.1,x.2.1.2.2.1,x.2.1.2.2.2.1,x.2.1.2.2.2.2.1,x.2.1.2.2.2.2.2.1,x.2.1.2.2.2.2.2.2.1,x.2.1.2.2.2.2.2.2.2.1⟩ (by have:x.2.1.2.2.2.2.2.2.1.length≤64:=hx; dsimp only; omega)
    dsimp only at hs
    rw [if_pos (by omega),if_pos (by omega),if_pos (by omega),hs,Option.bind_some,if_pos (by decide),if_pos (by omega),if_pos (by omega),if_neg (by simp),w64 (by omega)]
    exact ih (i+1) (by omega) (by omega)
   ·rw [if_neg (by omega)]
 unfold Zch.g Zch.f
 rw [if_neg (by simp)]
 exact loop _ _ 0 (by omega) (by omega)
end Rv
namespace Rv
open Go
theorem shown18:Zem.g=some (true,()):=by decide +kernel
theorem few18 (s:Str) (hs:s.length≤9223372036854775807):Zdp.g s=some (s.take 500,()):=by
 unfold Zdp.g Zdp.f
 have hmn:mn (s.length:Int) 500=((min s.length 500:Nat):Int):=by unfold mn; split <;> omega
 rw [hmn,if_pos (by omega),Int.toNat_natCast,List.drop_zero]
 rcases Nat.le_total s.length 500 with h | h
 ·rw [Nat.min_eq_left h,List.take_length,List.take_of_length_le h]
 ·rw [Nat.min_eq_right h]
theorem parseT_small {s:Str} (hs:s.length≤4096):parseT s=outE [] (eachR 0 (linesR s)):=by
 unfold parseT
 have:=(lines_le s).1
 rw [if_neg (by omega),if_neg (by omega)]
end Rv
namespace Rv
open Go
theorem i0_rg {k o a b c:Int} {u:Bool} (h:GoodI0 k o a b c u):rg a∧rg b∧rg c:=by
 have z:rg 0:=⟨by decide,by decide⟩
 cases h <;> refine ⟨?_,?_,?_⟩ <;> assumption
theorem isa_only {k o a b c:Int} {u:Bool} (h:Zbd.g k o a b c 0 u=some (true,())):GoodI0 k o a b c u:=by
 unfold Zbd.g at h
 generalize 1000+k.toNat+o.toNat+a.toNat+b.toNat+c.toNat+(0:Int).toNat=n at h
 unfold Zbd.f at h
 rw [between_eq,Option.bind_some] at h
 dsimp only at h
 by_cases hk:1≤k∧k≤7
 case neg=>rw [if_neg (by simp; omega)] at h; cases h
 rw [if_pos (by simp [hk]),between_eq,Option.bind_some] at h
 dsimp only at h
 by_cases ho:0≤o∧o≤15
 case neg=>rw [if_neg (by simp; omega)] at h; cases h
 rw [if_pos (by simp [ho]),iword_eq,Option.bind_some] at h
 dsimp only at h
 rw [iread_eq,Option.bind_some] at h
 generalize hW:wordV k o a b c 0 u=W at h
 have g4:∀ p,rg (Gn W p 4):=fun p=>gn_range W p (n:=4) (by decide)
 have g1:∀ p,0≤Gn W p 1∧Gn W p 1 < 2:=fun p=>gn_range W p (n:=1) (by decide)
 split at h
 ·cases h
 ·rename_i he
  simp only [Bool.not_eq_true',Bool.not_eq_false,Bool.and_eq_true,decide_eq_true_eq,beq_iff_eq,and_true] at he
  obtain ⟨e1,e2,e3,e4,e5,e6,e7⟩:=he
  simp only [dt,df,Zbd.j10,between_eq,Option.bind_some] at h
  unfold readT at e1 e2 e3 e4 e5 e6 e7
  split at e1
  ·rename_i f0
   rw [if_pos f0] at e2 e3 e4 e5 e6 e7
   split at e1
   ·rename_i f1
    rw [if_pos f1] at e2 e3 e4 e5 e6 e7
    dsimp only at e1 e2 e3 e4 e5 e6 e7
    have:=g1 28
    subst e2 e4 e5 e7
    have hk3:k=3∨k=4:=by omega
    rcases hk3 with rfl | rfl
    ·exact .hi (e3 ▸ g4 _)
    ·exact .fl (e3 ▸ g4 _)
   ·rename_i f1
    rw [if_neg f1] at e2 e3 e4 e5 e6 e7
    dsimp only at e1 e2 e3 e4 e5 e6 e7
    subst e1
    rw [if_pos rfl,if_pos rfl] at h
    by_cases ho0:o=0
    ·subst ho0
     rw [if_pos rfl] at h
     by_cases hb0:b=0
     ·subst hb0
      rw [if_pos rfl,if_pos (by decide)] at h
      cases u with
      | false=>exact .mov (e3 ▸ g4 _) (e5 ▸ g4 _)
      | true=>rw [if_neg (by decide)] at h; cases h
     ·rw [if_neg hb0] at h; cases h
    ·rw [if_neg ho0] at h
     by_cases h11:11 < o
     ·rw [if_pos h11] at h; cases h
     ·rw [if_neg h11] at h
      refine .reg (by omega) (by omega) (e3 ▸ g4 _) (e4 ▸ g4 _) (e5 ▸ g4 _) fun hu=>?_
      subst hu
      simp at h
      exact h
  ·rename_i f0
   rw [if_neg f0] at e2 e3 e4 e5 e6 e7
   split at e1
   ·rename_i f1
    rw [if_pos f1] at e2 e3 e4 e5 e6 e7
    dsimp only at e1 e2 e3 e4 e5 e6 e7
    subst e1 e5
    rw [if_neg (by decide),if_pos rfl] at h
    by_cases ho0:o=0
    ·subst ho0
     rw [if_pos rfl] at h
     by_cases hb0:b=0
     ·subst hb0; exact .movi (e3 ▸ g4 _)
     ·rw [if_neg hb0] at h; cases h
    ·rw [if_neg ho0] at h
     by_cases h11:11 < o
     ·rw [if_pos h11] at h; cases h
     ·rw [if_neg h11] at h
      refine .imm (by omega) (by omega) (e3 ▸ g4 _) (e4 ▸ g4 _) fun hu=>?_
      subst hu
      simp at h
      exact h
   ·rename_i f1
    rw [if_neg f1] at e2 e3 e4 e5 e6 e7
    split at e1
    ·rename_i f2
     rw [if_pos f2] at e2 e3 e4 e5 e6 e7
     dsimp only at e1 e2 e3 e4 e5 e6 e7
     have q1:=g1 29
     have q2:=g1 28
     subst e1 e5 e7
     exact .mem (by omega) (by omega) (e3 ▸ g4 _) (e4 ▸ g4 _)
    ·rename_i f2
     rw [if_neg f2] at e2 e3 e4 e5 e6 e7
     split at e1
     ·rename_i f3
      rw [if_pos f3] at e2 e3 e4 e5 e6 e7
      dsimp only at e1 e2 e3 e4 e5 e6 e7
      subst e1 e3 e4 e5
      exact .jmp (e2 ▸ g4 _)
     ·rename_i f3
      rw [if_neg f3] at e2 e3 e4 e5 e6 e7
      dsimp only at e1 e2 e3 e4 e5 e6 e7
      subst e1 e3 e4
      exact .br (e2 ▸ g4 _) (e5 ▸ g4 _)
theorem isa_iff (k o a b c:Int) (u:Bool):∃ r,Zbd.g k o a b c 0 u=some (r,())∧(r=true↔GoodI0 k o a b c u):=by
 obtain ⟨r,hr,_⟩:=isa_total k o a b c 0 u
 refine ⟨r,hr,fun h=>isa_only (by rw [hr,h]),fun h=>?_⟩
 have:=isa_good h
 rw [hr] at this
 exact (Prod.mk.inj (Option.some.inj this)).1
theorem r3reg_eq (x:Int):Zco.g x=some (decide (0≤x∧x < 16),()):=by
 unfold Zco.g Zco.f
 by_cases h:0≤x
 ·rw [if_pos (by simpa using h)]
  congr 2
  rw [Bool.eq_iff_iff,decide_eq_true_eq,decide_eq_true_eq]; omega
 ·rw [if_neg (by simpa using h),decide_eq_false (by omega)]
theorem fits_zero (n:Int) (h:n=20∨n=24):Zej.g 0 n=some (true,()):=by rcases h with rfl | rfl <;> decide +kernel
def I0P (k o a b c:Int) (u:Bool):Prop:=
 (k=1∧0 < o∧o < 12∧(u=true→8≤o∧o≤10))∨(k=1∧o=0∧b=0∧u=false)∨(k=2∧0 < o∧o < 12∧c=0∧(u=true→8≤o∧o≤10))∨(k=2∧o=0∧b=0∧c=0) ∨
 (k=3∧o=0∧b=0∧c=0∧u=false)∨(k=4∧o=0∧b=0∧c=0∧u=false)∨(k=5∧0≤o∧o < 4∧c=0∧u=false)∨(k=6∧0≤o∧o < 16∧a=0∧b=0)∨(k=7∧0≤o∧o < 16∧a=0∧b=0∧c=0)
instance (k o a b c:Int) (u:Bool):Decidable (I0P k o a b c u):=by unfold I0P; infer_instance
theorem i0P_iff {k o a b c:Int} {u:Bool} (ha:rg a) (hb:rg b) (hc:rg c):GoodI0 k o a b c u↔I0P k o a b c u:=by
 constructor
 ·intro h
  unfold I0P
  cases h with
  | reg h1 h2 _ _ _ h3=>exact .inl ⟨rfl,h1,h2,h3⟩
  | mov _ _=>exact .inr (.inl ⟨rfl,rfl,rfl,rfl⟩)
  | imm h1 h2 _ _ h3=>exact .inr (.inr (.inl ⟨rfl,h1,h2,rfl,h3⟩))
  | movi _=>exact .inr (.inr (.inr (.inl ⟨rfl,rfl,rfl,rfl⟩)))
  | hi _=>exact .inr (.inr (.inr (.inr (.inl ⟨rfl,rfl,rfl,rfl,rfl⟩))))
  | fl _=>exact .inr (.inr (.inr (.inr (.inr (.inl ⟨rfl,rfl,rfl,rfl,rfl⟩)))))
  | mem h1 h2 _ _=>exact .inr (.inr (.inr (.inr (.inr (.inr (.inl ⟨rfl,h1,h2,rfl,rfl⟩))))))
  | br h _=>exact .inr (.inr (.inr (.inr (.inr (.inr (.inr (.inl ⟨rfl,h.1,h.2,rfl,rfl⟩)))))))
  | jmp h=>exact .inr (.inr (.inr (.inr (.inr (.inr (.inr (.inr ⟨rfl,h.1,h.2,rfl,rfl,rfl⟩)))))))
 ·intro h
  unfold I0P at h
  rcases h with ⟨rfl,h1,h2,h3⟩ | ⟨rfl,rfl,rfl,rfl⟩ | ⟨rfl,h1,h2,rfl,h3⟩ | ⟨rfl,rfl,rfl,rfl⟩ | ⟨rfl,rfl,rfl,rfl,rfl⟩ | ⟨rfl,rfl,rfl,rfl,rfl⟩ | ⟨rfl,h1,h2,rfl,rfl⟩ | ⟨rfl,h1,h2,rfl,rfl⟩ | ⟨rfl,h1,h2,rfl,rfl,rfl⟩
  ·exact .reg h1 h2 ha hb hc h3
  ·exact .mov ha hc
  ·exact .imm h1 h2 ha hb h3
  ·exact .movi ha
  ·exact .hi ha
  ·exact .fl ha
  ·exact .mem h1 h2 ha hb
  ·exact .br ⟨h1,h2⟩ hc
  ·exact .jmp ⟨h1,h2⟩
set_option maxHeartbeats 2000000 in
theorem ref03_iff (k o a b c:Int) (u:Bool):∃ r,Zak.g k o a b c 0 u=some (r,())∧(r=true↔GoodI0 k o a b c u):=by
 unfold Zak.g
 generalize 1000+k.toNat+o.toNat+a.toNat+b.toNat+c.toNat+(0:Int).toNat=n
 unfold Zak.f
 rw [r3reg_eq,r3reg_eq,r3reg_eq,Option.bind_some,Option.bind_some,Option.bind_some]
 dsimp only
 by_cases ha:rg a
 case neg=>rw [decide_eq_false (show ¬ (0≤a∧a < 16) from ha),if_neg (by decide)]; exact ⟨_,rfl,fun h=>(by cases h),fun h=>absurd (i0_rg h).1 ha⟩
 by_cases hb:rg b
 case neg=>rw [decide_eq_true (show 0≤a∧a < 16 from ha),decide_eq_false (show ¬ (0≤b∧b < 16) from hb),if_pos (by decide),if_neg (by decide)]; exact ⟨_,rfl,fun h=>(by cases h),fun h=>absurd (i0_rg h).2.1 hb⟩
 by_cases hc:rg c
 case neg=>rw [decide_eq_true (show 0≤a∧a < 16 from ha),decide_eq_true (show 0≤b∧b < 16 from hb),decide_eq_false (show ¬ (0≤c∧c < 16) from hc),if_pos (by decide),if_pos (by decide),if_pos (by decide)]; exact ⟨_,rfl,fun h=>(by cases h),fun h=>absurd (i0_rg h).2.2 hc⟩
 rw [decide_eq_true (show 0≤a∧a < 16 from ha),decide_eq_true (show 0≤b∧b < 16 from hb),decide_eq_true (show 0≤c∧c < 16 from hc),if_pos (by decide),if_pos (by decide),if_neg (by decide)]
 have J:∀ cr:Bool,(cr=true↔8≤o∧o≤10)→Zak.j5 n cr k o a b c 0 u k 0 a 0 0 0 false=some (decide (I0P k o a b c u),()):=by
  intro cr hcr
  unfold Zak.j5 Zak.j23 Zak.j26 Zak.j25 Zak.j8 Zak.j13 Zak.j15 Zak.j21 Zak.j22
  simp only [dt,df,r3reg_eq,fits_zero 20 (.inl rfl),fits_zero 24 (.inr rfl),Option.bind_some]
  have hcr':cr=false→¬ (8≤o∧o≤10):=fun h g=>by rw [hcr.2 g] at h; cases h
  have hcr:=hcr.1
  clear ha hb hc
  have rest:k≠1→k≠2→k≠3→k≠4→k≠5→k≠6→k≠7→¬ I0P k o a b c u:=fun h1 h2 h3 h4 h5 h6 h7 g=>by unfold I0P at g; omega
  by_cases k12:k=1∨k=2
  ·rcases k12 with rfl | rfl
   ·simp only [↓reduceIte,Int.reduceEq]
    by_cases o1:o < 0
    ·simp [I0P,o1]; omega
    ·by_cases o2:11 < o
     ·simp [I0P,o1,o2]; omega
     ·by_cases o3:o=0
      ·subst o3
       have:cr=false:=by cases cr; rfl; have:=hcr rfl; omega
       subst this
       cases u <;> simp [I0P] <;> omega
      ·cases cr
       ·have:=hcr' rfl
        cases u <;> simp [I0P,o1,o2,o3] <;> omega
       ·have:=hcr rfl
        cases u <;> simp [I0P,o1,o2,o3] <;> omega
   ·simp only [↓reduceIte,Int.reduceEq]
    by_cases o1:o < 0
    ·simp [I0P,o1]; omega
    ·by_cases o2:11 < o
     ·simp [I0P,o1,o2]; omega
     ·by_cases o3:o=0
      ·subst o3
       have:cr=false:=by cases cr; rfl; have:=hcr rfl; omega
       subst this
       by_cases b0:b=0 <;> by_cases c0:c=0 <;> cases u <;> simp [I0P,b0,c0] <;> omega
      ·by_cases c0:c=0
       ·cases cr
        ·have:=hcr' rfl
         cases u <;> simp [I0P,o1,o2,o3,c0] <;> omega
        ·have:=hcr rfl
         cases u <;> simp [I0P,o1,o2,o3,c0] <;> omega
       ·cases cr <;> cases u <;> simp [I0P,o1,o2,o3,c0] <;> omega
  ·have k1:k≠1:=by omega
   have k2:k≠2:=by omega
   simp only [k1,k2,↓reduceIte]
   by_cases k3:k=3
   ·subst k3
    by_cases o0:o=0 <;> by_cases b0:b=0 <;> by_cases c0:c=0 <;> cases u <;> simp [I0P,o0,b0,c0,@eq_comm Int 0 o,@eq_comm Int 0 b,@eq_comm Int 0 c]
   ·by_cases k4:k=4
    ·subst k4
     by_cases o0:o=0 <;> by_cases b0:b=0 <;> by_cases c0:c=0 <;> cases u <;> simp [I0P,o0,b0,c0,@eq_comm Int 0 o,@eq_comm Int 0 b,@eq_comm Int 0 c]
    ·simp only [k3,k4,↓reduceIte]
     by_cases k5:k=5
     ·subst k5
      by_cases o1:0≤o <;> by_cases o2:o≤3 <;> by_cases c0:c=0 <;> cases u <;> simp [I0P,o1,o2,c0] <;> omega
     ·simp only [k5,↓reduceIte]
      by_cases k6:k=6
      ·subst k6
       by_cases a0:a=0 <;> by_cases b0:b=0 <;> simp [I0P,a0,b0] <;> omega
      ·simp only [k6,↓reduceIte]
       by_cases k7:k=7
       ·subst k7
        by_cases o1:0≤o <;> by_cases o2:o < 16 <;> by_cases a0:a=0 <;> by_cases b0:b=0 <;> by_cases c0:c=0 <;> simp [I0P,a0,b0,c0,o1,o2] <;> omega
       ·simp only [k7,↓reduceIte]
        rw [decide_eq_false (rest k1 k2 k3 k4 k5 k6 k7)]
 have fin:∀ cr:Bool,(cr=true↔8≤o∧o≤10)→∃ r,Zak.j5 n cr k o a b c 0 u k 0 a 0 0 0 false=some (r,())∧(r=true↔GoodI0 k o a b c u):=fun cr h=>⟨_,J cr h,by rw [decide_eq_true_eq]; exact (i0P_iff ha hb hc).symm⟩
 by_cases h8:8≤o
 ·rw [if_pos (by simpa using h8)]
  exact fin _ ⟨fun h=>⟨h8,of_decide_eq_true h⟩,fun h=>decide_eq_true h.2⟩
 ·rw [if_neg (by simpa using h8)]
  exact fin _ ⟨fun h=>(by cases h),fun h=>absurd h.1 h8⟩
end Rv
namespace Rv
open Go
theorem r7letter_eq (b:UInt8):Zdi.g (b.toNat:Int)=some (isA b,()):=by
 unfold Zdi.g Zdi.f isA
 simp only [dt,df]
 (repeat' split) <;> first | (refine some_tt ?_; omega) | (refine some_ff ?_; omega) | (refine some_pq ?_; omega)
theorem r7digit_eq (b:UInt8):Zcw.g (b.toNat:Int)=some (isD b,()):=by
 unfold Zcw.g Zcw.f isD
 simp only [dt,df]
 (repeat' split) <;> first | (refine some_tt ?_; omega) | (refine some_ff ?_; omega) | (refine some_pq ?_; omega)
theorem r7reg_eq (s:Str):Zdr.g s=some (regLike s,()):=by
 unfold Zdr.g Zdr.f regLike
 simp only [dt,df]
 match s with
 | []=>rfl
 | [a]=>simp
 | [a,b]=>
  have ea:bt [a,b] 0=(a.toNat:Int):=rfl
  have eb:bt [a,b] 1=(b.toNat:Int):=rfl
  have e82:((a.toNat:Int)=82)=(a=82):=byte_is a 82 (by decide)
  rw [if_pos (by simp),if_pos (by simp),if_pos (by simp),ea,eb]
  simp only [ne_eq,e82]
  by_cases h:a=82
  ·rw [if_neg (by simpa using h),if_pos (by simp),r7digit_eq,Option.bind_some]
   cases hb:isD b <;> simp [h,hb]
  ·rw [if_pos h]; simp [h]
 | [a,b,c]=>
  have ea:bt [a,b,c] 0=(a.toNat:Int):=rfl
  have eb:bt [a,b,c] 1=(b.toNat:Int):=rfl
  have ec:bt [a,b,c] 2=(c.toNat:Int):=rfl
  have e82:((a.toNat:Int)=82)=(a=82):=byte_is a 82 (by decide)
  rw [if_pos (by simp),if_pos (by simp),if_pos (by simp),ea,eb,ec]
  simp only [ne_eq,e82]
  by_cases h:a=82
  ·rw [if_neg (by simpa using h),if_pos (by simp),r7digit_eq,r7digit_eq,Option.bind_some]
   cases hb:isD b <;> simp [h,hb]
  ·rw [if_pos h]; simp [h]
 | a::b::c::d::r=>
  rw [if_pos (by simp; omega),if_neg (by simp; omega)]
  simp
theorem r7name_loop (s:Str) (hs:s.length≤1000000) (n:Nat):∀ (m k:Nat),k≤s.length→s.length - k < m→Zau.l4 n m s (k:Int)=some ((s.drop k).all isW,()):=by
 intro m
 induction m with
 | zero=>intro k _ h; omega
 | succ m ih=>
  intro k hk hm
  rw [Zau.l4]
  simp only [dt,Zau.j5]
  by_cases h:k < s.length
  ·have step:=ih (k+1) (by omega) (by omega)
   have e1:IntKind.i64.wrap ((k:Int)+1)=((k+1:Nat):Int):=by rw [w64 (by omega)]; omega
   rw [if_pos (by omega),if_pos (by omega),bt_nat,r7letter_eq,r7digit_eq,Option.bind_some,Option.bind_some,e1,step,drop_cons h,List.all_cons]
   have e95:(((s.getD k 0).toNat:Int)≠95)=¬ (s.getD k 0).toNat=95:=by apply propext; constructor <;> intro h <;> omega
   simp only [e95]
   unfold isW
   rw [isA_L]
   generalize s.getD k 0=b
   cases hA:isA b
   ·cases hD:isD b
    ·rw [if_pos (by simp),if_pos (by omega),if_pos (by simp),if_pos (by omega)]
     by_cases h5:b.toNat=95
     ·rw [if_neg (by simpa using h5)]; simp [h5]
     ·rw [if_pos h5]; simp [h5]
    ·rw [if_pos (by simp),if_pos (by omega),if_neg (by simp)]; simp
   ·rw [if_neg (by simp)]; simp
  ·have:k=s.length:=by omega
   subst this
   rw [if_neg (by omega),List.drop_length]
   rfl
theorem r7name_eq (s:Str) (hs:s.length≤1000000):Zau.g s=some (nameOk s,()):=by
 unfold Zau.g Zau.f nameOk
 simp only [dt,df]
 cases s with
 | nil=>rw [if_neg (by simp)]; simp
 | cons c r=>
  rw [if_pos (by simp; omega)]
  by_cases h12:(c::r).length≤12
  ·have e0:bt (c::r) 0=(c.toNat:Int):=rfl
   have hl:=r7name_loop (c::r) hs (1000+(c::r).length) (1000+(c::r).length) 0 (by omega) (by omega)
   rw [List.drop_zero,show ((0:Nat):Int)=0 from rfl] at hl
   rw [if_pos (by omega),if_pos (by simp),e0,r7letter_eq,r7reg_eq,Option.bind_some,Option.bind_some,hl]
   have hg:(c::r).getD 0 0=c:=rfl
   rw [hg,decide_eq_true h12]
   cases isA c <;> cases regLike (c::r) <;> simp
  ·rw [if_neg (by omega),decide_eq_false h12]; simp
theorem rlabel_eq (s:Str) (hs:s.length≤100000):Zbi.g s=some (labelOk s,()):=by
 unfold Zbi.g Zbi.f
 simp only [dt,Zbi.j3]
 cases s with
 | nil=>rw [if_neg (by simp),r7name_eq [] (by simp)]; rfl
 | cons c r=>
  have e0:bt (c::r) 0=(c.toNat:Int):=rfl
  have e95:((c.toNat:Int)=95)=(c=95):=byte_is c 95 (by decide)
  rw [if_pos (by simp),if_pos (by simp),e0]
  simp only [e95]
  by_cases h:c=95
  ·rw [if_pos h,if_pos (by simp; omega),if_pos (by simp at hs ⊢; omega)]
   have ed:(((c::r).take (((c::r).length:Int)).toNat).drop ((1:Int)).toNat)=r:=by rw [Int.toNat_natCast,List.take_length]; rfl
   rw [ed,r7name_eq _ (by simp at hs ⊢; omega),Option.bind_some]
   subst h
   unfold nameOk labelOk regLike
   have h1:isA 97=true:=by decide
   have h2:isW 97=true:=by decide
   have h3:isD 95=false:=by decide
   have h4:isW 95=true:=by decide
   simp [h1,h2,h3,h4]
  ·rw [if_neg h,r7name_eq _ (by omega),Option.bind_some]
   unfold nameOk labelOk
   have hg:(c::r).getD 0 0=c:=rfl
   rw [hg]
   have hc:(isA c && (isW c && r.all isW))=(!isD c && (isW c && r.all isW)):=by
    have h95:c.toNat≠95:=fun e=>h (UInt8.toNat_inj.1 (by simpa using e))
    unfold isW
    rw [isA_L,decide_eq_false h95]
    have hex:isA c=true→isD c=false:=fun hA=>by
     unfold isA at hA; unfold isD
     simp only [decide_eq_true_eq] at hA
     rw [decide_eq_false_iff_not]; omega
    cases hA:isA c
    ·cases hD:isD c <;> simp
    ·simp [hex hA]
   rw [List.all_cons]
   generalize regLike (c::r)=x
   generalize (isW c && r.all isW)=y at hc ⊢
   generalize decide ((c::r).length≤12)=z
   generalize decide (c::r≠[])=t
   revert hc
   cases isA c <;> cases isD c <;> cases x <;> cases y <;> cases z <;> cases t <;> simp
end Rv
namespace Rv
open Go
theorem rneeds_eq (x:Item) (hx:x.2.2.1.length≤100000):Zdu.g x.1 x.2.1 x.2.2.1=some (if (needsR x).2=true then (needsR x).1 else -1,()):=by
 obtain ⟨a,b,c,u⟩:=x
 cases u
 unfold Zdu.g Zdu.f needsR
 simp only at hx
 simp only [dt,df,rlabel_eq c hx,Option.bind_some]
 by_cases h1:a=1
 ·rw [if_pos h1,if_pos h1]
  by_cases hc:c=[] <;> simp [hc]
 ·rw [if_neg h1,if_neg h1]
  by_cases h2:a=2
  ·rw [if_pos h2,if_pos h2]
   by_cases hb:b=0
   ·cases hl:labelOk c <;> simp [hb,hl]
   ·simp [hb]
  ·rw [if_neg h2,if_neg h2]
   by_cases h3:a=3
   ·rw [if_pos h3]
    by_cases hb:b=0 <;> by_cases hc:c=[] <;> simp [hb,hc,h3]
   ·rw [if_neg h3]
    by_cases h4:a=4∨a=5∨a=6
    ·rw [if_pos h4]
     have g1:4≤a:=by omega
     have g2:a≤6:=by omega
     by_cases hb:b=0 <;> by_cases hc:c=[] <;> simp [hb,hc,h3,g1,g2]
    ·rw [if_neg h4]
     by_cases hb:b=0
     ·by_cases hc:c=[]
      ·by_cases g1:4≤a
       ·have g2:¬ a≤6:=by omega
        simp [hb,hc,h3,g1,g2]
       ·simp [hb,hc,h3,g1]
      ·simp [hb,hc,h3]
     ·simp [hb,h3]
theorem rwell_loop (e:List Item) (he:e.length≤100000) (hn:∀ x∈e,x.2.2.1.length≤100000) (n:Nat):∀ (m i:Nat) (t:Int),i≤e.length→e.length - i < m→0≤t→t≤i →
  Zbq.l3 n m e t (i:Int)=some (wellR t (e.drop i) && decide (e.length≤64),()):=by
 intro m
 induction m with
 | zero=>intro i t _ h; omega
 | succ m ih=>
  intro i t hi hm h0 ht
  rw [Zbq.l3]
  simp only [dt,df,Int.toNat_natCast]
  by_cases h1:i < e.length
  ·have hx:e.drop i=e.getD i ((0:Int),((0:Int),(([]:Str),())))::e.drop (i+1):=by
    rw [List.drop_eq_getElem_cons h1,List.getD_eq_getElem?_getD,List.getElem?_eq_getElem h1]; rfl
   have hmem:e.getD i ((0:Int),((0:Int),(([]:Str),())))∈e:=by
    rw [List.getD_eq_getElem?_getD,List.getElem?_eq_getElem h1]; exact List.getElem_mem h1
   have hnx:=hn _ hmem
   rw [hx,if_pos (by omega),if_pos (by omega)]
   generalize e.getD i ((0:Int),((0:Int),(([]:Str),())))=x at hnx ⊢
   rw [rneeds_eq x hnx,Option.bind_some]
   have hr:=needs_range x
   simp only [wellR]
   generalize needsR x=y at *
   obtain ⟨k,ok⟩:=y
   simp only at hr ⊢
   cases ok
   ·rw [if_neg (by simp),Bool.false_and]; simp
   ·rw [if_pos rfl,if_pos (by omega)]
    by_cases h2:t < k
    ·rw [if_pos h2]; simp [h2]
    ·rw [if_neg h2,w64 (x:=t - k) (by omega),w64 (x:=t - k+1) (by omega),w64 (x:=(i:Int)+1) (by omega),show (i:Int)+1=((i+1:Nat):Int) by omega,show t - k+1=t+(1 - k) by omega]
     rw [ih (i+1) (t+(1 - k)) (by omega) (by omega) (by omega) (by omega)]
     simp [h2]
  ·have hi':i=e.length:=by omega
   subst hi'
   rw [if_neg (by omega),List.drop_length]
   simp only [wellR]
   by_cases h3:t=1
   ·rw [if_pos h3]
    simp [h3]
    omega
   ·rw [if_neg h3]; simp [h3]
theorem rwell_eq (e:List Item) (he:e.length≤100000) (hn:∀ x∈e,x.2.2.1.length≤100000):Zbq.g e=some (well e,()):=by
 unfold Zbq.g Zbq.f
 exact rwell_loop e he hn _ _ 0 0 (by omega) (by omega) (by omega) (by omega)
end Rv
namespace Rv
open Go
theorem enough_needs:∀ (e:List Item) (t k:Int),enough t e=some k→∀ x∈e,(needsR x).2=true
 | [],_,_,_=>fun x hx=>by cases hx
 | y::e,t,k,h=>by
  rw [enough] at h
  split at h
  ·rename_i hc
   intro x hx
   rcases List.mem_cons.1 hx with rfl | hx
   ·exact hc.1
   ·exact enough_needs e _ k h x hx
  ·cases h
theorem well_tree {e:List Item} (h:well e=true) (hw:∀ x∈e,0≤x.2.1∧x.2.1≤4294967295):∃ t,okT' t∧e=t.post:=by
 unfold well at h
 rw [Bool.and_eq_true,decide_eq_true_eq,wellR_enough] at h
 obtain ⟨t,h1,h2,h3⟩:=tree_of (e:=e) h.1 fun x hx=>⟨(hw x hx).1,(hw x hx).2,enough_needs e 0 1 h.1 x hx⟩
 exact ⟨t,⟨h2,h3,by rw [h1]; exact h.1,by rw [h1]; exact h.2⟩,h1.symm⟩
def GoodP (s:Sm):Prop:=
 (s.k=0∧s.e=[]∧s.nm=[]∧s.o=0∧s.a=0∧s.b=0∧s.c=0∧s.u=false) ∨
 ((s.k=1∨s.k=3∨s.k=4∨s.k=6)∧s.e=[]∧s.nm=[]∧GoodI0 s.k s.o s.a s.b s.c s.u) ∨
 ((s.k=2∨s.k=5∨s.k=7)∧well s.e=true∧s.nm=[]∧GoodI0 s.k s.o s.a s.b s.c s.u) ∨
 (s.k=8∧well s.e=true∧s.nm=[]∧s.o=0∧rg s.a∧s.b=0∧s.c=0∧s.u=false) ∨
 (s.k=9∧well s.e=true∧s.nm=[]∧s.o=0∧s.a=0∧s.b=0∧s.c=0∧s.u=false) ∨
 (s.k=10∧s.e=[]∧nameOk s.nm=true∧s.o=0∧s.a=0∧s.b=0∧s.c=0∧s.u=false)
theorem goodP_of {s:Sm} {t:Option Tr} (h:GoodS s t):GoodP s:=by
 have w:∀ x:Tr,okT' x→well x.post=true:=fun x hx=>well_of hx.2.2.1 hx.2.2.2
 unfold GoodP
 cases h with
 | none=>exact .inl ⟨rfl,rfl,rfl,rfl,rfl,rfl,rfl,rfl⟩
 | ins0 h hk=>exact .inr (.inl ⟨hk,rfl,rfl,h⟩)
 | ins1 h hk ht=>exact .inr (.inr (.inl ⟨hk,w _ ht,rfl,h⟩))
 | load h ht=>exact .inr (.inr (.inr (.inl ⟨rfl,w _ ht,rfl,rfl,h,rfl,rfl,rfl⟩)))
 | word ht=>exact .inr (.inr (.inr (.inr (.inl ⟨rfl,w _ ht,rfl,rfl,rfl,rfl,rfl,rfl⟩))))
 | exp h=>exact .inr (.inr (.inr (.inr (.inr ⟨rfl,rfl,h,rfl,rfl,rfl,rfl,rfl⟩))))
theorem goodS_of {s:Sm} (hw:∀ x∈s.e,0≤x.2.1∧x.2.1≤4294967295) (h:GoodP s):∃ t,GoodS s t:=by
 obtain ⟨k,o,a,b,c,u,e,nm⟩:=s
 unfold GoodP at h
 dsimp only at h hw
 rcases h with ⟨rfl,rfl,rfl,rfl,rfl,rfl,rfl,rfl⟩ | ⟨hk,rfl,rfl,h⟩ | ⟨hk,hwl,rfl,h⟩ | ⟨rfl,hwl,rfl,rfl,ha,rfl,rfl,rfl⟩ | ⟨rfl,hwl,rfl,rfl,rfl,rfl,rfl,rfl⟩ | ⟨rfl,rfl,hn,rfl,rfl,rfl,rfl,rfl⟩
 ·exact ⟨_,.none⟩
 ·exact ⟨_,.ins0 h hk⟩
 ·obtain ⟨t,ht,rfl⟩:=well_tree hwl hw; exact ⟨_,.ins1 h hk ht⟩
 ·obtain ⟨t,ht,rfl⟩:=well_tree hwl hw; exact ⟨_,.load ha ht⟩
 ·obtain ⟨t,ht,rfl⟩:=well_tree hwl hw; exact ⟨_,.word ht⟩
 ·exact ⟨_,.exp hn⟩
theorem may_only2 {s:Sm} (he:s.e.length≤4611686018427387904) (h:mayG s=some (true,())):GoodP s:=by
 obtain ⟨k,o,a,b,c,u,e,nm⟩:=s
 unfold mayG Zag.g at h
 generalize 1000+_+_+_+_+_+_+_=n at h
 unfold Zag.f at h
 dsimp only at h he
 simp only [numbered_eq,Option.bind_some,well_eq e he] at h
 have J:(if k=2∨k=5∨k=7∨k=8∨k=9 then well e=true else e=[])→(if (!(decide (k=10) == !decide (nm=[])))=true then some (false,()) else Zag.j4 n k o a b c u e nm k o a b c 0 u)=some (true,())→GoodP ⟨k,o,a,b,c,u,e,nm⟩:=by
  intro hwe h
  unfold GoodP
  dsimp only
  split at h
  ·cases h
  ·rename_i hnm
   have hn0:k≠10→nm=[]:=fun g=>by rw [decide_eq_false g] at hnm; simpa using hnm
   unfold Zag.j4 Zag.j12 at h
   simp only [dt,lename_eq,Option.bind_some] at h
   by_cases h0:k=0
   ·subst h0
    rw [if_pos rfl,if_pos rfl] at h
    have h:=(Prod.mk.inj (Option.some.inj h)).1
    simp only [Bool.and_eq_true,decide_eq_true_eq,beq_iff_eq,and_true,true_and] at h
    exact .inl ⟨rfl,hwe,hn0 (by decide),h.1,h.2.1,h.2.2.1,h.2.2.2.1,h.2.2.2.2⟩
   ·rw [if_neg h0] at h
    by_cases h9:k=9
    ·subst h9
     rw [if_pos rfl] at h
     have h:=(Prod.mk.inj (Option.some.inj h)).1
     simp only [Bool.and_eq_true,decide_eq_true_eq,beq_iff_eq,and_true,true_and] at h
     exact .inr (.inr (.inr (.inr (.inl ⟨rfl,hwe,hn0 (by decide),h.1,h.2.1,h.2.2.1,h.2.2.2.1,h.2.2.2.2⟩))))
    ·rw [if_neg h9] at h
     by_cases h10:k=10
     ·subst h10
      rw [if_pos rfl] at h
      split at h
      ·rename_i hz
       simp only [Bool.and_eq_true,decide_eq_true_eq,beq_iff_eq,and_true,true_and] at hz
       exact .inr (.inr (.inr (.inr (.inr ⟨rfl,hwe,(Prod.mk.inj (Option.some.inj h)).1,hz.1,hz.2.1,hz.2.2.1,hz.2.2.2.1,hz.2.2.2.2⟩))))
      ·cases h
     ·rw [if_neg h10] at h
      by_cases h8:k=8
      ·subst h8
       rw [if_pos rfl] at h
       split at h
       ·rename_i hz
        simp only [Bool.and_eq_true,decide_eq_true_eq,beq_iff_eq,and_true,true_and] at hz
        obtain ⟨x,hx,hr⟩:=rn_total a
        rw [hx,Option.bind_some] at h
        have h:=(Prod.mk.inj (Option.some.inj h)).1
        exact .inr (.inr (.inr (.inl ⟨rfl,hwe,hn0 (by decide),hz.1,hr (by simpa using h),hz.2.1,hz.2.2.1,hz.2.2.2⟩)))
       ·cases h
      ·rw [if_neg h8] at h
       obtain ⟨r,hr,hg⟩:=isa_iff k o a b c u
       rw [hr,Option.bind_some] at h
       have h:=hg.1 (Prod.mk.inj (Option.some.inj h)).1
       have hkr:=i0_range h
       by_cases hn:k=2∨k=5∨k=7∨k=8∨k=9
       ·rw [if_pos hn] at hwe
        exact .inr (.inr (.inl ⟨by omega,hwe,hn0 h10,h⟩))
       ·rw [if_neg hn] at hwe
        exact .inr (.inl ⟨by omega,hwe,hn0 h10,h⟩)
 by_cases hn:k=2∨k=5∨k=7∨k=8∨k=9
 ·rw [decide_eq_true hn] at h
  by_cases hl:e=[]
  ·subst hl
   rw [if_neg (by simp)] at h; cases h
  ·have:decide ((0:Int) < e.length)=true:=by have:=List.length_pos_iff.2 hl; simp; omega
   rw [this,if_pos (show (!true == true)=false from rfl),if_pos (show true=true from rfl)] at h
   cases hw:well e with
   | false=>rw [hw,if_neg (show ¬ (!false)=false by decide)] at h; cases h
   | true=>
    rw [hw,if_pos (show (!true)=false from rfl)] at h
    exact J (by rw [if_pos hn]; exact hw) h
 ·rw [decide_eq_false hn] at h
  by_cases hl:e=[]
  ·subst hl
   rw [if_pos (by simp),if_neg (by simp)] at h
   exact J (by rw [if_neg hn]) h
  ·have:decide ((0:Int) < e.length)=true:=by have:=List.length_pos_iff.2 hl; simp; omega
   rw [this,if_neg (by decide)] at h; cases h
theorem may_iff {s:Sm} (he:s.e.length≤4611686018427387904) (hw:∀ x∈s.e,0≤x.2.1∧x.2.1≤4294967295):∃ r,mayG s=some (r,())∧(r=true↔GoodP s):=by
 obtain ⟨r,hr,_⟩:=may_only s he
 refine ⟨r,hr,fun h=>may_only2 he (by rw [hr,h]),fun h=>?_⟩
 obtain ⟨t,ht⟩:=goodS_of hw h
 have:=may_good ht
 rw [hr] at this
 exact (Prod.mk.inj (Option.some.inj this)).1
end Rv
namespace Rv
open Go
theorem gp_nm {s:Sm} (h:GoodP s):s.k=10↔s.nm≠[]:=by
 unfold GoodP at h
 rcases h with h | h | h | h | h | h
 ·exact ⟨fun g=>by omega,fun g=>absurd h.2.2.1 g⟩
 ·exact ⟨fun g=>by omega,fun g=>absurd h.2.2.1 g⟩
 ·exact ⟨fun g=>by omega,fun g=>absurd h.2.2.1 g⟩
 ·exact ⟨fun g=>by omega,fun g=>absurd h.2.2.1 g⟩
 ·exact ⟨fun g=>by omega,fun g=>absurd h.2.2.1 g⟩
 ·exact ⟨fun _ g=>by rw [g] at h; exact absurd h.2.2.1 (by decide),fun _=>h.1⟩
theorem rmay_iff {s:Sm} (he:s.e.length≤100000) (hn:∀ x∈s.e,x.2.2.1.length≤100000) (hnm:s.nm.length≤1000000) :
  ∃ r,Zal.g s.k s.o s.a s.b s.c s.u s.e s.nm=some (r,())∧(r=true↔GoodP s):=by
 have hgp:=gp_nm (s:=s)
 obtain ⟨k,o,a,b,c,u,e,nm⟩:=s
 dsimp only at he hn hnm hgp ⊢
 obtain ⟨r3,hr3,h3⟩:=ref03_iff k o a b c u
 unfold Zal.g
 generalize 1000+k.toNat+o.toNat+a.toNat+b.toNat+c.toNat+e.length+nm.length=n
 unfold Zal.f Zcn.g Zcn.f
 rw [Option.bind_some]
 dsimp only
 by_cases hm:(k=10↔nm≠[])
 case neg=>
  have:¬ ((decide (k=10))=(!decide (nm=[]))):=fun g=>hm (by
   by_cases h10:k=10
   ·rw [decide_eq_true h10] at g
    exact ⟨fun _ h=>(by rw [decide_eq_true h] at g; cases g),fun _=>h10⟩
   ·rw [decide_eq_false h10] at g
    exact ⟨fun h=>absurd h h10,fun h=>(by rw [decide_eq_false h] at g; cases g)⟩)
  rw [if_pos (show (!(decide (k=10) == !decide (nm=[])))=true by
   cases h1:decide (k=10) <;> cases h2:decide (nm=[]) <;> rw [h1,h2] at this <;> first | rfl | exact absurd rfl this)]
  exact ⟨_,rfl,fun h=>(by cases h),fun h=>absurd (hgp h) hm⟩
 have hm2:decide (k=10)=(!decide (nm=[])):=by
  by_cases h10:k=10
  ·rw [decide_eq_true h10,decide_eq_false (hm.1 h10)]; rfl
  ·rw [decide_eq_false h10,decide_eq_true (Classical.byContradiction fun g=>h10 (hm.2 g))]; rfl
 rw [if_neg (show ¬ (!(decide (k=10) == !decide (nm=[])))=true by rw [hm2]; simp)]
 unfold Zal.j9 Zal.j14 Zal.j8 Zal.j13 Zal.j17 Zal.j18
 simp only [dt,df,hr3,rwell_eq e he hn,r7name_eq nm hnm,Option.bind_some]
 have hnil:((e.length:Int)=0)=(e=[]):=propext ⟨fun h=>List.length_eq_zero_iff.1 (by omega),fun h=>by rw [h]; rfl⟩
 simp only [hnil]
 by_cases k0:k=0
 ·subst k0
  have hnn:nm=[]:=Classical.byContradiction fun g=>absurd (hm.2 g) (by decide)
  subst hnn
  by_cases g1:e=[] <;> by_cases g2:o=0 <;> by_cases g3:a=0 <;> by_cases g4:b=0 <;> by_cases g5:c=0 <;> cases u <;> simp [GoodP,g1,g2,g3,g4,g5]
 ·by_cases k10:k=10
  ·subst k10
   by_cases g1:e=[] <;> by_cases g2:o=0 <;> by_cases g3:a=0 <;> by_cases g4:b=0 <;> by_cases g5:c=0 <;> cases u <;> simp [GoodP,g1,g2,g3,g4,g5]
  ·have hnn:nm=[]:=Classical.byContradiction fun g=>k10 (hm.2 g)
   subst hnn
   simp only [k0,k10,↓reduceIte]
   by_cases ka:k=1∨k=3∨k=4∨k=6
   ·have hG:GoodP ⟨k,o,a,b,c,u,e,[]⟩↔e=[]∧GoodI0 k o a b c u:=by
     unfold GoodP
     dsimp only
     constructor
     ·rintro (h | h | h | h | h | h)
      ·omega
      ·exact ⟨h.2.1,h.2.2.2⟩
      ·omega
      ·omega
      ·omega
      ·omega
     ·exact fun h=>.inr (.inl ⟨ka,h.1,rfl,h.2⟩)
    rw [hG,← h3]
    rcases ka with rfl | rfl | rfl | rfl <;> by_cases g1:e=[] <;> simp [g1]
   ·have kb:k≠1∧k≠3∧k≠4∧k≠6:=by omega
    simp only [kb.1,kb.2.1,kb.2.2.1,kb.2.2.2,↓reduceIte]
    by_cases kc:k=2∨k=5∨k=7
    ·have hG:GoodP ⟨k,o,a,b,c,u,e,[]⟩↔well e=true∧GoodI0 k o a b c u:=by
      unfold GoodP
      dsimp only
      constructor
      ·rintro (h | h | h | h | h | h)
       ·omega
       ·omega
       ·exact ⟨h.2.1,h.2.2.2⟩
       ·omega
       ·omega
       ·omega
      ·exact fun h=>.inr (.inr (.inl ⟨kc,h.1,rfl,h.2⟩))
     rw [hG,← h3]
     rcases kc with rfl | rfl | rfl <;> cases well e <;> simp
    ·have kd:k≠2∧k≠5∧k≠7:=by omega
     simp only [kd.1,kd.2.1,kd.2.2,↓reduceIte]
     by_cases k8:k=8
     ·subst k8
      cases hwl:well e <;> by_cases g2:o=0 <;> by_cases g3:0≤a <;> by_cases g4:b=0 <;> by_cases g5:c=0 <;> cases u <;> simp [GoodP,g2,g3,g4,g5,hwl,rg] <;> omega
     ·by_cases k9:k=9
      ·subst k9
       cases hwl:well e <;> by_cases g2:o=0 <;> by_cases g3:a=0 <;> by_cases g4:b=0 <;> by_cases g5:c=0 <;> cases u <;> simp [GoodP,g2,g3,g4,g5,hwl]
      ·simp only [k8,k9,↓reduceIte]
       refine ⟨_,rfl,fun h=>(by cases h),fun h=>?_⟩
       exfalso
       unfold GoodP at h
       dsimp only at h
       omega
end Rv
namespace Rv
open Go
theorem rdec_loop (n:Nat):∀ (k m a:Nat) (b:Str),a < 10 ^ (k+1)→k < m→a≤4294967295→b.length≤1000 - k→k≤100→Zce.l2 n m (a:Int) b=some (Lib.decDigits a++b,()):=by
 intro k
 have hbyte:∀ k:Nat,k < 10→bytesOf [IntKind.u8.wrap (48+IntKind.u8.wrap (k:Int))]=[UInt8.ofNat (48+k)]:=fun k hk=>by
  rw [w8u (x:=(k:Int)) (by omega),w8u (by omega),show (48:Int)+(k:Int)=((48+k:Nat):Int) by omega]; rfl
 induction k with
 | zero=>
  intro m a b h hm ha hb _
  obtain ⟨m,rfl⟩:∃ m',m=m'+1:=⟨m - 1,by omega⟩
  have h:a < 10:=by simpa using h
  rw [Zce.l2,Lib.decDigits,if_neg (by simp; omega),hbyte a h,if_pos (by simp; omega),dif_pos h]
 | succ k ih=>
  intro m a b h hm ha hb hk
  obtain ⟨m,rfl⟩:∃ m',m=m'+1:=⟨m - 1,by omega⟩
  rw [Zce.l2,Lib.decDigits]
  by_cases h9:9 < a
  ·have e1:Int.tmod (a:Int) 10=((a % 10:Nat):Int):=by rw [Int.tmod_eq_emod_of_nonneg (by omega)]; omega
   have e2:Int.tdiv (a:Int) 10=((a / 10:Nat):Int):=by rw [Int.tdiv_eq_ediv_of_nonneg (by omega)]; omega
   have hm10:a % 10 < 10:=Nat.mod_lt _ (by decide)
   have hlt:a / 10 < 10 ^ (k+1):=by rw [Nat.pow_succ] at h; omega
   rw [if_pos (by simp; omega),e1,e2,hbyte _ hm10,w32u (by omega),if_pos (by simp; omega),dif_neg (by omega),ih m (a / 10) _ hlt (by omega) (by omega) (by simp; omega) (by omega),List.append_assoc]
  ·rw [if_neg (by simp; omega),hbyte a (by omega),if_pos (by simp; omega),dif_pos (by omega)]
theorem rdec_eq {n:Int} (h:0≤n∧n≤4294967295):Zce.g n=some (Lib.itoa n,()):=by
 obtain ⟨m,rfl⟩:∃ m:Nat,n=m:=⟨n.toNat,by omega⟩
 have hi:Lib.itoa (m:Int)=Lib.decDigits m:=by unfold Lib.itoa; rw [if_neg (by omega)]; rfl
 unfold Zce.g Zce.f
 rw [rdec_loop _ 10 _ m [] (by omega) (by omega) (by omega) (by simp) (by decide),List.append_nil,hi]
theorem rabout_loop (n:Nat) (s:Str) (hs:s.length≤1000000) (k:Int) (ks:List Int) (hk:ks.length≤10):∀ (m i:Nat),i≤ks.length→ks.length - i < m→Zbm.l2 n m s k ks (i:Int)=some (if k∈ks.drop i then 40::(s++[41]) else s,()):=by
 intro m
 induction m with
 | zero=>intro i _ h; omega
 | succ m ih=>
  intro i hi hm
  rw [Zbm.l2]
  simp only [dt,Int.toNat_natCast]
  by_cases h:i < ks.length
  ·have hd:ks.drop i=ks.getD i 0::ks.drop (i+1):=by
    rw [List.drop_eq_getElem_cons h,List.getD_eq_getElem?_getD,List.getElem?_eq_getElem h]; rfl
   rw [if_pos (by omega),if_pos (by omega),hd]
   by_cases he:ks.getD i 0=k
   ·rw [if_pos he,if_pos (by simp; omega),if_pos (by simp; omega),if_pos (by rw [he]; exact List.mem_cons_self ..)]
    rfl
   ·rw [if_neg he,w64 (by omega),show (i:Int)+1=((i+1:Nat):Int) by omega,ih (i+1) (by omega) (by omega)]
    congr 2
    have:(k∈ks.getD i 0::ks.drop (i+1))=(k∈ks.drop (i+1)):=by
     rw [List.mem_cons]
     exact propext ⟨fun g=>g.resolve_left (fun g=>he g.symm),.inr⟩
    simp only [this]
  ·rw [if_neg (by omega),List.drop_eq_nil_of_le (by omega),if_neg (by simp)]
theorem rabout_eq (s:Str) (hs:s.length≤1000000) (k:Int) (ks:List Int) (hk:ks.length≤10):Zbm.g s k ks=some (if k∈ks then 40::(s++[41]) else s,()):=by
 unfold Zbm.g Zbm.f
 have:=rabout_loop (1000+s.length+k.toNat+ks.length) s hs k ks hk (1000+s.length+k.toNat+ks.length) 0 (by omega) (by omega)
 rw [List.drop_zero] at this
 exact this
def kt:Tr→Int
 | .num _=>1
 | .nam _=>2
 | .neg _=>3
 | .bin o _ _=>o.kind
 | .br x=>kt x
theorem kt45:∀ x:Tr,x.plain→(kt x∈([4,5]:List Int)↔x.tight < 1)
 | .num _,_=>by simp [kt,Tr.tight]
 | .nam _,_=>by simp [kt,Tr.tight]
 | .neg _,_=>by simp [kt,Tr.tight]
 | .bin o _ _,_=>by cases o <;> simp [kt,Tr.tight,Opr.kind,Opr.tight]
 | .br _,h=>h.elim
theorem kt456:∀ x:Tr,x.plain→(kt x∈([4,5,6]:List Int)↔x.tight < 2)
 | .num _,_=>by simp [kt,Tr.tight]
 | .nam _,_=>by simp [kt,Tr.tight]
 | .neg _,_=>by simp [kt,Tr.tight]
 | .bin o _ _,_=>by cases o <;> simp [kt,Tr.tight,Opr.kind,Opr.tight]
 | .br _,h=>h.elim
theorem brk_if {p q:Prop} [Decidable p] [Decidable q] (h:p↔q) (s:Str):(if p then 40::(s++[41]) else s)=brkT (decide q) s:=by
 unfold brkT
 by_cases hp:p
 ·rw [if_pos hp,decide_eq_true (h.1 hp)]; rfl
 ·rw [if_neg hp,decide_eq_false (fun g=>hp (h.2 g))]; rfl
theorem ab45 {x:Tr} (h:x.plain) (hs:x.txt.length≤1000000):Zbm.g x.txt (kt x) [4,5]=some (brkT (decide (x.tight < 1)) x.txt,()):=by
 rw [rabout_eq _ hs _ _ (by decide),brk_if (kt45 x h)]
theorem ab456 {x:Tr} (h:x.plain) (hs:x.txt.length≤1000000):Zbm.g x.txt (kt x) [4,5,6]=some (brkT (decide (x.tight < 2)) x.txt,()):=by
 rw [rabout_eq _ hs _ _ (by decide),brk_if (kt456 x h)]
theorem rj27 (n:Nat) (rl) (all:List Item) (T:List Str) (Ks:List Int) (U:List Str) (V:List Int) (hT:T.length≤100) (hK:Ks.length=T.length) (i:Nat) (hi:i≤1000) (k:Int) (s:Str) :
  Zaf.j27 n rl all (T++U) (Ks++V) (i:Int) (T.length:Int) k s=rl all (T++[s]) (Ks++[k]) ((i+1:Nat):Int):=by
 unfold Zaf.j27
 have h1:(T++U).take ((T.length:Int)).toNat=T:=by rw [Int.toNat_natCast]; simp
 have h2:(Ks++V).take ((T.length:Int)).toNat=Ks:=by rw [Int.toNat_natCast,← hK]; simp
 rw [h1,h2,List.nil_append,List.nil_append,if_pos (by simp; omega),if_pos (by simp; omega),if_pos (by simp; omega),if_pos (by simp [hK]; omega),if_pos (by simp; omega),if_pos (by simp; omega),w64 (by omega)]
 rfl
theorem brkT_len2 (b:Bool) (s:Str):(brkT b s).length≤s.length+2:=by unfold brkT; split <;> simp
theorem rprint_loop (n:Nat) (all:List Item) (hall:all.length≤64):∀ (x:Tr),x.ok→x.plain→∀ (i:Nat) (rest:List Item) (M:Nat) (T:List Str) (Ks:List Int),all.drop i=x.post++rest→Ks.length=T.length→T.length≤i →
  Zaf.l6 n (M+x.post.length) all T Ks (i:Int)=Zaf.l6 n M all (T++[x.txt]) (Ks++[kt x]) ((i+x.post.length:Nat):Int):=by
 have head:∀ (i:Nat) (y:Item) (r:List Item),all.drop i=y::r→i < all.length∧all.getD i zI=y:=fun i y r h=>by
  have hi:i < all.length:=by
   apply Classical.byContradiction
   intro hc
   rw [List.drop_eq_nil_of_le (by omega)] at h; cases h
  rw [List.drop_eq_getElem_cons hi] at h
  refine ⟨hi,?_⟩
  rw [List.getD_eq_getElem?_getD,List.getElem?_eq_getElem hi]
  exact (List.cons.inj h).1
 have tl:∀ (i:Nat) (a b:List Item),all.drop i=a++b→all.drop (i+a.length)=b:=fun i a b h=>by
  rw [← List.drop_drop,h,List.drop_left]
 intro x
 induction x with
 | num v=>
  intro ho hp i rest M T Ks hd hK hT
  obtain ⟨hi,hg⟩:=head i _ _ hd
  show Zaf.l6 n (M+1) all T Ks (i:Int)=_
  rw [Zaf.l6]
  simp only [dt,Int.toNat_natCast]
  rw [if_pos (by omega),if_pos (by omega),hg]
  dsimp only
  rw [if_pos rfl,if_pos (by omega),rdec_eq ho,Option.bind_some]
  have:=rj27 n (Zaf.l6 n M) all T Ks [] [] (by omega) hK i (by omega) 1 (Lib.itoa v)
  rw [List.append_nil,List.append_nil] at this
  exact this
 | nam s=>
  intro ho hp i rest M T Ks hd hK hT
  obtain ⟨hi,hg⟩:=head i _ _ hd
  show Zaf.l6 n (M+1) all T Ks (i:Int)=_
  rw [Zaf.l6]
  simp only [dt,Int.toNat_natCast]
  rw [if_pos (by omega),if_pos (by omega),hg]
  dsimp only
  rw [if_neg (by decide),if_pos rfl,if_pos (by omega)]
  have:=rj27 n (Zaf.l6 n M) all T Ks [] [] (by omega) hK i (by omega) 2 s
  rw [List.append_nil,List.append_nil] at this
  exact this
 | br x ih=>intro _ hp; exact hp.elim
 | neg x ih=>
  intro ho hp i rest M T Ks hd hK hT
  have e1:(Tr.neg x).post=x.post++[(3,0,[],())]:=rfl
  have hd1:all.drop i=x.post++((3,0,[],())::rest):=by rw [hd,e1,List.append_assoc]; rfl
  have hpl:=txt_len x ho hp
  have hlen:i+x.post.length < all.length:=(head _ _ _ (tl i _ _ hd1)).1
  have hi2:=head _ _ _ (tl i _ _ hd1)
  rw [e1,List.length_append,List.length_singleton,← Nat.add_assoc,Nat.add_right_comm,ih ho hp i _ (M+1) T Ks hd1 hK hT]
  rw [Zaf.l6]
  simp only [dt,Int.toNat_natCast]
  rw [if_pos (by omega),if_pos (by omega),hi2.2]
  dsimp only
  have W:IntKind.i64.wrap (((T++[x.txt]).length:Int) - 1)=(T.length:Int):=by rw [w64 (by simp; omega)]; simp
  have g1:(T++[x.txt]).getD T.length []=x.txt:=by simp [List.getD_eq_getElem?_getD]
  have g2:(Ks++[kt x]).getD T.length 0=kt x:=by rw [← hK]; simp [List.getD_eq_getElem?_getD]
  rw [if_neg (by decide),if_neg (by decide),if_pos rfl,W,if_pos (by simp; omega),if_pos (by simp [hK]; omega),Int.toNat_natCast,g1,g2,ab456 (x:=x) hp (by omega),Option.bind_some]
  have hb:=brkT_len2 (decide (x.tight < 2)) x.txt
  dsimp only
  rw [if_pos (by simp; omega),rj27 n _ all T Ks [x.txt] [kt x] (by omega) hK (i+x.post.length) (by omega)]
  rfl
 | bin o a b iha ihb=>
  intro ho hp i rest M T Ks hd hK hT
  have e1:(Tr.bin o a b).post=a.post++b.post++[(o.kind,0,[],())]:=rfl
  have hd1:all.drop i=a.post++(b.post++((o.kind,0,[],())::rest)):=by rw [hd,e1]; simp
  have hd2:=tl i _ _ hd1
  have hi3:=head _ _ _ (tl _ _ _ hd2)
  have la:=txt_len a ho.1 hp.1
  have lb:=txt_len b ho.2 hp.2
  have hlt:=hi3.1
  have pa:=a.post_pos
  have pb:=b.post_pos
  have hM:M+(a.post++b.post++[(o.kind,0,[],())]).length=(M+1+b.post.length)+a.post.length:=by simp; omega
  rw [e1,hM,iha ho.1 hp.1 i _ _ T Ks hd1 hK hT,ihb ho.2 hp.2 (i+a.post.length) _ (M+1) (T++[a.txt]) (Ks++[kt a]) hd2 (by simp [hK]) (by simp; omega)]
  have eT:T++[a.txt]++[b.txt]=T++[a.txt,b.txt]:=by simp
  have eK:Ks++[kt a]++[kt b]=Ks++[kt a,kt b]:=by simp
  rw [eT,eK,Zaf.l6]
  simp only [dt,Int.toNat_natCast]
  rw [if_pos (by omega),if_pos (by omega),hi3.2]
  dsimp only
  have W:IntKind.i64.wrap (((T++[a.txt,b.txt]).length:Int) - 2)=(T.length:Int):=by rw [w64 (by simp; omega)]; simp
  have W2:IntKind.i64.wrap ((T.length:Int)+1)=((T.length+1:Nat):Int):=by rw [w64 (by omega)]; omega
  have g1:(T++[a.txt,b.txt]).getD T.length []=a.txt:=by simp [List.getD_eq_getElem?_getD]
  have g2:(Ks++[kt a,kt b]).getD T.length 0=kt a:=by rw [← hK]; simp [List.getD_eq_getElem?_getD]
  have g3:(T++[a.txt,b.txt]).getD (T.length+1) []=b.txt:=by simp [List.getD_eq_getElem?_getD]
  have g4:(Ks++[kt a,kt b]).getD (T.length+1) 0=kt b:=by rw [← hK]; simp [List.getD_eq_getElem?_getD]
  have ba:=brkT_len2 (decide (a.tight < 1)) a.txt
  have bb:=brkT_len2 (decide (b.tight < 2)) b.txt
  have bb1:=brkT_len2 (decide (b.tight < 1)) b.txt
  have fin:∀ s,Zaf.j27 n (Zaf.l6 n M) all (T++[a.txt,b.txt]) (Ks++[kt a,kt b]) ((i+a.post.length+b.post.length:Nat):Int) (T.length:Int) o.kind s=Zaf.l6 n M all (T++[s]) (Ks++[o.kind]) ((i+(a.post++b.post++[(o.kind,0,[],())]).length:Nat):Int):=fun s=>by
   rw [rj27 n _ all T Ks _ _ (by omega) hK _ (by omega)]
   congr 2
   simp; omega
  have j16:∀ op:Str,op.length=3→Zaf.j16 n (Zaf.l6 n M) all (T++[a.txt,b.txt]) (Ks++[kt a,kt b]) ((i+a.post.length+b.post.length:Nat):Int) (T.length:Int) o.kind op=Zaf.l6 n M all (T++[a.txt++op++brkT (decide (b.tight < 1)) b.txt]) (Ks++[o.kind]) ((i+(a.post++b.post++[(o.kind,0,[],())]).length:Nat):Int):=fun op hop=>by
   unfold Zaf.j16
   rw [W2,Int.toNat_natCast,Int.toNat_natCast,g1,g3,g4,if_pos (by simp; omega),if_pos (by omega),if_pos (by simp; omega),if_pos (by simp [hK]; omega),ab45 hp.2 (by omega),Option.bind_some]
   dsimp only
   rw [if_pos (by rw [List.length_append,hop]; omega)]
   exact fin _
  rw [W,W2]
  simp only [Int.toNat_natCast]
  cases o with
  | add=>
   rw [if_neg (by decide),if_neg (by decide),if_neg (by decide),if_neg (by decide),if_neg (by decide)]
   refine Eq.trans (j16 [32,43,32] rfl) ?_
   congr 3
   show _=brkT (decide (a.tight < 0)) a.txt++([32,43,32]++brkT (decide (b.tight < 0+1)) b.txt)
   rw [decide_eq_false (show ¬ a.tight < 0 by omega)]
   simp [brkT]
  | sub=>
   rw [if_neg (by decide),if_neg (by decide),if_neg (by decide),if_neg (by decide),if_pos (by decide)]
   refine Eq.trans (j16 [32,45,32] rfl) ?_
   congr 3
   show _=brkT (decide (a.tight < 0)) a.txt++([32,45,32]++brkT (decide (b.tight < 0+1)) b.txt)
   rw [decide_eq_false (show ¬ a.tight < 0 by omega)]
   simp [brkT]
  | mul=>
   rw [if_neg (by decide),if_neg (by decide),if_neg (by decide),if_pos (by decide),if_pos (by simp; omega),if_pos (by simp [hK]; omega),g1,g2,ab45 hp.1 (by omega),Option.bind_some]
   dsimp only
   rw [if_pos (show (brkT (decide (a.tight < 1)) a.txt).length+([32,42,32]:Str).length≤9223372036854775807 by show _+3≤_; omega),if_pos (by simp; omega),if_pos (by simp [hK]; omega),g3,g4,ab456 hp.2 (by omega),Option.bind_some]
   dsimp only
   rw [if_pos (by rw [List.length_append]; show (brkT (decide (a.tight < 1)) a.txt).length+3+_≤9223372036854775807; omega)]
   refine Eq.trans (fin _) ?_
   congr 3
   show _=brkT (decide (a.tight < 1)) a.txt++([32,42,32]++brkT (decide (b.tight < 1+1)) b.txt)
   rw [List.append_assoc]
theorem rprint_eq {t:Tr} (ho:t.ok) (hp:t.plain) (hw:wellL t.post) (hl:t.post.length≤64) (hn:∀ x∈t.post,x.2.2.1.length≤100000):Zaf.g t.post=some (t.txt,0,()):=by
 unfold Zaf.g Zaf.f
 rw [rwell_eq t.post (by omega) hn,Option.bind_some,well_of hw hl,if_neg (by decide)]
 have:=rprint_loop (1000+t.post.length) t.post hl t ho hp 0 [] 1000 [] [] (by rw [List.drop_zero,List.append_nil]) rfl (by simp)
 rw [show ((0:Nat):Int)=0 from rfl] at this
 rw [this,Nat.zero_add,Zaf.l6,if_neg (by simp),if_pos (by simp)]
 rfl
end Rv
namespace Rv
open Go
theorem rreg_facts:((List.range 16).all fun k=>decide (Zbo.g (k:Int)=some (regN k,())))=true:=by decide +kernel
theorem rreg_fact (k:Nat) (hk:k < 16):Zbo.g (k:Int)=some (regN k,()):=by
 have:=List.all_eq_true.1 rreg_facts k (List.mem_range.2 hk)
 simpa using this
theorem rregName_out {v:Int} (h:v < 0∨16≤v):Zbo.g v=some ([],()):=by
 unfold Zbo.g Zbo.f
 by_cases h0:v < 0
 ·rw [if_neg (by simp; omega)]
 ·rw [if_pos (by simp; omega),if_pos (by simp; omega)]
theorem rregName_cases (v:Int):∃ s,Zaz.g v=some (s,())∧Zbo.g v=some (s,()):=by
 by_cases h:v < 0∨16≤v
 ·exact ⟨[],regName_out h,rregName_out h⟩
 ·obtain ⟨k,rfl⟩:∃ k:Nat,v=(k:Int):=⟨v.toNat,by omega⟩
  have hk:k < 16:=by omega
  exact ⟨regN k,(reg_fact k hk).1,rreg_fact k hk⟩
theorem rreg_loop (s:Str) (n:Nat):∀ (m i:Nat),i≤16→16 - i < m→(∀ k,k < i→regN k≠s)→Zca.l2 n m s (i:Int)=some ((regOf s).1,(regOf s).2,()):=by
 intro m
 induction m with
 | zero=>intro i _ h; omega
 | succ m ih=>
  intro i hi hm hno
  unfold Zca.l2
  by_cases hlt:i < 16
  ·rw [if_pos (by simp; omega),rreg_fact i hlt,Option.bind_some]
   dsimp only
   by_cases e:regN i=s
   ·rw [if_pos (by simp [e])]
    have:regOf s=((i:Int),true):=by
     unfold regOf
     cases hf:(List.range 16).find? (fun k=>regN k == s) with
     | none=>exact absurd e (by have:=List.find?_eq_none.1 hf i (List.mem_range.2 hlt); simpa using this)
     | some k=>
      obtain ⟨h1,h2⟩:=regOf_some hf
      have hge:¬ k < i:=fun h=>hno k h h2
      have hle:¬ i < k:=fun h=>by
       rw [List.find?_eq_some_iff_getElem] at hf
       obtain ⟨_,j,hj,hjk,hb⟩:=hf
       have hjk':j=k:=by simpa using hjk
       have:=hb i (by omega)
       simp [e] at this
      have:k=i:=by omega
      rw [this]
    rw [this]
   ·rw [if_neg (by simp [e])]
    have w1:IntKind.i64.wrap ((i:Int)+1)=((i+1:Nat):Int):=by rw [w64 (by omega)]; omega
    rw [w1]
    exact ih (i+1) (by omega) (by omega) fun k hk=>by
     by_cases h:k=i
     ·rw [h]; exact e
     ·exact hno k (by omega)
  ·rw [if_neg (by simp; omega)]
   have:regOf s=(0,false):=by
    unfold regOf
    cases hf:(List.range 16).find? (fun k=>regN k == s) with
    | none=>rfl
    | some k=>
     obtain ⟨h1,h2⟩:=regOf_some hf
     exact absurd h2 (hno k (by omega))
   rw [this]
theorem rreg_eq (s:Str):Zca.g s=some ((regOf s).1,(regOf s).2,()):=by
 unfold Zca.g Zca.f
 exact rreg_loop s _ _ 0 (by omega) (by omega) fun k hk=>by omega
def rmRow (k:Nat):Bool:=(List.range 16).all fun o=>[true,false].all fun u=>decide (Zac.g (k:Int) (o:Int) u=some (L.mnemR (k:Int) (o:Int) u,()))
theorem rm_rows:((List.range 11).all rmRow)=true:=by decide +kernel
theorem mnemR_out {k o:Int} {u:Bool} (h:k < 0∨10 < k∨o < 0∨15 < o):L.mnemR k o u=[]:=by
 by_cases e:L.mnemR k o u=[]
 ·exact e
 ·have:=(mnem_of e).2
  omega
theorem rmnem_eq (k o:Int) (u:Bool):Zac.g k o u=some (L.mnemR k o u,()):=by
 by_cases h:k < 0∨10 < k∨o < 0∨15 < o
 ·rw [mnemR_out h]
  unfold Zac.g
  generalize 1000+k.toNat+o.toNat=n
  have h23:Zac.j23 n k o=some ([],()):=by
   unfold Zac.j23
   by_cases h0:o=0
   ·rw [if_neg (by simp [h0]),if_neg (by simp; omega),if_neg (by simp; omega),if_neg (by simp; omega),if_neg (by simp; omega),if_neg (by simp; omega)]
   ·rw [if_pos (by simp [h0])]
  have h21:Zac.j21 n k o=some ([],()):=by
   unfold Zac.j21
   by_cases h0:k=5
   ·rw [if_pos (by simp [h0])]
    by_cases h1:0≤o
    ·rw [if_pos (by simpa using h1),if_neg (by simp; omega)]; exact h23
    ·rw [if_neg (by simpa using h1)]; exact h23
   ·rw [if_neg (by simp [h0])]; exact h23
  have h17:Zac.j17 n k o u=some ([],()):=by
   unfold Zac.j17
   cases u with
   | true=>rw [if_pos rfl]
   | false=>
    rw [if_neg (by decide)]
    by_cases h0:k=1
    ·rw [if_pos (by simp [h0])]
     by_cases h1:0≤o
     ·rw [if_pos (by simpa using h1),if_neg (by simp; omega)]; exact h21
     ·rw [if_neg (by simpa using h1)]; exact h21
    ·rw [if_neg (by simp [h0])]; exact h21
  have st:∀ (c:Int) (x y:Option (Str×Unit)),(0≤c∧c≤15)→y=some ([],())→(if (decide (k=1))=true then (if u=true then (if (decide (o=c))=true then x else y) else y) else y)=some ([],()):=by
   intro c x y hc hy
   by_cases h0:k=1
   ·rw [if_pos (by simp [h0])]
    split
    ·rw [if_neg (by simp; omega)]; exact hy
    ·exact hy
   ·rw [if_neg (by simp [h0])]; exact hy
  have h9:Zac.j9 n k o u=some ([],()):=by
   unfold Zac.j9
   refine st 0 _ _ (by omega) ?_
   unfold Zac.j11
   refine st 8 _ _ (by omega) ?_
   unfold Zac.j13
   refine st 9 _ _ (by omega) ?_
   unfold Zac.j15
   exact st 10 _ _ (by omega) h17
  unfold Zac.f
  by_cases h0:k=7
  ·rw [if_pos (by simp [h0])]
   by_cases h1:0≤o
   ·rw [if_pos (by simpa using h1),if_neg (by simp; omega)]; exact h9
   ·rw [if_neg (by simpa using h1)]; exact h9
  ·rw [if_neg (by simp [h0])]; exact h9
 ·obtain ⟨a,rfl⟩:∃ a:Nat,k=(a:Int):=⟨k.toNat,by omega⟩
  obtain ⟨b,rfl⟩:∃ b:Nat,o=(b:Int):=⟨o.toNat,by omega⟩
  have h1:=List.all_eq_true.1 rm_rows a (List.mem_range.2 (by omega))
  unfold rmRow at h1
  have h2:=List.all_eq_true.1 h1 b (List.mem_range.2 (by omega))
  have h3:=List.all_eq_true.1 h2 u (by cases u <;> simp)
  simpa using h3
theorem rof_inner (s:Str) (rl:Str→Int→Option (Int×Int×Bool×Bool×Unit)) (k:Nat) (hk:k < 11) (n:Nat):∀ (m i:Nat),i≤16→16 - i < m →
  (∀ (j:Nat) u,j < i→L.mnemR k j u≠s) →
  (∃ o u,L.mnemR k o u=s∧s≠[]∧Zav.l7 n rl m s (k:Int) (i:Int)=some ((k:Int),o,u,true,()))∨((s≠[]→∀ o u,L.mnemR k o u≠s)∧(s≠[]→Zav.l7 n rl m s (k:Int) (i:Int)=rl s (IntKind.i64.wrap ((k:Int)+1))))∨s=[]:=by
 intro m
 induction m with
 | zero=>intro i _ h; omega
 | succ m ih=>
  intro i hi hm hno
  by_cases hs:s=[]
  ·exact Or.inr (Or.inr hs)
  unfold Zav.l7
  by_cases hlt:i < 16
  ·rw [if_pos (by simp; omega),rmnem_eq,Option.bind_some]
   dsimp only
   by_cases e1:L.mnemR (k:Int) (i:Int) false=s
   ·rw [if_pos (by simp [e1])]
    exact Or.inl ⟨_,_,e1,hs,rfl⟩
   ·rw [if_neg (by simp [e1]),rmnem_eq,Option.bind_some]
    dsimp only
    by_cases e2:L.mnemR (k:Int) (i:Int) true=s
    ·rw [if_pos (by simp [e2])]
     exact Or.inl ⟨_,_,e2,hs,rfl⟩
    ·rw [if_neg (by simp [e2])]
     have w1:IntKind.i64.wrap ((i:Int)+1)=((i+1:Nat):Int):=by rw [w64 (by omega)]; omega
     rw [w1]
     exact ih (i+1) (by omega) (by omega) fun j u hj=>by
      by_cases h:j=i
      ·subst h; cases u <;> assumption
      ·exact hno j u (by omega)
  ·rw [if_neg (by simp; omega)]
   refine Or.inr (Or.inl ⟨fun _ o u e=>?_,fun _=>rfl⟩)
   have hr:=(mnem_of (e ▸ hs:L.mnemR (k:Int) o u≠[])).2
   obtain ⟨j,rfl⟩:∃ j:Nat,o=(j:Int):=⟨o.toNat,by omega⟩
   exact hno j u (by omega) e
theorem rof_loop (s:Str) (hs:s≠[]) (n:Nat) (hn:16 < n):∀ (m k:Nat),k≤11→11 - k < m→(∀ (j:Nat) o u,j < k→L.mnemR j o u≠s)→Zav.l4 n m s (k:Int)=some (L.ofR s):=by
 intro m
 induction m with
 | zero=>intro k _ h; omega
 | succ m ih=>
  intro k hk hm hno
  unfold Zav.l4
  by_cases hlt:k < 11
  ·rw [if_pos (by simp; omega)]
   rcases rof_inner s (Zav.l4 n m) k hlt n n 0 (by omega) (by omega) (fun j u hj=>by omega) with ⟨o,u,e,_,h⟩ | ⟨h1,h2⟩ | h
   ·have h':Zav.l7 n (Zav.l4 n m) n s (k:Int) 0=some ((k:Int),o,u,true,()):=h
    rw [h',← e,(mnem_of (e ▸ hs:L.mnemR (k:Int) o u≠[])).1]
   ·have h':Zav.l7 n (Zav.l4 n m) n s (k:Int) 0=Zav.l4 n m s (IntKind.i64.wrap ((k:Int)+1)):=h2 hs
    rw [h']
    have w1:IntKind.i64.wrap ((k:Int)+1)=((k+1:Nat):Int):=by rw [w64 (by omega)]; omega
    rw [w1]
    exact ih (k+1) (by omega) (by omega) fun j o u hj=>by
     by_cases h:j=k
     ·subst h; exact h1 hs o u
     ·exact hno j o u (by omega)
   ·exact absurd h hs
  ·rw [if_neg (by simp; omega)]
   rw [ofR_none fun k' o' u' e=>by
    by_cases h0:s=[]
    ·exact h0
    ·exfalso
     have hr:=(mnem_of (e ▸ h0:L.mnemR k' o' u'≠[])).2
     obtain ⟨j,rfl⟩:∃ j:Nat,k'=(j:Int):=⟨k'.toNat,by omega⟩
     exact hno j o' u' (by omega) e]
theorem rof_eq (s:Str):Zav.g s=some (L.ofR s):=by
 unfold Zav.g Zav.f
 by_cases h:s=[]
 ·rw [if_pos (by simp [h]),h]; rfl
 ·rw [if_neg (by simp [h])]
  exact rof_loop s h _ (by omega) _ 0 (by omega) (by omega) fun j o u hj=>by omega
end Rv
namespace Rv
open Go
theorem good_elen {s:Sm} {t:Option Tr} (h:GoodS s t):s.e.length≤64∧s.e=postO t∧(∀ x,t=some x→okT' x):=by
 cases h with
 | none=>exact ⟨by simp,rfl,fun x h=>by cases h⟩
 | ins0 _ _=>exact ⟨by simp,rfl,fun x h=>by cases h⟩
 | ins1 _ _ ht=>exact ⟨ht.2.2.2,rfl,fun x h=>by obtain rfl:=Option.some.inj h; exact ht⟩
 | load _ ht=>exact ⟨ht.2.2.2,rfl,fun x h=>by obtain rfl:=Option.some.inj h; exact ht⟩
 | word ht=>exact ⟨ht.2.2.2,rfl,fun x h=>by obtain rfl:=Option.some.inj h; exact ht⟩
 | exp _=>exact ⟨by simp,rfl,fun x h=>by cases h⟩
end Rv
namespace Rv
open Go
theorem post_small:∀ t:Tr,t.ok→∀ x∈t.post,x.2.2.1.length≤12
 | .num n,_=>fun x hx=>by rw [List.mem_singleton.1 hx]; simp
 | .nam s,h=>fun x hx=>by
  rw [List.mem_singleton.1 hx]
  have h:labelOk s=true:=h
  unfold labelOk at h
  simp only [Bool.and_eq_true,decide_eq_true_eq] at h
  exact h.1.1.1.2
 | .neg x,h=>fun y hy=>by
  rcases List.mem_append.1 hy with g | g
  ·exact post_small x h y g
  ·rw [List.mem_singleton.1 g]; simp
 | .br x,h=>fun y hy=>post_small x h y hy
 | .bin o a b,h=>fun y hy=>by
  have hy:y∈a.post++(b.post++[(o.kind,0,[],())]):=by simpa [Tr.post] using hy
  rcases List.mem_append.1 hy with g | g
  ·exact post_small a h.1 y g
  ·rcases List.mem_append.1 g with g | g
   ·exact post_small b h.2 y g
   ·rw [List.mem_singleton.1 g]; simp
theorem rpost_eq {s:Sm} {t:Option Tr} (h:GoodS s t):∃ k,Zaf.g s.e=some (et t,k,()):=by
 obtain ⟨h1,h2,h3⟩:=good_elen h
 rw [h2]
 cases t with
 | none=>exact ⟨23,by decide +kernel⟩
 | some x=>
  have hx:=h3 x rfl
  exact ⟨0,rprint_eq hx.1 hx.2.1 hx.2.2.1 hx.2.2.2 fun y hy=>Nat.le_trans (post_small x hx.1 y hy) (by decide)⟩
theorem rrn (a:Int):∃ s,Zbo.g a=some (s,())∧(rg a→s=rn a):=by
 obtain ⟨s,h1,h2⟩:=rregName_cases a
 refine ⟨s,h2,fun h=>?_⟩
 have:=rn_eq h
 rw [h1] at this
 exact (Prod.mk.inj (Option.some.inj this)).1
theorem rmtx_eq {s:Sm} {t:Option Tr} (h:GoodS s t) (h0:s.k≠0):Zcz.g s.k s.o s.a s.b s.c s.u s.e s.nm=some (mtx s,()):=by
 have hml:=mnem_len (hk s.k) s.o s.u
 have hou:s.k=9∨s.k=10→s.o=0∧s.u=false:=fun hd=>by
  cases h with
  | none=>exact ⟨rfl,rfl⟩
  | ins0 _ hk=>dsimp only at hd; omega
  | ins1 _ hk _=>dsimp only at hd; omega
  | load _ _=>exact ⟨rfl,rfl⟩
  | word _=>exact ⟨rfl,rfl⟩
  | exp _=>exact ⟨rfl,rfl⟩
 unfold Zcz.g
 generalize 1000+s.k.toNat+s.o.toNat+s.a.toNat+s.b.toNat+s.c.toNat+s.e.length+s.nm.length=n
 unfold Zcz.f Zcz.j9 mtx
 simp only [dt,rmnem_eq,Option.bind_some]
 by_cases k2:s.k=2
 ·rw [if_pos k2,if_neg (show ¬ (s.k=9∨s.k=10) by omega),k2]; rfl
 ·rw [if_neg k2]
  by_cases k6:s.k=6
  ·rw [if_pos k6,if_neg (show ¬ (s.k=9∨s.k=10) by omega),k6]; rfl
  ·rw [if_neg k6]
   have hh:hk s.k=s.k:=by unfold hk; rw [if_neg k2,if_neg k6]
   rw [hh] at hml ⊢
   by_cases k9:s.k=9
   ·obtain ⟨e1,e2⟩:=hou (.inl k9)
    rw [e1,e2] at hml ⊢
    rw [if_pos k9,if_pos k9,if_pos (by simp; omega),if_pos (show s.k=9∨s.k=10 from .inl k9)]
   ·rw [if_neg k9]
    by_cases k10:s.k=10
    ·obtain ⟨e1,e2⟩:=hou (.inr k10)
     rw [e1,e2] at hml ⊢
     rw [if_pos k10,if_pos (by simp; omega),if_pos (show s.k=9∨s.k=10 from .inr k10)]
    ·rw [if_neg k10,if_neg (show ¬ (s.k=9∨s.k=10) by omega)]; rfl
theorem rops_eq {s:Sm} {t:Option Tr} (h:GoodS s t) (h0:s.k≠0):Zda.g s.k s.o s.a s.b s.c s.u s.e s.nm=some ((odL s.k s.o).map (wtx s t),()):=by
 obtain ⟨ek,he⟩:=rpost_eq h
 obtain ⟨ra,ha,ha2⟩:=rrn s.a
 obtain ⟨rb,hb,hb2⟩:=rrn s.b
 obtain ⟨rc,hc,hc2⟩:=rrn s.c
 have hod:=good_od h
 have hel:(et t).length≤1300:=by
  cases t with
  | none=>simp [et]
  | some x=>
   have hx:=(good_elen h).2.2 x rfl
   have h1:=txt_len x hx.1 hx.2.1
   have h2:=hx.2.2.2
   show x.txt.length≤1300
   omega
 unfold Zda.g
 generalize 1000+s.k.toNat+s.o.toNat+s.a.toNat+s.b.toNat+s.c.toNat+s.e.length+s.nm.length=n
 unfold Zda.f Zda.j26
 rw [he,Option.bind_some,ha,Option.bind_some,hb,Option.bind_some,hc,Option.bind_some]
 simp only [dt]
 have A:Od.A∈odL s.k s.o→ra=rn s.a:=fun g=>ha2 (hod _ g)
 have B:Od.B∈odL s.k s.o→rb=rn s.b:=fun g=>hb2 (hod _ g)
 have C:Od.C∈odL s.k s.o→rc=rn s.c:=fun g=>hc2 (hod _ g)
 have hkr:=good_kr h
 have hq:([61,32]:Str).length+(et t).length≤9223372036854775807:=by simp; omega
 have hk:s.k=1∨s.k=2∨s.k=3∨s.k=4∨s.k=5∨s.k=6∨s.k=7∨s.k=8∨s.k=9∨s.k=10:=by omega
 clear hod ha2 hb2 hc2 he hel hkr
 generalize s.o=o at A B C ⊢
 generalize s.k=k at A B C hk ⊢
 rcases hk with rfl | rfl | rfl | rfl | rfl | rfl | rfl | rfl | rfl | rfl
 ·by_cases ho:o=0
  ·subst ho; rw [A (by simp [odL]),C (by simp [odL])]; rfl
  ·have e:odL 1 o=[.A,.B,.C]:=by unfold odL; rw [if_pos rfl,if_neg ho]
   rw [e] at A B C ⊢
   rw [A (by simp),B (by simp),C (by simp),if_pos rfl,if_neg ho]; rfl
 ·by_cases ho:o=0
  ·subst ho; rw [A (by simp [odL])]; rfl
  ·have e:odL 2 o=[.A,.B,.E]:=by unfold odL; rw [if_neg (by decide),if_pos rfl,if_neg ho]
   rw [e] at A B C ⊢
   rw [A (by simp),B (by simp),if_neg (by decide),if_pos rfl,if_neg ho]; rfl
 ·rw [A (by simp [odL])]; rfl
 ·rw [A (by simp [odL])]; rfl
 ·rw [A (by simp [odL]),B (by simp [odL])]; rfl
 ·rw [C (by simp [odL])]; rfl
 ·rfl
 ·rw [A (by simp [odL]),if_neg (by decide),if_neg (by decide),if_neg (by decide),if_neg (by decide),if_neg (by decide),if_neg (by decide),if_pos (by decide),if_pos hq]; rfl
 ·rfl
 ·rfl
def rowR:Nat→List Str→Str
 | _,[]=>[]
 | i,x::r=>(if 0 < i then [44] else [])++(32::(x++rowR (i+1) r))
theorem row_flat:∀ (r:List Str) (i:Nat),0 < i→rowR i r=(r.map (([44,32]:Str)++·)).flatten
 | [],_,_=>rfl
 | x::r,i,h=>by
  rw [rowR,if_pos h,row_flat r (i+1) (by omega),List.map_cons,List.flatten_cons]
  simp
theorem row_join (x:Str) (r:List Str):rowR 0 (x::r)=32::L.sjoinR [44,32] (x::r):=by
 rw [rowR,if_neg (by decide),row_flat r 1 (by decide)]; rfl
theorem rrow_loop (n:Nat) (b:List Str) (hb:b.length≤1000):∀ (m i:Nat) (acc:Str),i≤b.length→b.length - i < m→acc.length+(rowR i (b.drop i)).length≤1000000 →
  Zao.l13 n m acc b (i:Int)=some (acc++rowR i (b.drop i),0,()):=by
 intro m
 induction m with
 | zero=>intro i _ _ h; omega
 | succ m ih=>
  intro i acc hi hm hlen
  rw [Zao.l13]
  unfold Zao.j17
  simp only [dt,Int.toNat_natCast]
  by_cases h:i < b.length
  ·have hd:b.drop i=b.getD i []::b.drop (i+1):=by
    rw [List.drop_eq_getElem_cons h,List.getD_eq_getElem?_getD,List.getElem?_eq_getElem h]; rfl
   have W1:IntKind.i64.wrap ((i:Int)+1)=((i+1:Nat):Int):=by rw [w64 (by omega)]; omega
   rw [hd,rowR] at hlen ⊢
   have hc:(0:Int)≤(i:Int)∧(i:Int) < (b.length:Int):=by omega
   rw [if_pos (by omega),W1]
   generalize b.getD i []=x at hlen ⊢
   by_cases h0:0 < i
   ·rw [if_pos h0] at hlen ⊢
    simp only [List.length_append,List.length_cons,List.length_nil] at hlen
    rw [if_pos (show (0:Int) < (i:Int) by omega),if_pos (by simp; omega),if_pos (by simp; omega),if_pos hc,if_pos (by simp; omega),ih (i+1) _ (by omega) (by omega) (by simp; omega)]
    simp
   ·rw [if_neg h0] at hlen ⊢
    simp only [List.length_append,List.length_cons,List.length_nil] at hlen
    rw [if_neg (show ¬ (0:Int) < (i:Int) by omega),if_pos (by simp; omega),if_pos hc,if_pos (by simp; omega),ih (i+1) _ (by omega) (by omega) (by simp; omega)]
    simp
  ·rw [if_neg (by omega),List.drop_eq_nil_of_le (by omega),rowR,List.append_nil]
theorem odL_cons {s:Sm} {t:Option Tr} (h:GoodS s t) (h0:s.k≠0):∃ d r,odL s.k s.o=d::r:=by
 have hkr:=good_kr h
 cases e:odL s.k s.o with
 | cons d r=>exact ⟨d,r,rfl⟩
 | nil=>
  exfalso
  unfold odL at e
  repeat' split at e
  all_goals first | omega | cases e
abbrev rprintG (lb:Str) (s:Sm):Option (Str×Int×Unit):=Zao.g lb s.k s.o s.a s.b s.c s.u s.e s.nm
theorem rprint_good {s:Sm} {t:Option Tr} (h:GoodS s t) (hnm:s.nm.length≤1000000) {lb:Str} (hlb:lb=[]∨labelOk lb=true):rprintG lb s=some (ltx lb s t,0,()):=by
 have hL:=ltx_len h hlb
 have hll:lb.length≤12:=by
  rcases hlb with rfl | hlb
  ·simp
  ·unfold labelOk at hlb
   simp only [Bool.and_eq_true,decide_eq_true_eq] at hlb
   exact hlb.1.1.1.2
 have hel:=good_elen h
 obtain ⟨r,hr,hr2⟩:=rmay_iff (s:=s) (by omega) (fun x hx=>by
  rw [hel.2.1] at hx
  cases t with
  | none=>cases hx
  | some y=>exact Nat.le_trans (post_small y (hel.2.2 y rfl).1 x hx) (by decide)) hnm
 rw [hr2.2 (goodP_of h)] at hr
 have J10:∀ (n:Nat) (acc:Str),10≤n→s.k≠0→acc.length+(stx s t).length≤100000→Zao.j10 n acc s.k s.o s.a s.b s.c s.u s.e s.nm=some (acc++stx s t,0,()):=fun n acc hn h0 hacc=>by
  obtain ⟨d,rr,hdr⟩:=odL_cons h h0
  have hst:stx s t=mtx s++rowR 0 ((odL s.k s.o).map (wtx s t)):=by
   unfold stx
   rw [if_neg h0,hdr,List.map_cons,row_join]
  rw [hst] at hacc ⊢
  rw [List.length_append] at hacc
  unfold Zao.j10
  rw [rmtx_eq h h0,Option.bind_some]
  dsimp only
  rw [if_pos (by omega),rops_eq h h0,Option.bind_some]
  have h3:=odL_len s.k s.o
  have:=rrow_loop n ((odL s.k s.o).map (wtx s t)) (by rw [List.length_map]; omega) n 0 (acc++mtx s) (by omega) (by rw [List.length_map]; omega) (by rw [List.drop_zero,List.length_append]; omega)
  rw [List.drop_zero] at this
  rw [show ((0:Nat):Int)=0 from rfl] at this
  rw [this,List.append_assoc]
 have J3:∀ n,10≤n→Zao.j3 n lb s.k s.o s.a s.b s.c s.u s.e s.nm=some (ltx lb s t,0,()):=fun n hn=>by
  have hL2:=hL
  unfold ltx at hL2
  unfold Zao.j3 Zao.j6 ltx
  simp only [dt]
  by_cases hl:lb=[]
  ·subst hl
   rw [if_neg (by decide),if_pos rfl]
   rw [if_pos rfl] at hL2
   by_cases h0:s.k=0
   ·rw [if_pos h0]; unfold stx; rw [if_pos h0]
   ·rw [if_neg h0,if_neg (by decide),J10 n [] hn h0 (by simp; omega),List.nil_append]
  ·rw [if_pos (by simp [hl]),if_pos (by simp; omega),if_neg hl]
   rw [if_neg hl] at hL2
   by_cases h0:s.k=0
   ·rw [if_pos h0,if_pos h0]
   ·rw [if_neg h0] at hL2
    rw [if_neg h0,if_neg h0,if_pos (by simp [hl]),if_pos (by simp; omega),J10 n _ hn h0 (by simp at hL2 ⊢; omega)]
    simp
 unfold rprintG Zao.g
 have hN:10≤1000+lb.length+s.k.toNat+s.o.toNat+s.a.toNat+s.b.toNat+s.c.toNat+s.e.length+s.nm.length:=by omega
 generalize 1000+lb.length+s.k.toNat+s.o.toNat+s.a.toNat+s.b.toNat+s.c.toNat+s.e.length+s.nm.length=n at hN
 unfold Zao.f
 rw [hr,J3 n hN,rlabel_eq lb (by omega)]
 simp only [Option.bind_some]
 rcases hlb with rfl | hlb
 ·rfl
 ·rw [hlb]
  have:lb≠[]:=by rintro rfl; exact absurd hlb (by decide)
  rw [if_pos (by simp [this]),if_pos (by decide),if_neg (by decide)]
theorem rprint_bad {s:Sm} {lb:Str} {r:Bool} (hlb:lb.length≤100000) (hr:Zal.g s.k s.o s.a s.b s.c s.u s.e s.nm=some (r,())) (h:(lb≠[]∧labelOk lb=false)∨r=false):rprintG lb s=some ([],22,()):=by
 unfold rprintG Zao.g
 generalize 1000+lb.length+s.k.toNat+s.o.toNat+s.a.toNat+s.b.toNat+s.c.toNat+s.e.length+s.nm.length=n
 unfold Zao.f
 rw [hr,rlabel_eq lb hlb]
 simp only [Option.bind_some]
 rcases h with ⟨h1,h2⟩ | rfl
 ·rw [if_pos (by simp [h1]),h2,if_neg (by decide)]
 ·split
  ·split <;> rfl
  ·rfl
theorem print_same {s:Sm} {lb:Str} (hlb:lb.length≤100000) (he:s.e.length≤1000) (hv:∀ x∈s.e,(0≤x.2.1∧x.2.1≤4294967295)∧x.2.2.1.length≤100000) (hnm:s.nm.length≤100000) :
  ∃ p:Str×Int,printG lb s=some (p.1,p.2,())∧rprintG lb s=some (p.1,p.2,())∧p.1.length≤5000:=by
 obtain ⟨r,hr,hr2⟩:=may_iff (s:=s) (by omega) fun x hx=>(hv x hx).1
 obtain ⟨q,hq,hq2⟩:=rmay_iff (s:=s) (by omega) (fun x hx=>(hv x hx).2) (by omega)
 by_cases hb:(lb≠[]∧labelOk lb=false)∨¬ GoodP s
 ·have h1:(lb≠[]∧labelOk lb=false)∨r=false:=hb.imp id fun g=>by cases r with | false=>rfl | true=>exact absurd (hr2.1 rfl) g
  have h2:(lb≠[]∧labelOk lb=false)∨q=false:=hb.imp id fun g=>by cases q with | false=>rfl | true=>exact absurd (hq2.1 rfl) g
  exact ⟨([],22),print_bad (h1.imp id fun g=>by rw [hr,g]) ⟨r,hr⟩,rprint_bad hlb hq h2,by simp⟩
 ·have hg:GoodP s:=Classical.byContradiction fun g=>hb (.inr g)
  have hl:lb=[]∨labelOk lb=true:=by
   by_cases h0:lb=[]
   ·exact .inl h0
   ·cases h1:labelOk lb with
    | true=>exact .inr rfl
    | false=>exact absurd (.inl ⟨h0,h1⟩) hb
  obtain ⟨t,ht⟩:=goodS_of (fun x hx=>(hv x hx).1) hg
  exact ⟨(ltx lb s t,0),print_good ht hl,rprint_good ht (by omega) hl,ltx_len ht hl⟩
end Rv
