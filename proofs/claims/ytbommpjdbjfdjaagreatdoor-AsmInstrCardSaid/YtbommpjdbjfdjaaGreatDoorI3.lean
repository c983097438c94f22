/- Texts put together. -/
import Derived.Test.YtbommpjdbjfdjaaGreatDoorI2
import Derived.Test.YtbommpjdbjfdjaaGreatDoorI1
set_option linter.all false
namespace Rv
open Go
set_option maxRecDepth 100000
end Rv
namespace Rv
open Go
end Rv
namespace Rv
open Go
abbrev TokL:=Int×Int×Str×Int×Unit
end Rv
namespace Rv
open Go
inductive Opr
 | add | sub | mul
def Opr.kind:Opr→Int
 | .add=>4 | .sub=>5 | .mul=>6
def Opr.byte:Opr→UInt8
 | .add=>43 | .sub=>45 | .mul=>42
def Opr.tight:Opr→Nat
 | .mul=>1 | _=>0
inductive Tr
 | num (n:Int) | nam (s:Str) | neg (x:Tr) | bin (o:Opr) (a b:Tr) | br (x:Tr)
namespace Tr
def post:Tr→List Item
 | .num n=>[(1,n,[],())]
 | .nam s=>[(2,0,s,())]
 | .neg x=>x.post++[(3,0,[],())]
 | .bin o a b=>a.post++b.post++[(o.kind,0,[],())]
 | .br x=>x.post
def ok:Tr→Prop
 | .num n=>0≤n∧n≤4294967295
 | .nam s=>labelOk s=true
 | .neg x=>x.ok
 | .bin _ a b=>a.ok∧b.ok
 | .br x=>x.ok
def plain:Tr→Prop
 | .neg x=>x.plain
 | .bin _ a b=>a.plain∧b.plain
 | .br _=>False
 | _=>True
def tight:Tr→Nat
 | .bin o _ _=>o.tight
 | _=>2
end Tr
abbrev Bt:=Int×Str×Int
def bare (t:TokL):Bt:=(t.1,t.2.2.1,t.2.2.2.1)
namespace Tr
def cnt (l:List Bt):Nat:=l.countP fun b=>decide (b.2.1=[45]) || decide (b.2.1=[40])
end Tr
end Rv
namespace Rv
open Go
end Rv
namespace Rv
open Go
def brkT (b:Bool) (s:Str):Str:=if b then 40::(s++[41]) else s
namespace Tr
def txt:Tr→Str
 | .num n=>Lib.itoa n
 | .nam s=>s
 | .neg x=>45::brkT (decide (x.tight < 2)) x.txt
 | .bin o a b=>brkT (decide (a.tight < o.tight)) a.txt++([32,o.byte,32]++brkT (decide (b.tight < o.tight+1)) b.txt)
 | .br x=>40::(x.txt++[41])
end Tr
end Rv
namespace Rv
open Go
def parts (st:List Tr):List (Str×Int×Unit):=st.map fun t=>(t.txt,(t.tight:Int),())
end Rv
namespace Rv
open Go
abbrev R:=rec_expr_parser_sum
def mc:Tr→Nat
 | .bin .mul a _=>mc a+1
 | _=>0
end Rv
namespace Rv
open Go
end Rv
namespace Rv
open Go
end Rv
namespace Rv
open Go
end Rv
namespace Rv
open Go
theorem and15_rg (x:Int):rg (bitsI .and .i64 x 15):=by
 have h1:(BitVec.ofInt 64 x &&& BitVec.ofInt 64 15).toNat≤15:=by
  rw [BitVec.toNat_and]
  exact Nat.and_le_right
 show rg (IntKind.i64.wrap (((BitVec.ofInt 64 x &&& BitVec.ofInt 64 15).toNat:Nat):Int))
 rw [w64 (by omega)]
 exact ⟨by omega,by omega⟩
theorem and3_rg (x:Int):0≤bitsI .and .i64 x 3∧bitsI .and .i64 x 3 < 4:=by
 have h1:(BitVec.ofInt 64 x &&& BitVec.ofInt 64 3).toNat≤3:=by
  rw [BitVec.toNat_and]
  exact Nat.and_le_right
 show 0≤IntKind.i64.wrap (((BitVec.ofInt 64 x &&& BitVec.ofInt 64 3).toNat:Nat):Int)∧IntKind.i64.wrap (((BitVec.ofInt 64 x &&& BitVec.ofInt 64 3).toNat:Nat):Int) < 4
 rw [w64 (by omega)]
 omega
theorem tmodB (x:Int) {m:Int} (hm:0 < m):-m < Int.tmod x m∧Int.tmod x m < m:=⟨Int.lt_tmod_of_pos x hm,Int.tmod_lt_of_pos x hm⟩
end Rv
namespace Rv
open Go
end Rv
namespace Rv
open Go
end Rv
namespace Rv
open Go
end Rv
namespace Rv
open Go
end Rv
namespace Rv
open Go
def linesW (lb:List Sym) (q:List Val) (fr wd:Int) (t:List Int):List Ln→Nat→WrT→Except (Nat×Int) WrT
 | [],_,r=>.ok r
 | x::l,i,r=>match lineA lb q fr wd x.2.1 (t.getD i 0) r with
  | .error e=>.error (i+1,e)
  | .ok r'=>linesW lb q fr wd t l (i+1) r'
def poolW:List Val→WrT→WrT
 | [],r=>r
 | v::l,r=>poolW l (putW r v.1 (decide (v.2.1=1)))
abbrev ObjT:=List Int×List Int×List Sym×Int×Int×Unit
def noObj (i:Int) (e:Int):ObjT:=([],[],[],i,e,())
def endW (r:WrT):ObjT:=if 64 < r.2.2.length then noObj 0 2 else (r.1,r.2.1,r.2.2,0,0,())
def objP (p:PlanT) (l:List Ln):ObjT:=
 if p.2.2.2.2.2.2.1≠0 then noObj p.2.2.2.2.2.1 p.2.2.2.2.2.2.1
 else match linesW p.2.1 p.2.2.1 p.2.2.2.1 p.2.2.2.2.1 p.1 l 0 ([],[],[]) with
  | .error x=>noObj (x.1:Int) x.2
  | .ok r=>endW (poolW p.2.2.1 r)
def asmR (l:List Ln):ObjT:=objP (planR l) l
theorem encE_err {k o a b c:Int} {v:Int×Int×Unit} {u:Bool} {x:Int} (h:encE k o a b c v u=.error x):x≠0:=by
 unfold encE at h
 split at h
 ·rename_i h1; cases h; exact h1
 ·exact enc_err _ _ _ _ _ _ _ h
theorem word_err {lb:List Sym} {q:List Val} {fr wd:Int} {s:Snt} {pl x:Int} (h:wordR lb q fr wd s pl=.error x):x≠0:=by
 unfold wordR at h
 repeat' split at h
 all_goals first
  | exact encE_err h
  | exact enc_err _ _ _ _ _ _ _ h
  | (cases h; assumption)
  | cases h
structure WOk (r:WrT) (i:Nat):Prop where
 w:r.1.length≤i
 s:r.2.1.length≤i
 y:r.2.2.length≤i
 o:sortedS r.2.2
theorem putW_ok {r:WrT} {i:Nat} (h:WOk r i) (v:Int) (b:Bool):WOk (putW r v b) (i+1):=by
 refine ⟨by have:=h.w; simp [putW]; omega,?_,by have:=h.y; show r.2.2.length≤_; omega,h.o⟩
 have:=h.s
 unfold putW
 dsimp only
 split
 ·simp; omega
 ·omega
theorem export_ok {lb:List Sym} {nm:Str} {y y':List Sym} (h:exportR lb nm y=.ok y'):nameOk nm=true∧(findR nm lb).isSome=true∧isSy y nm=false∧y'=insS y (nm,(findR nm lb).getD 0,()):=by
 unfold exportR at h
 split at h
 ·cases h
 ·split at h
  ·cases h
  ·split at h
   ·cases h
   ·rename_i h1 h2 h3
    cases h
    exact ⟨by simpa using h1,(Bool.not_eq_false _).mp h2,by simpa using h3,rfl⟩
theorem line_ok {lb:List Sym} {q:List Val} {fr wd:Int} {s:Snt} {pl:Int} {r r':WrT} {i:Nat} (hr:WOk r i) (h:lineA lb q fr wd s pl r=.ok r'):WOk r' (i+1):=by
 unfold lineA at h
 split at h
 ·cases h
  exact ⟨by have:=hr.w; omega,by have:=hr.s; omega,by have:=hr.y; omega,hr.o⟩
 ·split at h
  ·split at h
   ·cases h
   ·rename_i y hy
    cases h
    obtain ⟨_,_,h3,rfl⟩:=export_ok hy
    exact ⟨by have:=hr.w; show r.1.length≤_; omega,by have:=hr.s; show r.2.1.length≤_; omega,by have:=hr.y; show (insS _ _).length≤_; rw [ins_len]; omega,ins_sorted hr.o h3⟩
  ·split at h
   ·cases h
   ·cases h
    exact putW_ok hr _ _
theorem line_err {lb:List Sym} {q:List Val} {fr wd:Int} {s:Snt} {pl x:Int} {r:WrT} (h:lineA lb q fr wd s pl r=.error x):x≠0:=by
 unfold lineA at h
 split at h
 ·cases h
 ·split at h
  ·split at h
   ·rename_i e he
    cases h
    unfold exportR at he
    split at he
    ·cases he; decide
    ·split at he
     ·cases he; decide
     ·split at he
      ·cases he; decide
      ·cases he
   ·cases h
  ·split at h
   ·rename_i e he
    cases h
    exact word_err he
   ·cases h
section
variable (t:List Int) (lb:List Sym) (q:List Val) (fr wd:Int)
abbrev zV:Val:=((0:Int),((0:Int),()))
theorem drop_v {q:List Val} {i:Nat} (h:i < q.length):q.drop i=q.getD i zV::q.drop (i+1):=by
 rw [List.drop_eq_getElem_cons h,List.getD_eq_getElem?_getD,List.getElem?_eq_getElem h]; rfl
theorem al14 (hq:q.length≤1000000) (n:Nat) (d e:List Int) (y:List Sym):∀ (m i j:Nat) (r:WrT),i≤q.length→q.length - i < m→WOk r j→j+q.length≤1000000+i →
  Zah.l14 n m q (q.length:Int) (i:Int) d e y t lb q fr wd r.1 r.2.1 r.2.2=some (endW (poolW (q.drop i) r)):=by
 intro m
 induction m with
 | zero=>intro i _ _ _ h; omega
 | succ m ih=>
  intro i j r hi hm hr hj
  rw [Zah.l14]
  simp only [dt,Int.toNat_natCast]
  by_cases h:i < q.length
  ·have h1:=hr.w
   have h2:=hr.s
   rw [if_pos (by omega),if_pos (by omega),drop_v h,poolW,aword_eq t lb q fr wd r (by omega) (by omega),Option.bind_some]
   dsimp only
   rw [w64 (by omega),show (i:Int)+1=((i+1:Nat):Int) by omega]
   exact ih (i+1) (j+1) _ (by omega) (by omega) (putW_ok hr _ _) (by omega)
  ·obtain rfl:i=q.length:=by omega
   rw [if_neg (by omega),List.drop_length,poolW]
   unfold endW noObj
   by_cases h6:64 < r.2.2.length
   ·rw [if_pos (by omega),if_pos h6]
   ·rw [if_neg (by omega),if_neg h6]
theorem al7 (l:List Ln) (hl:l.length≤1000) (he:∀ x∈l,(eL x).length≤4611686018427387904) (ht:t.length=l.length) (hlb:lb.length≤1000000) (hq:q.length≤1000) (n:Nat) (hn2:q.length < n) (d e:List Int) (y:List Sym) :
  ∀ (m i:Nat) (r:WrT),i≤l.length→l.length - i < m→WOk r i →
  Zah.l7 n m l (l.length:Int) (i:Int) d e y t lb q fr wd t lb q fr wd r.1 r.2.1 r.2.2=some (match linesW lb q fr wd t (l.drop i) i r with | .error x=>noObj (x.1:Int) x.2 | .ok r=>endW (poolW q r)):=by
 intro m
 induction m with
 | zero=>intro i _ _ h; omega
 | succ m ih=>
  intro i r hi hm hr
  rw [Zah.l7]
  simp only [dt,Int.toNat_natCast]
  by_cases h:i < l.length
  ·have h1:=hr.w
   have h2:=hr.s
   have h3:=hr.y
   rw [if_pos (by omega),if_pos (by omega),if_pos (by omega),drop_ln h,linesW]
   have hx:=he _ (getD_ln h)
   generalize l.getD i zL=x at hx ⊢
   rw [aline_eq t lb q fr wd r (by omega) (by omega) hr.o (by omega) hlb (by omega) x.2.1 hx,Option.bind_some]
   cases hA:lineA lb q fr wd x.2.1 (t.getD i 0) r with
   | error e=>
    refine (if_pos (show (outW t lb q fr wd r (Except.error e)).1≠0 from line_err hA)).trans ?_
    rw [w64 (by omega),show (i:Int)+1=((i+1:Nat):Int) by omega]
    rfl
   | ok r'=>
    refine (if_neg (show ¬ ((outW t lb q fr wd r (Except.ok r')).1≠0) from fun h=>h rfl)).trans ?_
    rw [w64 (by omega),show (i:Int)+1=((i+1:Nat):Int) by omega]
    exact ih (i+1) r' (by omega) (by omega) (line_ok hr hA)
  ·obtain rfl:i=l.length:=by omega
   rw [if_neg (by omega),List.drop_length,linesW]
   have:=al14 t lb q fr wd (by omega) n d e y n 0 l.length r (by omega) (by omega) hr (by omega)
   rw [List.drop_zero] at this
   exact this
end
theorem plan_stands (l:List Ln) (h:(planR l).2.2.2.2.2.2.1=0):(planR l).1.length=l.length∧(planR l).2.1.length≤l.length∧(planR l).2.2.1.length≤l.length ∧
  ∃ r p,placeR l 0 [] [] 0=.ok r∧loadR r.2.1 l 0 []=.ok p∧r.2.2+p.length≤1024∧planR l=(r.1,r.2.1,p,((4 * r.2.2:Nat):Int),((r.2.2+p.length:Nat):Int),0,0,()):=by
 rcases planR_ways l with ⟨x,hx,h0,_⟩ | ⟨r,p,h1,h2,h3⟩
 ·rw [hx] at h; exact absurd h h0
 ·have a:=placeR_len l 0 [] [] 0 h1
  have b:=loadR_len r.2.1 l 0 [] h2
  unfold plEnd at h3
  dsimp only at h3
  by_cases hc:1024 < r.2.2+p.length
  ·rw [if_pos hc] at h3; rw [h3] at h; exact absurd h (by decide)
  ·rw [if_neg hc] at h3
   rw [h3]
   simp only [List.length_nil,Nat.zero_add] at a b
   exact ⟨a.1,a.2.1,b,r,p,h1,h2,by omega,rfl⟩
theorem asm_eq (l:List Ln) (hl:l.length≤1000) (he:∀ x∈l,(eL x).length≤4611686018427387904):Zah.g l=some (asmR l):=by
 unfold Zah.g
 generalize hn:1000+l.length=n
 unfold Zah.f asmR objP
 rw [plan_eq l (by omega) he,Option.bind_some]
 simp only [dt]
 by_cases h:(planR l).2.2.2.2.2.2.1=0
 ·obtain ⟨h1,h2,h3,_⟩:=plan_stands l h
  rw [if_neg (by simpa using h),if_neg (by simpa using h)]
  have:=al7 (planR l).1 (planR l).2.1 (planR l).2.2.1 (planR l).2.2.2.1 (planR l).2.2.2.2.1 l hl he h1 (by omega) (by omega) n (by omega) [] [] [] n 0 ([],[],[]) (by omega) (by omega) ⟨Nat.le_refl _,Nat.le_refl _,Nat.le_refl _,List.Pairwise.nil⟩
  rw [List.drop_zero] at this
  exact this
 ·rw [if_pos (by simpa using h),if_pos (by simpa using h)]; rfl
end Rv
namespace Rv
open Go
theorem shown21:Zbs.g=some (true,()):=by decide +kernel
theorem same05 (a:List Int) (ha:a.length≤1000000):Zax.g a a=some (true,()):=by
 have loop:∀ (n m i:Nat),i≤a.length→a.length - i < m→Zax.l4 n m a a (i:Int)=some (true,()):=by
  intro n m
  induction m with
  | zero=>intro i _ h; omega
  | succ m ih=>
   intro i hi hm
   rw [Zax.l4]
   simp only [dt]
   by_cases h:i < a.length
   ·rw [if_pos (by omega),if_pos (by omega),if_pos (by omega),if_neg (by simp),w64 (by omega)]
    exact ih (i+1) (by omega) (by omega)
   ·rw [if_neg (by omega)]
 unfold Zax.g Zax.f
 rw [if_neg (by simp)]
 exact loop _ _ 0 (by omega) (by omega)
end Rv
namespace Rv
open Go
theorem and_le (x:Int) (m:Nat) (hm:m < 9223372036854775808):0≤bitsI .and .i64 x (m:Int)∧bitsI .and .i64 x (m:Int)≤(m:Int):=by
 have h1:(BitVec.ofInt 64 x &&& BitVec.ofInt 64 (m:Int)).toNat≤m:=by
  rw [BitVec.toNat_and]
  refine Nat.le_trans Nat.and_le_right ?_
  rw [BitVec.toNat_ofInt]; omega
 show 0≤IntKind.i64.wrap (((BitVec.ofInt 64 x &&& BitVec.ofInt 64 (m:Int)).toNat:Nat):Int)∧IntKind.i64.wrap (((BitVec.ofInt 64 x &&& BitVec.ofInt 64 (m:Int)).toNat:Nat):Int)≤(m:Int)
 rw [w64 (by omega)]
 omega
theorem sub_le (x:Int):-65536≤IntKind.i64.wrap (bitsI .and .i64 x 131071 - 65536)∧IntKind.i64.wrap (bitsI .and .i64 x 131071 - 65536)≤65535:=by
 have:=and_le x 131071 (by decide)
 simp only [Int.cast_ofNat_Int] at this
 rw [w64 (by omega)]; omega
theorem sub20 (x:Int):-524288≤IntKind.i64.wrap (bitsI .and .i64 x 1048575 - 524288)∧IntKind.i64.wrap (bitsI .and .i64 x 1048575 - 524288)≤524287:=by
 have:=and_le x 1048575 (by decide)
 simp only [Int.cast_ofNat_Int] at this
 rw [w64 (by omega)]; omega
theorem sub24 (x:Int):-8388608≤IntKind.i64.wrap (bitsI .and .i64 x 16777215 - 8388608)∧IntKind.i64.wrap (bitsI .and .i64 x 16777215 - 8388608)≤8388607:=by
 have:=and_le x 16777215 (by decide)
 simp only [Int.cast_ofNat_Int] at this
 rw [w64 (by omega)]; omega
def goodI (K:Int) (r:Option (Int×Int×Int×Int×Int×Int×Bool×Unit)):Prop:=∃ O A B C I U,r=some (K,O,A,B,C,I,U,())∧GoodI0 K O A B C U∧ImmP K O I U
theorem goodI_mk {a b c d e f:Int} {g:Bool} (h:GoodI0 a b c d e g) (hi:ImmP a b f g):goodI a (some (a,b,c,d,e,f,g,())):=⟨_,_,_,_,_,_,rfl,h,hi⟩
theorem j10_i (n:Nat) (op a0 a1 a2 a3 a4 a5:Int) (a6:Bool) (b0 b1 b2 b3 b4 b5:Int) (b6:Bool) (k c d:Int) (u:Bool) (hk:k=1∨k=2) (ho:0≤op∧op < 12) (hu:u=true→8≤op∧op≤10) (hc:rg c) (hd:rg d) (h0:op=0→d=0) :
  goodI k (Zac.j10 n op a0 a1 a2 a3 a4 a5 a6 b0 b1 b2 b3 b4 b5 b6 k op c d 0 0 u):=by
 unfold Zac.j10
 by_cases e1:k=1
 ·rw [if_pos (by simp [e1])]
  subst e1
  by_cases e2:op=0
  ·subst e2
   obtain rfl:=h0 rfl
   have:u=false:=by cases u; rfl; exact absurd (hu rfl).1 (by decide)
   subst this
   exact goodI_mk (.mov hc (and15_rg _)) (.inr (.inr (.inr ⟨by decide,by decide,by decide,rfl⟩)))
  ·exact goodI_mk (.reg (by omega) ho.2 hc hd (and15_rg _) hu) (.inr (.inr (.inr ⟨by decide,by decide,by decide,rfl⟩)))
 ·obtain rfl:k=2:=by omega
  rw [if_neg (by decide)]
  by_cases e2:op=0
  ·subst e2
   obtain rfl:=h0 rfl
   have:u=false:=by cases u; rfl; exact absurd (hu rfl).1 (by decide)
   subst this
   rw [if_pos (by decide)]
   unfold Zac.j25
   split
   ·have:=and_le a5 65535 (by decide)
    simp only [Int.cast_ofNat_Int] at this
    exact goodI_mk (.movi hc) (.inl ⟨rfl,by omega,by omega,fun _ _=>this.1⟩)
   ·have:=sub_le a5
    exact goodI_mk (.movi hc) (.inl ⟨rfl,this.1,this.2,fun _ h=>by cases h⟩)
  ·rw [if_neg (by simp [e2])]
   have:=sub_le a5
   exact goodI_mk (.imm (by omega) ho.2 hc hd hu) (.inl ⟨rfl,this.1,this.2,fun h=>absurd h e2⟩)
theorem j7_i (n:Nat) (op a0 a1 a2 a3 a4 a5:Int) (a6:Bool) (b0 b1 b2 b3 b4 b5:Int) (b6:Bool) (k c:Int) (hk:k=1∨k=2) (ho:0≤op∧op < 12) (hc:rg c) :
  goodI k (Zac.j7 n op a0 a1 a2 a3 a4 a5 a6 b0 b1 b2 b3 b4 b5 b6 k op c 0 0 0 false):=by
 have h9:∀ d,rg d→(op=0→d=0)→goodI k (Zac.j9 n op a0 a1 a2 a3 a4 a5 a6 b0 b1 b2 b3 b4 b5 b6 k op c d 0 0 false):=by
  intro d hd h0
  unfold Zac.j9
  by_cases e1:a6=true
  ·rw [if_pos e1]
   by_cases e2:(8:Int)≤op
   ·rw [if_pos (by simpa using e2)]
    exact j10_i _ _ _ _ _ _ _ _ _ _ _ _ _ _ _ _ _ _ _ _ hk ho (fun h=>⟨e2,by simpa using h⟩) hc hd h0
   ·rw [if_neg (by simpa using e2)]
    exact j10_i _ _ _ _ _ _ _ _ _ _ _ _ _ _ _ _ _ _ _ _ hk ho (fun h=>by cases h) hc hd h0
  ·rw [if_neg e1]
   exact j10_i _ _ _ _ _ _ _ _ _ _ _ _ _ _ _ _ _ _ _ _ hk ho (fun h=>by cases h) hc hd h0
 unfold Zac.j7
 by_cases e:op=0
 ·rw [if_neg (by simp [e])]; exact h9 0 ⟨by decide,by decide⟩ fun _=>rfl
 ·rw [if_pos (by simp [e])]; exact h9 _ (and15_rg _) fun h=>absurd h e
theorem fit03_i (i0 i1 i2 i3 i4 i5:Int) (u:Bool):goodI (1+Int.tmod (Int.tmod i0 7+7) 7) (Zac.g i0 i1 i2 i3 i4 i5 u):=by
 unfold Zac.g
 generalize 1000+i0.toNat+i1.toNat+i2.toNat+i3.toNat+i4.toNat+i5.toNat=n
 unfold Zac.f
 have t1:=tmodB i0 (m:=7) (by decide)
 have t2:=tmodB i1 (m:=12) (by decide)
 have e1:IntKind.i64.wrap (Int.tmod i0 7+7)=Int.tmod i0 7+7:=w64 (by omega)
 have e2:IntKind.i64.wrap (Int.tmod i1 12+12)=Int.tmod i1 12+12:=w64 (by omega)
 rw [e1,e2]
 have t3:=tmodB (Int.tmod i0 7+7) (m:=7) (by decide)
 have t4:=tmodB (Int.tmod i1 12+12) (m:=12) (by decide)
 have t5:0≤Int.tmod (Int.tmod i0 7+7) 7:=Int.tmod_nonneg _ (by omega)
 have t6:0≤Int.tmod (Int.tmod i1 12+12) 12:=Int.tmod_nonneg _ (by omega)
 generalize Int.tmod (Int.tmod i0 7+7) 7=q at *
 generalize Int.tmod (Int.tmod i1 12+12) 12=op at *
 have e3:IntKind.i64.wrap (1+q)=1+q:=w64 (by omega)
 rw [e3]
 clear e1 e2 e3 t1 t2
 generalize hk:1+q=k
 simp only [dt]
 have hop:0≤op∧op < 12:=⟨t6,t4.2⟩
 have m3:=and3_rg i1
 by_cases k1:k=1
 ·rw [if_pos k1,if_pos k1]; exact j7_i _ _ _ _ _ _ _ _ _ _ _ _ _ _ _ _ _ _ (Or.inl k1) hop (and15_rg _)
 ·rw [if_neg k1]
  by_cases k2:k=2
  ·rw [if_pos k2]; exact j7_i _ _ _ _ _ _ _ _ _ _ _ _ _ _ _ _ _ _ (Or.inr k2) hop (and15_rg _)
  ·rw [if_neg k2]
   by_cases k5:k=5
   ·rw [if_pos k5,k5]; exact goodI_mk (.mem m3.1 m3.2 (and15_rg _) (and15_rg _)) (.inr (.inl ⟨rfl,(sub20 _).1,(sub20 _).2⟩))
   ·rw [if_neg k5]
    by_cases k6:k=6
    ·rw [if_pos k6,k6]; exact goodI_mk (.br (and15_rg _) (and15_rg _)) (.inr (.inr (.inr ⟨by decide,by decide,by decide,rfl⟩)))
    ·rw [if_neg k6]
     by_cases k7:k=7
     ·rw [if_pos k7,k7]; exact goodI_mk (.jmp (and15_rg _)) (.inr (.inr (.inl ⟨rfl,(sub24 _).1,(sub24 _).2⟩)))
     ·rw [if_neg k7]
      have:k=3∨k=4:=by omega
      rcases this with rfl | rfl
      ·exact goodI_mk (.hi (and15_rg _)) (.inr (.inr (.inr ⟨by decide,by decide,by decide,rfl⟩)))
      ·exact goodI_mk (.fl (and15_rg _)) (.inr (.inr (.inr ⟨by decide,by decide,by decide,rfl⟩)))
end Rv
namespace Rv
open Go
abbrev here:Str:=[104,101,114,101]
theorem one_line {s:Snt} {w:Int} (h8:s.1≠8) (h0:s.1≠0) (h10:s.1≠10) (hw:wordR [(here,0,())] [] 4 1 s 0=.ok (w,false)):asmR [(here,s,())]=([w],[],[],0,0,()):=by
 have hp:planR [(here,s,())]=([0],[(here,0,())],[],4,1,0,0,()):=by
  unfold planR
  simp [placeR,plFin,loadR,h8,sizeN,h0,h10,findR,plEnd]
 unfold asmR objP
 rw [hp]
 dsimp only
 rw [if_neg (by decide),linesW]
 unfold lineA
 dsimp only
 rw [if_neg h0,if_neg h10,show ([0]:List Int).getD 0 0=0 from rfl,hw]
 rfl
theorem enc_good {k o a b c i:Int} {u:Bool} (h:GoodI0 k o a b c u) (hi:ImmP k o i u):encX k o a b c i u=.ok ((encV k o a b c i u).1,false)∧(encV k o a b c i u).2.1=0:=by
 have e:(encV k o a b c i u).2.1=0:=by
  unfold encV
  rw [if_pos ((good_iff k o a b c i u).1 ⟨h,hi⟩)]
 refine ⟨?_,e⟩
 unfold encX
 rw [if_pos e]
theorem back32 {i:Int} (h:-2147483648≤i∧i≤2147483647):IntKind.i64.wrap (IntKind.i32.wrap (IntKind.u32.wrap i))=i:=by
 rw [IntKind.wrap_u32,IntKind.wrap_i32,IntKind.wrap_i64]; omega
theorem num_one (lb:List Sym) {i low:Int} (h:-2147483648≤i∧i≤2147483647) (h1:low≤i) {high:Int} (h2:i≤high):numV lb [((1:Int),IntKind.u32.wrap i,([]:Str),())] low high=(i,0,()):=by
 unfold numV
 have e:vOf lb [((1:Int),IntKind.u32.wrap i,([]:Str),())]=(IntKind.u32.wrap i,0,0,()):=rfl
 rw [e]
 dsimp only
 rw [if_neg (by decide),if_neg (by decide)]
 unfold numR
 rw [back32 h,if_pos ⟨h1,h2⟩]
theorem far_one {i:Int} (h:-8388608≤i∧i≤8388607):farV (IntKind.u32.wrap (0+IntKind.u32.wrap (IntKind.i64.wrap (IntKind.i64.wrap (4 * i)+4)))) 1 0=(i,0,()):=by
 have hd:farD (IntKind.u32.wrap (0+IntKind.u32.wrap (IntKind.i64.wrap (IntKind.i64.wrap (4 * i)+4)))) 0=4 * i:=by
  unfold farD
  rw [w64 (x:=4 * i) (by omega),w64 (x:=4 * i+4) (by omega)]
  simp only [IntKind.wrap_u32,IntKind.wrap_i32,IntKind.wrap_i64]
  omega
 have hm:Int.tmod (4 * i) 4=0:=by rw [Int.mul_tmod_right]
 have hq:Int.tdiv (4 * i) 4=i:=Int.mul_tdiv_cancel_left i (by decide)
 unfold farV
 rw [hd,hm,hq,w64 (by omega),if_neg (by decide),if_neg (by omega)]
theorem ainstr_law (a b c d e i:Int) (j:Bool):rivetlaw21_AsmInstr.g a b c d e i j=some (true,()):=by
 unfold rivetlaw21_AsmInstr.g
 generalize 1000+a.toNat+b.toNat+c.toNat+d.toNat+e.toNat+i.toNat=n
 unfold rivetlaw21_AsmInstr.f
 obtain ⟨O,A,B,C,I,U,hf,hg,hi⟩:=fit03_i a b c d e i j
 generalize 1+Int.tmod (Int.tmod a 7+7) 7=K at *
 rw [shown21,Option.bind_some,hf,Option.bind_some]
 simp only [dt,df]
 obtain ⟨g1,g2⟩:=enc_good hg hi
 have hk:K≠8∧K≠0∧K≠10:=by have:=i0_range hg; omega
 have J8:∀ ex:List Item,ex.length≤100→wordR [(here,0,())] [] 4 1 (K,O,A,B,C,U,ex,[],()) 0=.ok ((encV K O A B C I U).1,false)→rivetlaw21_AsmInstr.j8 (some (true,())) Zah.g n true K O A B C I U K O A B C U ex []=some (true,()):=by
  intro ex hex hw
  unfold rivetlaw21_AsmInstr.j8
  rw [ienc_eq,Option.bind_some,asm_eq _ (by simp) (fun x hx=>by rw [List.mem_singleton.1 hx]; show ex.length≤_; omega),Option.bind_some,one_line hk.1 hk.2.1 hk.2.2 hw]
  dsimp only
  rw [if_pos rfl,if_pos (by simp [g2]),if_pos (by simp),if_pos (by simp),same05 _ (by simp),Option.bind_some]
 have J6:K≠7→∀ ex:List Item,ex.length≤100→wordR [(here,0,())] [] 4 1 (K,O,A,B,C,U,ex,[],()) 0=.ok ((encV K O A B C I U).1,false)→rivetlaw21_AsmInstr.j6 (some (true,())) Zah.g n true K O A B C I U K O A B C U ex []=some (true,()):=by
  intro h7 ex hex hw
  unfold rivetlaw21_AsmInstr.j6
  rw [if_neg (by simpa using h7)]
  exact J8 ex hex hw
 have encE_ok:∀ x,x=(I,0,())→encE K O A B C x U=.ok ((encV K O A B C I U).1,false):=fun x hx=>by
  subst hx
  unfold encE
  rw [if_neg (fun h=>h rfl)]
  exact g1
 unfold ImmP at hi
 by_cases k2:K=2
 ·rw [if_neg (by simpa using k2)]
  refine J6 (by omega) _ (by simp) ?_
  unfold wordR
  dsimp only
  rw [if_pos k2]
  refine encE_ok _ (num_one _ (by omega) ?_ (by omega))
  by_cases hu:O=0∧U=true
  ·rw [if_pos hu]
   rcases hi with ⟨_,_,_,h⟩ | h | h | h
   ·exact h hu.1 hu.2
   all_goals omega
  ·rw [if_neg hu]; omega
 ·rw [if_pos (by simpa using k2)]
  by_cases k5:K=5
  ·rw [if_pos k5]
   refine J6 (by omega) _ (by simp) ?_
   unfold wordR
   dsimp only
   rw [if_neg k2,if_pos k5]
   exact encE_ok _ (num_one _ (by omega) (by omega) (by omega))
  ·rw [if_neg k5]
   by_cases k7:K=7
   ·unfold rivetlaw21_AsmInstr.j6
    rw [if_pos (by simpa using k7)]
    refine J8 _ (by simp) ?_
    have ev:vOf [(here,0,())] [((2:Int),0,([104,101,114,101]:Str),()),((1:Int),(IntKind.u32.wrap (IntKind.i64.wrap ((IntKind.i64.wrap ((4:Int) * I))+(4:Int)))),([]:Str),()),((4:Int),0,([]:Str),())]=(IntKind.u32.wrap (0+IntKind.u32.wrap (IntKind.i64.wrap ((IntKind.i64.wrap ((4:Int) * I))+(4:Int)))),1,0,()):=rfl
    unfold wordR
    dsimp only
    rw [if_neg k2,if_neg k5,if_pos k7,ev]
    dsimp only
    rw [if_neg (by decide)]
    exact encE_ok _ (far_one (by omega))
   ·refine J6 k7 _ (by simp) ?_
    have h0:I=0:=by omega
    unfold wordR
    dsimp only
    rw [if_neg k2,if_neg k5,if_neg k7,if_neg hk.1,if_neg (by have:=i0_range hg; omega)]
    rw [h0] at g1 ⊢
    exact g1
end Rv
