/- Texts put together. -/
import Derived.Test.YtfphlcngbllgoaaGreatDoorS5
import Derived.Test.YtfphlcngbllgoaaGreatDoorS6
import Derived.Test.YtfphlcngbllgoaaGreatDoorS1
import Derived.Test.YtfphlcngbllgoaaGreatDoorProg
import Derived.Shelf.RegionOpenPlain
import Derived.WalkKit
import Derived.Lib.Walk
import Derived.Lib.SliceRun
import Derived.Lib.BufferWrite
import Derived.OwnWalk
import Derived.Shelf.Spec.SlicesInsert
set_option linter.all false
namespace Rv
open Go Go.RowKit
abbrev nV(k:IntKind)(x:Int):Value:=.int k x
theorem Ox{w:World}{ok:Nat->Prop}{k:IntKind}{xs:List Int}{cur:List Value}(h:cur.take xs.length=xs.map (nV k)):bq w ok (.int k) xs cur:=by
 intro j x hj;have hl:j<xs.length:=(UI.1 hj).1;have hx:xs[j]=x:=(UI.1 hj).2;show(cur.drop (j*1)).take 1=[nV k x]
 have h1:(cur.drop (j*1)).take 1=((cur.take xs.length).drop j).take 1:=by
  rw[List.drop_take,List.take_take,Nat.min_eq_left (by omega),Nat.mul_one]
 rw[h1,h,<- List.map_drop,UX hl,hx];rfl
def jL(w0 w':World)(e:TypeId)(k:IntKind)(xs:List Int)(v:Value)(γ:Option (Nat×Nat)):Prop:=
 d9 γ xs.length v/\((γ=none/\xs=[])\/∃g c cur,γ=some (g,c)/\w0.heap.size<=g/\w'.heap[g]?=some (.cells cur e (0,0))/\xs.length<=c/\c<=maxLen/\cur.size=c*1/\cur.toList.take xs.length=xs.map (nV k))
theorem jL.of{w0 w':World}{e:TypeId}{k:IntKind}{xs:List Int}{v:Value}(h:w'.ownsRow w0.heap.size e 1 v xs.length (xs.map (nV k))):∃γ,jL w0 w' e k xs v γ:=by
 rcases h.2 with⟨h1,h2⟩|⟨g,cap,cur,h1,h2,h3,h4,h5,h6,h7⟩;·exact⟨none,⟨h2,h1⟩,.inl ⟨rfl,List.eq_nil_of_length_eq_zero h2⟩⟩
 ·exact⟨some (g,cap),h1,.inr ⟨g,cap,cur,rfl,h2,h3,h4,h5,h6,by rwa [Nat.mul_one] at h7⟩⟩
theorem jL.nil(w0 w':World)(e:TypeId)(k:IntKind):jL w0 w' e k [] (.slice none 0 0) none:=⟨⟨rfl,rfl⟩,.inl ⟨rfl,rfl⟩⟩
theorem jL.one{w0 w':World}{e:TypeId}{k:IntKind}{xs:List Int}{v:Value}{γ:Option (Nat×Nat)}(h:jL w0 w' e k xs v γ):v.oneCell'=true:=by
 have:=h.1;cases γ with
 |none=>rw[this.2];rfl
 |some p=>rw[show v=_ from this];rfl
section
variable{C:Ctx}{γ0:Gam}{h0:Heap}{w':World}
theorem Q3(I:Inv C γ0 h0 C.w0)(hn:C.nl=0)(hb:Below C.w0.heap.size C.w0 w'){γ:Gam}{h:Heap}
  (hh:∀j e,h j=some e->∃ek k xs v,e=⟨0,0,.row ek (.int k) xs⟩/\jL C.w0 w' ek k xs v (γ j)) (hi:∀a b g c d,(h a).isSome=true->(h b).isSome=true->γ a=some (g,c)->γ b=some (g,d)->a=b):Inv C γ h w':=by
 have hfr:∀g,g<C.w0.heap.size->w'.heap[g]?=C.w0.heap[g]?:=fun g hg=>hb.block g hg
 exact {
  box:=fun j e hj=>by
   obtain⟨ek,k,xs,v,rfl,_,hx⟩:=hh j e hj;rcases hx with⟨h1,h2⟩|⟨g,c,cur,h1,h2,h3,h4,h5,h6,h7⟩;·exact .inl ⟨h1,h2⟩
   ·exact .inr ⟨g,c,cur,h1,h3,h4,h5,h6,Nat.zero_lt_one,Ox h7⟩
  inj:=fun a b e e' g c d ha _ hb' _ h1 h2=>hi a b g c d (by rw[ha];rfl) (by rw[hb'];rfl) h1 h2
  own:=fun a e g c ha _ hγ=>by
   obtain⟨ek,k,xs,v,rfl,_,hx⟩:=hh a e ha;rcases hx with⟨h1,h2⟩|⟨g',c',cur,h1,h2,_⟩;·rw[h1] at hγ;cases hγ
   ·rw[h1] at hγ;cases hγ;exact I.new g h2
  frame:=fun g hg _=>hfr g hg
  size:=hb.size
  os:=hb.os
  tape:=hb.tape
  output:=hb.output
  new:=I.new
  rd:=I.rd
  laid:=I.stable C.w0 w' I.laid fun g hno=>by
   by_cases hlt:g<C.w0.heap.size;·exact hfr g hlt
   ·exact absurd (I.new g (by omega)) hno
  stable:=I.stable
  lent:=fun j hj=>by omega }
theorem EU(I:Inv C γ0 h0 C.w0)(hn:C.nl=0)(hb:Below C.w0.heap.size C.w0 w'){ek:TypeId}{k:IntKind}{xs:List Int}{y:Int}{v:Value}{γ:Option (Nat×Nat)}(h:jL C.w0 w' ek k xs v γ) :
  ∃(γ':Gam) (rs:Array Value),Ending.returned (.tuple #[v,.int .i64 y])=.returned (if h:rs.size=1 then rs[0] else .tuple rs)/\Rel C γ' w' ((⟨[(0,.c (.row ek (.int k))),(1,Si)],[]⟩:Shape).mk' nmJ 2 (xs,y,())) rs:=by
 refine⟨fun j=>if j=15 then γ else none,#[v,.int .i64 y],rfl,rfl,?_,?_⟩
 ·intro j u hj
  match j,hj with
  |0,hj=>
   obtain rfl:=Ux hj;exact⟨h.one,_,rfl,Uz _,fun _ n hn=>by
    have hn:some xs.length=some n:=hn;obtain rfl:=Ux hn;exact h.1⟩
  |1,hj=>obtain rfl:=Ux hj;exact rfl
  |j+2,hj=>cases hj
 ·refine Q3 I hn hb (fun j e hj=>?_) (fun a b g c d ha hb' h1 h2=>?_)
  ·have hj:(if j=15 then some (⟨0,0,.row ek (.int k) xs⟩:En) else none)=some e:=hj;split at hj
   ·rename_i hj';subst hj';exact⟨ek,k,xs,v,(Ux hj).symm,h⟩
   ·cases hj
  ·split at h1
   ·split at h2
    ·omega
    ·cases h2
   ·cases h1
end
end Rv
namespace Rv
open Go Go.RowKit Go.Proofs Go.Lib
noncomputable section
set_option maxRecDepth 1000000
noncomputable abbrev QP:Program:=Tryz.prog
section
variable{L:World->Prop}{nm:List UInt8->Option (Bool×Unit)}(hs:Sat QP L 68 (af ⟨[(0,Ss)],[]⟩ ⟨[(0,SB)],[]⟩ nm)){s:List UInt8}{w:World}(hL:L w)(hst:fH L w.heap.size)
end
end
end Rv
