/- Texts put together. -/
import Derived.Test.YtfphlcngbllgoaaGreatDoorB6
set_option linter.all false
open Option renaming some→J,none→U
open _root_ renaming Int→O,List→X,Nat→Y,Option→zac
open Go renaming World→S,Value→zaa,TypeId→zab
namespace Rv
open Go Go.RowKit
abbrev nV(k:IntKind)(x:O):zaa:=.int k x
theorem O3{w:S}{ok:Y->Prop}{k:IntKind}{xs:X O}{cur:X zaa}(h:cur.take xs.length=xs.map (nV k)):bq w ok (.int k) xs cur:=by
 intro j x hj;have hl:j<xs.length:=(Vi.1 hj).1;have hx:xs[j]=x:=(Vi.1 hj).2;show(cur.drop (j*1)).take 1=[nV k x]
 have h1:(cur.drop (j*1)).take 1=((cur.take xs.length).drop j).take 1:=by
  rw[List.drop_take,List.take_take,Nat.min_eq_left (by omega),Nat.mul_one]
 rw[h1,h,<- List.map_drop,Vs hl,hx];rfl
def iF(w0 w':S)(e:zab)(k:IntKind)(xs:X O)(v:zaa)(γ:zac (Y×Y)):Prop:=
 eB γ xs.length v/\((γ=U/\xs=[])\/∃g c cur,γ=J (g,c)/\w0.heap.size<=g/\w'.heap[g]?=J (.cells cur e (0,0))/\xs.length<=c/\c<=maxLen/\cur.size=c*1/\cur.toList.take xs.length=xs.map (nV k))
theorem iF.of{w0 w':S}{e:zab}{k:IntKind}{xs:X O}{v:zaa}(h:w'.ownsRow w0.heap.size e 1 v xs.length (xs.map (nV k))):∃γ,iF w0 w' e k xs v γ:=by
 rcases h.2 with⟨h1,h2⟩|⟨g,cap,cur,h1,h2,h3,h4,h5,h6,h7⟩;·exact⟨U,⟨h2,h1⟩,.inl ⟨rfl,List.eq_nil_of_length_eq_zero h2⟩⟩
 ·exact⟨J (g,cap),h1,.inr ⟨g,cap,cur,rfl,h2,h3,h4,h5,h6,by rwa [Nat.mul_one] at h7⟩⟩
theorem iF.nil(w0 w':S)(e:zab)(k:IntKind):iF w0 w' e k [] (.slice U 0 0) U:=⟨⟨rfl,rfl⟩,.inl ⟨rfl,rfl⟩⟩
theorem iF.one{w0 w':S}{e:zab}{k:IntKind}{xs:X O}{v:zaa}{γ:zac (Y×Y)}(h:iF w0 w' e k xs v γ):v.oneCell'=true:=by
 have:=h.1;cases γ with
 |none=>rw[this.2];rfl
 |some p=>rw[show v=_ from this];rfl
section
variable{C:Ctx}{γ0:Gam}{h0:Heap}{w':S}
theorem Ry(I:Inv C γ0 h0 C.w0)(hn:C.nl=0)(hb:Below C.w0.heap.size C.w0 w'){γ:Gam}{h:Heap}
  (hh:∀j e,h j=J e->∃ek k xs v,e=⟨0,0,.row ek (.int k) xs⟩/\iF C.w0 w' ek k xs v (γ j)) (hi:∀a b g c d,(h a).isSome=true->(h b).isSome=true->γ a=J (g,c)->γ b=J (g,d)->a=b):Inv C γ h w':=by
 have hfr:∀g,g<C.w0.heap.size->w'.heap[g]?=C.w0.heap[g]?:=λg hg=>hb.block g hg
 exact {
  box:=λj e hj=>by
   obtain⟨ek,k,xs,v,rfl,_,hx⟩:=hh j e hj;rcases hx with⟨h1,h2⟩|⟨g,c,cur,h1,h2,h3,h4,h5,h6,h7⟩;·exact .inl ⟨h1,h2⟩
   ·exact .inr ⟨g,c,cur,h1,h3,h4,h5,h6,Nat.zero_lt_one,O3 h7⟩
  inj:=λa b e e' g c d ha _ hb' _ h1 h2=>hi a b g c d (by rw[ha];rfl) (by rw[hb'];rfl) h1 h2
  own:=λa e g c ha _ hγ=>by
   obtain⟨ek,k,xs,v,rfl,_,hx⟩:=hh a e ha;rcases hx with⟨h1,h2⟩|⟨g',c',cur,h1,h2,_⟩;·rw[h1] at hγ;cases hγ
   ·rw[h1] at hγ;cases hγ;exact I.new g h2
  frame:=λg hg _=>hfr g hg
  size:=hb.size
  os:=hb.os
  tape:=hb.tape
  output:=hb.output
  new:=I.new
  rd:=I.rd
  laid:=I.stable C.w0 w' I.laid λg hno=>by
   by_cases hlt:g<C.w0.heap.size;·exact hfr g hlt
   ·exact absurd (I.new g (by omega)) hno
  stable:=I.stable
  lent:=λj hj=>by omega }
theorem sI(I:Inv C γ0 h0 C.w0)(hn:C.nl=0)(hb:Below C.w0.heap.size C.w0 w'){ek:zab}{k:IntKind}{xs:X O}{y:O}{v:zaa}{γ:zac (Y×Y)}(h:iF C.w0 w' ek k xs v γ) :
  ∃(γ':Gam) (rs:Array zaa),Ending.returned (.tuple #[v,.int .i64 y])=.returned (if h:rs.size=1 then rs[0] else .tuple rs)/\Rel C γ' w' ((⟨[(0,.c (.row ek (.int k))),(1,Si)],[]⟩:Shape).mk' nmJ 2 (xs,y,())) rs:=by
 refine⟨λj=>if j=15 then γ else U,#[v,.int .i64 y],rfl,rfl,?_,?_⟩
 ·intro j u hj
  match j,hj with
  |0,hj=>
   obtain rfl:=U6 hj;exact⟨h.one,_,rfl,U7 _,λ_ n hn=>by
    have hn:J xs.length=J n:=hn;obtain rfl:=U6 hn;exact h.1⟩
  |1,hj=>obtain rfl:=U6 hj;exact rfl
  |j+2,hj=>cases hj
 ·refine Ry I hn hb (λj e hj=>?_) (λa b g c d ha hb' h1 h2=>?_)
  ·have hj:(if j=15 then J (⟨0,0,.row ek (.int k) xs⟩:En) else U)=J e:=hj;split at hj
   ·rename_i hj';subst hj';exact⟨ek,k,xs,v,(U6 hj).symm,h⟩
   ·cases hj
  ·split at h1
   ·split at h2
    ·omega
    ·cases h2
   ·cases h1
end
end Rv
namespace Rv
open Go Go.RowKit Go.Proofs Go.Lib
noncomputable section
set_option maxRecDepth 1000000
noncomputable abbrev QP:Program:=Tryz.prog
abbrev QSL:zab:=42
abbrev QEL:zab:=5
theorem Gr(n:Y)(hn:n<=1000)(w:S):Calls QP 110 #[.int .i64 n] w λe w'=>e=.returned (.int .i64 (((n+4) / 4*4:Y):O))/\w'=w:=by
 go_enter Tryz.func110,Tryz.ntmps110
 go_wp2
 go_ret
 refine⟨?_,rfl⟩;show Ending.returned (Value.int .i64 ((1+(n:O)+4-1) / 4*4))=_;congr 2;omega
theorem TE:∃i,QP.info? QEL=J i/\i.zero=J (.int .u8 0)/\i.size=1/\i.bytes=1:=by
 obtain⟨i,h1,h2,h3,h4⟩:=info_parts (show(QP.info? QEL).map (λi=>(i.zero,i.size,i.bytes))=J (J (.int .u8 0),1,1) by kernel_rfl);exact⟨i,h1,h2,h3,h4⟩
theorem OI{w:S}{g p:Y}{base:Y}(h:w.ownsRow base QEL 1 (.slice (J ⟨g,0,U⟩) p p) p (madeCells (Value.int .u8 0).cells (p*1)).toList) :
  ∃cur:Array zaa,w.heap[g]?=J (.cells cur QEL (0,0))/\cur.toList=List.replicate p (.int .u8 0):=by
 rcases h.2 with⟨h1,_⟩|⟨g',cap,cur,h1,h2,h3,h4,h5,h6,h7⟩;·cases h1
 ·cases h1;refine⟨cur,h3,?_⟩;rw[List.take_of_length_le (by rw[Array.length_toList];omega)] at h7;rw[h7];simp only[madeCells,Nat.mul_one,Array.toList_map,Array.toList_range];apply List.ext_getElem
  ·simp
  ·intro j h1 h2;simp only[List.getElem_map,List.getElem_range,List.getElem_replicate];have hj:j % (Value.int .u8 0).cells.size=0:=Nat.mod_one j;rw[hj];rfl
section
variable{L:S->Prop}{nm:X UInt8->zac (Bool×Unit)}(hs:Sat QP L 68 (af ⟨[(0,Ss)],[]⟩ ⟨[(0,SB)],[]⟩ nm)){s:X UInt8}{w:S}(hL:L w)(hst:dX L w.heap.size)
include hs hL hst in
theorem TD(hg:nm s=J (false,())):Calls QP 61 #[.string (mkS s)] w λe w'=>e=.returned (.tuple #[.slice U 0 0,.int .i64 9])/\Below w.heap.size w w':=by
 have hN:=yM hs hg hL hst
 go_enter Tryz.func61,Tryz.ntmps61
 go_wp2_with (go_at_call 68;refine hN.mono ?_;rintro e w1 ⟨rfl,hb⟩)
 go_ret2
 exact⟨rfl,hb⟩
include hs hL hst in
theorem RY(hg:nm s=J (true,()))(hl:s.length<=200):Calls QP 61 #[.string (mkS s)] w λe w'=>∃v,e=.returned (.tuple #[v,.int .i64 0])/\Below w.heap.size w w' /\
  w'.ownsRow w.heap.size QEL 1 v ((s.length+4) / 4*4) ((.int .u8 s.length::byteCells s++List.replicate ((s.length+4) / 4*4-1-s.length) (.int .u8 0))):=by
 have hN:=yM hs hg hL hst;obtain⟨i0,hi,hz0,hz1,hz2⟩:=TE;obtain⟨p,hp⟩:∃p,p=(s.length+4) / 4*4:=⟨_,rfl⟩
 have hP:∀W,Calls QP 110 #[.int .i64 s.length] W λe w'=>e=.returned (.int .i64 (p:O))/\w'=W:=λW=>by rw[hp];exact Gr s.length (by omega) W
 have hp1:s.length+1<=p:=by omega
 have hp2:p<=300:=by omega
 have hp3:¬p=1:=by omega
 have hp4:¬1=p:=by omega
 have hm:(mkS s).size=s.length:=og s;rw[<- hp];clear hp;obtain⟨v0,hv0⟩:∃v0:zaa,v0=.int .u8 (s.length:O):=⟨_,rfl⟩
 have hsize:(QP.info? QEL).map (·.size)=J 1:=by rw[hi];simp[hz1]
 have hW4:∀(W:S) (g:Y) (cur:Array zaa),W.heap[g]?=J (.cells cur QEL (0,0))->(W.setCell ⟨g,0,U⟩ v0).heap[g]?=J (.cells (cur.setIfInBounds 0 v0) QEL (0,0)):=λW g cur h=>by simp[World.setCell,Array.getElem?_modify,h]
 go_enter Tryz.func61,Tryz.ntmps61
 go_wp2_with (first
  |(go_at_call 68;refine hN.mono ?_;rintro e w1 ⟨rfl,hb⟩)
  |(go_at_call 110;refine(hP _).mono ?_;rintro e w2 ⟨rfl,rfl⟩)
  |(at_make;refine wpList_make_full _ rfl _ _ QSL rfl w2.heap.size QEL i0 (.int .u8 0) 1 Tryz.underlying42 hi hz0 hz1 .i64 .i64 _ _ p rfl rfl rfl rfl (by rw[hz2];omega) (by unfold maxLen;omega) (U7 _) ?_;intro w3 hown hgrow;obtain⟨cur,hg3,hcur⟩:=OI hown;have hsz:cur.size=p:=(by rw[<- Array.length_toList,hcur,VQ]);have hcell:w3.cell? ⟨w2.heap.size,0,U⟩=J (.int .u8 0):=(by rw[cell_of_row w3 _ _ cur QEL (0,0) hg3,<- Array.getElem?_toList,hcur,List.getElem?_replicate,if_pos (by omega)]);have hfz:w3.frozen? ⟨w2.heap.size,0,U⟩=false:=(by simp[World.frozen?,hg3]);have hcp:=λty=>run_copy_row_string (P:=QP) (w3.setCell ⟨w2.heap.size,0,U⟩ v0) QSL 9 ty QEL w2.heap.size 1 (p-1) (p-1) (mkS s) (cur.setIfInBounds 0 v0) QEL Tryz.underlying42 hsize (hW4 _ _ _ hg3) (by rw[hm];omega) (by rw[hm,Array.size_setIfInBounds];omega);rw[hv0] at hcp)
  |(refine wpList_copy_runI _ rfl _ _ QSL 9 rfl _ _ rfl rfl (hcp _) ?_))
 go_ret2
 have hgl:w.heap.size<=w2.heap.size:=hb.size;have hd:(mkS s).data.toList=s:=by simp[mkS]
 have hl2:(byteCells s).length=s.length:=byteCells_length s;have hrows:List.take 1 ((List.replicate p (Value.int .u8 0)).set 0 (Value.int .u8 (s.length:O)))++(byteCells (mkS s).data.toList++List.drop (1+s.length) ((List.replicate p (Value.int .u8 0)).set 0 (Value.int .u8 (s.length:O)))) =
   Value.int .u8 (s.length:O)::(byteCells s++List.replicate (p-1-s.length) (Value.int .u8 0)):=by
  obtain⟨q,rfl⟩:∃q,p=q+1:=⟨p-1,by omega⟩
  rw[hd,List.replicate_succ,List.set_cons_zero,Nat.add_comm 1,List.drop_succ_cons,List.drop_replicate];rfl
 refine⟨_,rfl,?_,?_⟩;·refine((hb.grown hgrow hgl (λk hk=>by cases hk)).setCell (p:=⟨w2.heap.size,0,U⟩) hgl _).trans ⟨rfl,rfl,rfl,by simp[World.setRow],λk hk=>setRow_other _ _ _ _ (by omega)⟩
 ·have hW:=hW4 _ _ _ hg3;rw[hv0] at hW;refine⟨by simp only[Vn,Vb,hl2,VQ];omega,.inr ⟨w2.heap.size,p,_,rfl,hgl,setRow_heap _ _ _ _ _ _ hW,U7 _,by unfold maxLen;omega,?_,?_⟩⟩
  ·rw[hrows,List.size_toArray];simp only[Vn,Vb,hl2,VQ];omega
  ·rw[hrows];exact List.take_of_length_le (by simp only[Vn,Vb,hl2,VQ];omega)
end
theorem NB(s:X UInt8):Lib.byteCells s=(s.map λb=>(b.toNat:O)).map (nV .u8):=by
 simp[Lib.byteCells,nV]
set_option maxHeartbeats 1000000 in
theorem RX{W:S->Prop}{nm:X UInt8->zac (Bool×Unit)}(hs:Sat QP W 68 (af ⟨[(0,Ss)],[]⟩ ⟨[(0,SB)],[]⟩ nm)) :
  Sat QP W 61 (af ⟨[(0,Ss)],[]⟩ ⟨[(0,.c (.row QEL (.int .u8))),(1,Si)],[]⟩ (λs=>L.putNameO nm s)):=by
 rintro⟨s,u⟩ y hy C γ vals hCL hCn R;have hCn:C.nl=0:=hCn;have hy:L.putNameO nm s=J y:=hy;unfold L.putNameO at hy;cases hn:nm s with
 |none=>rw[hn] at hy;cases hy
 |some z=>
  obtain⟨b,u'⟩:=z;rw[hn] at hy;have hsz:vals.size=1:=R.size;have s0:vals.getD 0 undef=.string (mkS s):=R.slot 0 (.v (.c (.str s))) rfl;have hv:vals=#[.string (mkS s)]:=by
   rw[<- s0];apply Array.ext';obtain⟨l⟩:=vals
   match l,hsz with
   |[a],_=>rfl
  have hL:W C.w0:=by rw[<- hCL];exact R.inv.laid
  have hst:dX W C.w0.heap.size:=λa b' ha hb=>by
   rw[<- hCL] at ha⊢;exact R.inv.stable a b' ha λg hg=>hb g (by
    by_cases h:g<C.w0.heap.size;·exact h
    ·exact absurd (R.inv.new g (by omega)) hg)
  rw[hv];cases b with
  |false=>
   have hy:J (([]:X O),(9:O),())=J y:=hy;obtain rfl:=U6 hy;refine(TD hs hL hst hn).mono ?_;rintro e w' ⟨rfl,hb⟩;exact sI R.inv hCn hb (iF.nil _ _ _ _)
  |true=>
   have hy:(if s.length<=200 then J ((s.length:O)::((s.map λb=>(b.toNat:O))++List.replicate ((s.length+4) / 4*4-1-s.length) 0),(0:O),()) else U)=J y:=hy;split at hy
   ·rename_i hl;obtain rfl:=U6 hy;refine(RY hs hL hst hn hl).mono ?_;rintro e w' ⟨v,rfl,hb,ho⟩;have hcells:Value.int .u8 (s.length:O)::(Lib.byteCells s++List.replicate ((s.length+4) / 4*4-1-s.length) (.int .u8 0))=((s.length:O)::((s.map λb=>(b.toNat:O))++List.replicate ((s.length+4) / 4*4-1-s.length) 0)).map (nV .u8):=by
     rw[NB];simp[nV]
    rw[List.cons_append,hcells] at ho;generalize hzs:((s.length:O)::((s.map λb=>(b.toNat:O))++List.replicate ((s.length+4) / 4*4-1-s.length) 0))=zs at ho⊢;have hlen:((s.length:O)::((s.map λb=>(b.toNat:O))++List.replicate ((s.length+4) / 4*4-1-s.length) 0)).length=(s.length+4) / 4*4:=by simp;omega
    rw[hzs] at hlen;rw[<- hlen] at ho;obtain⟨γ',hN⟩:=iF.of ho;exact sI R.inv hCn hb hN
   ·cases hy
end
end Rv
