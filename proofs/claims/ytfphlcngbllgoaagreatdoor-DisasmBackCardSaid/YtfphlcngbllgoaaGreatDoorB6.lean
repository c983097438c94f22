/- Texts put together. -/
import Derived.Test.YtfphlcngbllgoaaGreatDoorB5
import Derived.Maps.RangeWalk
import Derived.Maps.Ext
import Derived.Shelf.Strings.SlTrimAscii
import Derived.Laws.EntriesVeiled
import Derived.WideMake
import Derived.Lib.Join
import Derived.Shelf.Spec.SlicesInsert
import Derived.Lib.AppendZerosOnto
set_option linter.all false
open Option renaming some→I,none→O
open Go renaming World→U,Value→N,TypeId→zac
open Bool renaming true→Y,false→Z
open _root_ renaming Nat→F,Int→E,List→zab,Option→zad,if_pos→zae,Bool→zah,if_neg→zai,congrArg→zaj,Unit→zak
open Go.IntKind renaming i64→zaa
open Decidable renaming decide→zaf
noncomputable section
namespace Rv
open Go Go.RowKit Go.Proofs
noncomputable section
set_option maxRecDepth 1000000
set_option maxHeartbeats 4000000 in
theorem Ld(B b n:F)(w:U)(hB:B<=b)(hbk:w.heap[b]?=I (.cells #[.pointer O,.slice O 0 0] 183 (0,0)))(hBw:B<=w.heap.size)(hn:n<=281474976710656) :
  Calls Tryz.prog 129 #[.pointer (I ⟨b,0,O⟩),.int .i64 n] w λe w'=>e=.returned (.tuple #[])/\(Lib.BuilderAt 183 5 B b (.pointer (I ⟨b,0,O⟩)) [] w'/\Below B w w'):=by
 have hbk1:(w.setCell ⟨b,0,O⟩ (.pointer (I ⟨b,0,O⟩))).heap[b]?=I (.cells #[.pointer (I ⟨b,0,O⟩),.slice O 0 0] 183 (0,0)):=by
  simp[World.setCell,Array.getElem?_modify,hbk]
 have c1:(w.setCell ⟨b,0,O⟩ (.pointer (I ⟨b,0,O⟩))).cell? ⟨b,1,O⟩=I (.slice O 0 0):=by rw[Lib.cell_of_heap hbk1];rfl
 have hb1:Below B w (w.setCell ⟨b,0,O⟩ (.pointer (I ⟨b,0,O⟩))):=(Below.refl B w).setCell (p:=⟨b,0,O⟩) hB _;have hU:Lib.BuilderAt 183 5 B b (.pointer (I ⟨b,0,O⟩)) [] (w.setCell ⟨b,0,O⟩ (.pointer (I ⟨b,0,O⟩))):=⟨hB,.slice O 0 0,hbk1,World.ownsRow_nil _ _ _ _,by simp[Value.ownBlock]⟩
 have c1':(w.setCell ⟨b,0,O⟩ (.pointer (I ⟨b,0,O⟩))).drew.cell? ⟨b,1,O⟩=I (.slice O 0 0):=c1;have mixed:Tryz.prog.follows .mixedOrders=Y:=by kernel_rfl
 go_enter Tryz.func129,Tryz.ntmps129
 go_wp2_with (go_at_call 187;refine(oN b w (by rw[Lib.cell_of_heap hbk];rfl) (by simp[World.shape?,hbk]) (Lib.frozen_of_heap hbk 0)).mono ?_;rintro e w' ⟨rfl,rfl⟩)
 go_region_o
 all_goals go_wp2_with (go_at_call 188;refine(Tryz.Builder_grow_fresh B b n (w.setCell ⟨b,0,O⟩ (.pointer (I ⟨b,0,O⟩))).drew hB hbk1 (by simpa[World.setCell,World.drew,-World.drew_eq] using hBw) hn).mono ?_;rintro e w' ⟨rfl,h1,h2⟩)
 all_goals first
  |(go_end0;exact⟨rfl,h1,hb1.drew.trans h2⟩)
  |(go_end0;exact⟨rfl,hU.drew,hb1.drew⟩)
theorem hidR{p:Prop}(h:p):Hid p:=h
abbrev TB:zac:=183
abbrev TU:zac:=5
theorem qN(B b:F)(bs:zab N)(s:ByteArray)(w:U)(h:Lib.IsBuilderF 183 5 B b bs w)(hlen:bs.length+s.size<=140737488355328)(hBw:B<=w.heap.size) :
  Calls Tryz.prog 130 #[.pointer (I ⟨b,0,O⟩),.string s] w λe w'=>e=.returned (.tuple #[.int .i64 s.size,.nilIface])/\(Lib.IsBuilderF 183 5 B b (bs++Lib.strCells s) w'/\Below B w w'):=
 (Dn B b bs s w h hlen hBw).mono λe w' ⟨h1,h2,h3,_⟩=>⟨h1,Or.inr h2,h3⟩
set_option maxHeartbeats 16000000 in
theorem E9(s old new:ByteArray)(m:E)(w:U)(hs:s.size<4294967281)(hm:w.cell? ⟨0,0,O⟩=I (.int .i64 m))(h1:1<=old.size)(hne:old≠new)(hc0:Lib.countB s old≠0)
  (hlen:s.size+Lib.countB s old*new.size<=140737488355328) :
  Calls Tryz.prog 279 #[.string s,.string old,.string new,.int .i64 (-1)] w λe w'=>
   e=.returned (.string ⟨(Lib.replaceK old.data.toList new.data.toList (Lib.replaceNum s.data.toList old.data.toList (-1)) s.data.toList).toArray⟩)/\Below w.heap.size w w':=by
 have hC:=Tryz.strings_Count_any s old m w hs hm h1;have hmul:=Lib.countB_mul_le old h1 s.size s (U7 _);obtain⟨K,hK⟩:∃K:F,Lib.replaceNum s.data.toList old.data.toList (-1)=K:=⟨_,rfl⟩
 rw[hK];obtain⟨cn,hcn⟩:∃cn:F,Lib.countB s old=cn:=⟨_,rfl⟩
 rw[hcn] at hC hlen hc0 hmul;have hcn':Lib.count s.data.toList old.data.toList=cn:=hcn;have hbeq:(old.toList == new.toList)=Z:=(Lib.bytes_beq_false_iff old new).2 hne;have hcz:((cn:E) == 0)=Z:=beq_eq_false_iff_ne.2 (by omega);have ho0:(0:E)<(old.size:E):=by omega
 have hlenL:s.data.toList.length=s.size:=(Lib.size_eq s).symm;have hlenO:old.data.toList.length=old.size:=(Lib.size_eq old).symm;have hgl:0<w.heap.size:=World.block_lt_of_cell? _ _ hm;obtain rfl:K=cn:=by
  unfold Lib.replaceNum at hK;rw[hcn',zae (Or.inl (by decide))] at hK;exact hK.symm
 have hK1:1<=K:=by omega
 have hKo:K*old.size<=s.size:=hmul;have hKs:K<=s.size:=Vv (Nat.le_mul_of_pos_right K (by omega)) hKo;have hga:=Lib.grow_arg s.size K new.size old.size hK1 hKo hlen;have hKcount:K<=Lib.count (s.data.toList.drop 0) old.data.toList:=by rw[VB,hcn'];exact U7 _
 clear hK hcn hcn' hmul;have hod:zaf (0<old.size)=Y:=decide_eq_true (by omega)
 go_enter Tryz.func279,Tryz.ntmps279
 go_wp2_with (first|(go_at_call 145;refine hC.mono ?_;rintro e w' ⟨rfl,hw⟩;rw[hw])|(go_at_call 129;try rw[hga];refine(Ld w.heap.size w.heap.size _ _ (U7 _) (heap_alloc_new w _) (by simp) (by omega)).mono ?_))
 rintro e w1 ⟨rfl,hb0,hb1⟩;clear hC;have H1:=hidR (Lib.IsBuilderF.of (Or.inr hb0:Lib.IsBuilder TB TU w.heap.size w.heap.size (Lib.byteCells []) w1));have Hb1:=hidR (((Below.refl w.heap.size w).alloc (U7 _) _).trans hb1);clear hb0 hb1 hga
 go_wp2_with fail
 go_loopg [11,53] K (λg s11 s53 wx=>∃(i start:F) (acc:zab UInt8),s53=.int .i64 i/\s11=.int .i64 start/\i+g=K/\start<=s.size /\
  Hid (Lib.IsBuilderF TB TU w.heap.size w.heap.size (Lib.byteCells acc) wx)/\Hid (Below w.heap.size w wx)/\Hid (acc++Lib.replaceK old.data.toList new.data.toList g (s.data.toList.drop start)=Lib.replaceK old.data.toList new.data.toList K s.data.toList) /\
  g<=Lib.count (s.data.toList.drop start) old.data.toList/\acc.length+(s.size-start)+g*new.size<=s.size+K*new.size)
 case atStart=>exact⟨0,0,[],rfl,rfl,by omega,Nat.zero_le _,H1,Hb1,hidR (by simp),hKcount,by simp⟩
 case round=>
  obtain⟨i,start,acc,rfl,rfl,hig,hst,HB,HW,HR,hgc,hbd⟩:=hrel;have hBw:w.heap.size<=wr.heap.size:=HW.out.size;have c1:(0:E)<=(start:E):=by omega
  have c2:(start:E)<=(s.size:E):=by omega
  cases gk with
  |zero=>
   have hiK:¬((i:E)<(K:E)):=by omega
   go_wp2_with fail
   refine(qN w.heap.size w.heap.size _ _ wr HB.out (by rw[Lib.byteCells_length,ByteArray.size_extract];omega) hBw).mono ?_;rintro e w3 ⟨rfl,h3,hb3⟩;rw[Lib.strCells_eq,Lib.extract_to_end,<- Lib.byteCells_append] at h3;have hfin:acc++s.data.toList.drop start=Lib.replaceK old.data.toList new.data.toList K s.data.toList:=HR.out;rw[hfin] at h3;have H3:=hidR h3;have Hb3:=hidR (HW.out.trans hb3);have hBw3:w.heap.size<=w3.heap.size:=Hb3.out.size;clear h3 hb3 hfin
   go_wp2_with fail
   refine(Tryz.Builder_String_any_k w.heap.size w.heap.size _ w3 H3.out hBw3).mono ?_;rintro e w5 ⟨rfl,_,hb5,_⟩;have Hb5:=hidR (Hb3.out.trans hb5);clear hb5
   go_wp2
   go_ret
   exact⟨rfl,Hb5.out⟩
  |succ g=>
   have hiK:(i:E)<(K:E):=by omega
   obtain⟨j,hj⟩:=Lib.index_of_count (s:=s.data.toList.drop start) (old:=old.data.toList) (by omega);have hroom:j+old.size<=s.size-start:=by
    have:=Lib.index_room (s.data.toList.drop start) old.data.toList (by rw[hj];omega);rw[hj,VE,hlenL,hlenO] at this;omega
   have hmr:wr.cell? ⟨0,0,O⟩=I (.int .i64 m):=by rw[HW.out.cell (p:=⟨0,0,O⟩) hgl];exact hm
   have hsucc:(g+1)*new.size=g*new.size+new.size:=Nat.succ_mul _ _;have c3:(start:E)<=(start:E)+(j:E):=by omega
   have c4:(start:E)+(j:E)<=(s.size:E):=by omega
   have hnext:Lib.byteCells acc++Lib.strCells (s.extract start (start+j))++Lib.strCells new=Lib.byteCells (acc++(s.data.toList.drop start).take j++new.data.toList):=by
    rw[Lib.strCells_eq,Lib.strCells_eq,Lib.extract_data,Nat.add_sub_cancel_left,<- Lib.byteCells_append,<- Lib.byteCells_append]
   have hrep:(acc++(s.data.toList.drop start).take j++new.data.toList)++Lib.replaceK old.data.toList new.data.toList g (s.data.toList.drop (start+j+old.size))=Lib.replaceK old.data.toList new.data.toList K s.data.toList:=by
    rw[<- HR.out,Lib.replaceK_hit _ _ g _ j hj,List.drop_drop,hlenO];simp only[Vm,VS]
   have hcnt:g<=Lib.count (s.data.toList.drop (start+j+old.size)) old.data.toList:=by
    have:=Lib.count_hit (s:=s.data.toList.drop start) (sub:=old.data.toList) (i:=j) (λe=>by rw[e] at hlenO;simp at hlenO;omega) hj;rw[List.drop_drop,hlenO] at this;rw[show start+j+old.size=start+(j+old.size) by omega];omega
   have htl:((s.data.toList.drop start).take j).length=j:=by rw[VA,VE,hlenL];omega
   have Hn:=hidR hnext;have Hrep:=hidR hrep;clear hnext hrep HR
   go_wp2_with (first|(go_at_call 146;refine(Tryz.strings_Index _ _ m _ (by rw[ByteArray.size_extract];omega) hmr).mono ?_;rintro e w' ⟨rfl,hw⟩;rw[hw,Lib.extract_to_end,hj]))
   refine(qN w.heap.size w.heap.size _ (s.extract start (start+j)) wr HB.out (by rw[Lib.byteCells_length,ByteArray.size_extract];omega) hBw).mono ?_;rintro e w3 ⟨rfl,h3,hb3⟩;have hBw3:w.heap.size<=w3.heap.size:=Vv hBw hb3.size;have H3:=hidR h3;have Hb3:=hidR hb3;clear h3 hb3
   go_wp2_with fail
   refine(qN w.heap.size w.heap.size _ new w3 H3.out (by rw[Vb,Lib.byteCells_length,Lib.strCells_length,ByteArray.size_extract];omega) hBw3).mono ?_;rintro e w4 ⟨rfl,h4,hb4⟩;rw[Hn.out] at h4;have H4:=hidR h4;have Hb4:=hidR ((HW.out.trans Hb3.out).trans hb4);clear h4 hb4
   go_wp2
   go_roundg g
   case measure=>omega
   case rel=>exact⟨i+1,start+j+old.size,_,by first|rfl|(simp;unfold wrap64;omega),by first|rfl|simp|(simp;unfold wrap64;omega),by omega,by omega,H4,Hb4,Hrep,hcnt,by simp only[Vb,htl,<- Lib.size_eq];omega⟩
theorem vE(s old new:ByteArray)(m:E)(w:U)(hs:s.size<4294967281)(hm:w.cell? ⟨0,0,O⟩=I (.int .i64 m))(h1:1<=old.size)(hne:old≠new)(hc0:Lib.countB s old≠0)
  (hlen:s.size+Lib.countB s old*new.size<=140737488355328) :
  Calls Tryz.prog 259 #[.string s,.string old,.string new] w λe w'=>
   e=.returned (.string ⟨(Lib.replaceK old.data.toList new.data.toList (Lib.replaceNum s.data.toList old.data.toList (-1)) s.data.toList).toArray⟩)/\Below w.heap.size w w':=by
 have c:=E9 s old new m w hs hm h1 hne hc0 hlen
 go_enter Tryz.func259,Tryz.ntmps259
 go_wp2_with (go_at_call 279;refine c.mono ?_;rintro e w' ⟨rfl,hw⟩)
 go_ret
 exact⟨rfl,hw⟩
end
end Rv
namespace Rv
open Go Go.RowKit Go.Proofs Go.Maps
noncomputable section
set_option maxRecDepth 1000000
abbrev NK:=E×E×zah
abbrev TW:zac:=233
abbrev TM:zac:=230
abbrev TS:zac:=9
abbrev PP:Program:=Tryz.prog
def kv(k:NK):N:=.agg #[.int .i64 k.1,.int .i64 k.2.1,.bool k.2.2]
def Qn(k:NK):zab Lit:=[.int .i64 k.1,.int .i64 k.2.1,.bool k.2.2]
def kl(k:NK):Lit:=.string (keyBytes (Qn k))
def okK(k:NK):Prop:=(Lit.int .i64 k.1).wf=Y/\(Lit.int .i64 k.2.1).wf=Y
theorem M9:(match PP.underlying TW with|some (.array _ _)|some (.struct _)=>Y|_=>Z)=Y:=by kernel_rfl
theorem Ut:PP.keyType TW=Y:=by kernel_rfl
theorem Ox:laidOutB PP=Y:=by kernel_rfl
theorem lD:Keyed PP TW:=Keyed.of_law (deep_law_laid Ox (m:=2) (by omega) (of_decide_eq_true (by kernel_rfl)) (by kernel_rfl) M9)
theorem Ag:PP.cellsOf TW=3:=by kernel_rfl
theorem xI:∃a b c,PP.underlying TW=I (.struct #[a,b,c])/\a.name ≠ "_" /\ b.name ≠ "_" /\ c.name ≠ "_" /\ a.offset=0/\b.offset=1/\c.offset=2/\a.type=3/\b.type=3/\c.type=4:=
 ⟨_,_,_,Tryz.underlying233,by decide,by decide,by decide,rfl,rfl,rfl,rfl,rfl,rfl⟩
theorem II:∃d,PP.types.size=d+1:=by
 have h:zaf (0<PP.types.size)=Y:=by kernel_rfl
 exact⟨PP.types.size-1,by have:=of_decide_eq_true h;omega⟩
theorem GX:PP.cellsOf 3=1:=by kernel_rfl
theorem GV:PP.cellsOf 4=1:=by kernel_rfl
theorem Oq(k:NK)(h:okK k):PP.keyLits (PP.types.size+1) TW [.int .i64 k.1,.int .i64 k.2.1,.bool k.2.2]=I (Qn k):=by
 obtain⟨a,b,c,hu,n1,n2,n3,o1,o2,o3,t1,t2,t3⟩:=xI;obtain⟨d,hd⟩:=II;rw[hd];have h1:=h.1;have h2:=h.2;unfold Program.keyLits;simp only[hu,Ag];rw[zae ⟨rfl,by simp[n1,n2,n3]⟩];simp only[List.mapM_cons,List.mapM_nil,o1,o2,o3,t1,t2,t3,GX,GV,VB,List.drop_succ_cons,List.take_succ_cons,VW];unfold Program.keyLits;simp only[Tryz.underlying3,Tryz.underlying4,h1,h2];rfl
theorem rH(k:NK)(h:okK k):keyOf PP TW (kv k)=I (kl k):=by
 obtain⟨a,b,c,hu,_⟩:=xI;unfold keyOf kv;have hf:(Value.agg #[.int .i64 k.1,.int .i64 k.2.1,.bool k.2.2]).formed PP TW=Y:=by simp[Value.formed,hu,Ag]
 simp only[hu,Ut,hf,Bool.and_self,if_true];show((PP.keyLits (PP.types.size+1) TW [.int .i64 k.1,.int .i64 k.2.1,.bool k.2.2]).map _)=_;rw[Oq k h];rfl
theorem Ce{v:N}{l:Lit}(h:keyOf PP TW v=I l):∃k,v=kv k/\okK k/\l=kl k:=by
 obtain⟨xs,L,rfl,hl,rfl⟩:=keyOf_top M9 h;obtain⟨a,b,c,hu,n1,n2,n3,o1,o2,o3,t1,t2,t3⟩:=xI;obtain⟨d,hd⟩:=II;rw[hd] at hl;unfold Program.keyLits at hl;simp only[hu,Ag] at hl;split at hl
 ·rename_i hc;obtain⟨xs⟩:=xs
  match xs,hc.1 with
  |[c0,c1,c2],_=>
   simp only[List.mapM_cons,List.mapM_nil,o1,o2,o3,t1,t2,t3,GX,GV,VB,List.drop_succ_cons,List.take_succ_cons,VW] at hl;unfold Program.keyLits at hl;simp only[Tryz.underlying3,Tryz.underlying4] at hl;obtain⟨k1,i1,rfl⟩:∃k1 i1,c0=.int k1 i1:=by
    cases c0<;>first|exact⟨_,_,rfl⟩|(exfalso;simp at hl;done)
   obtain⟨k2,i2,rfl⟩:∃k2 i2,c1=.int k2 i2:=by
    cases c1<;>first|exact⟨_,_,rfl⟩|(exfalso;simp at hl;done)
   obtain⟨b3,rfl⟩:∃b3,c2=.bool b3:=by
    cases c2<;>first|exact⟨_,rfl⟩|(exfalso;simp at hl;done)
   by_cases e1:k1=.i64/\(Lit.int .i64 i1).wf=Y
   ·by_cases e2:k2=.i64/\(Lit.int .i64 i2).wf=Y
    ·obtain⟨rfl,w1⟩:=e1;obtain⟨rfl,w2⟩:=e2;refine⟨(i1,i2,b3),rfl,⟨w1,w2⟩,?_⟩;simp[w1,w2] at hl;rw[<- hl];rfl
    ·simp[e2] at hl
   ·simp[e1] at hl
 ·cases hl
theorem qB{a b:NK}(ha:okK a)(hb:okK b)(h:kl a=kl b):a=b:=by
 have h1:=rH a ha;have h2:=rH b hb;rw[h] at h1;have:=lD.inj h1 h2;simp only[kv,Value.agg.injEq] at this;obtain⟨a1,a2,a3⟩:=a;obtain⟨b1,b2,b3⟩:=b;simp at this;obtain⟨rfl,rfl,rfl⟩:=this;rfl
def bK(w:U)(B n:F)(f:NK->zad Str):Prop:=
 ∃D:DataW zak,w.ownsMap PP TW (plainElem PP TS) B n D/\(∀l,has D l=Y->∃k,okK k/\l=kl k/\(f k).isSome=Y) /\
  ∀k s,f k=I s->okK k/\has D (kl k)=Y/\∀zd,D.atKey (kl k) zd=.lit (.string s)
theorem bK.kept{w w':U}{B n:F}{f:NK->zad Str}{row:zad F}(h:bK w B n f)(hg:w.grownBy w' row)(hne:I B≠row):bK w' B n f:=by
 obtain⟨D,h1,h2⟩:=h;exact⟨D,h1.kept hg hne,h2⟩
theorem bK.same{w w':U}{B n:F}{f:NK->zad Str}(h:bK w B n f)(hg:w'.heap[B]?=w.heap[B]?):bK w' B n f:=by
 obtain⟨D,⟨es,c,hb,r⟩,h2⟩:=h;exact⟨D,⟨es,c,hg.trans hb,r⟩,h2⟩
theorem bK.lt{w:U}{B n:F}{f:NK->zad Str}(h:bK w B n f):B<w.heap.size:=by
 obtain⟨D,h1,_⟩:=h;exact h1.lt
theorem bK.made(w:U):bK (w.alloc (.map #[] 0)) w.heap.size 0 (λ_=>O):=
 ⟨.map [],World.ownsMap_made _ _ _ _,λ_ h=>absurd h (by simp[has]),λ_ _ h=>absurd h (by simp)⟩
theorem Ol{w:U}{B n:F}{D:DataW zak}(h:w.ownsMap PP TW (plainElem PP TS) B n D):IsMap D:=by
 obtain⟨es,c,_,_,_,rfl⟩:=h;exact⟨_,rfl⟩
theorem Ew(k:NK):WideAt.IsKeyLit (kl k):=trivial
theorem Mj{D:DataW zak}{f:NK->zad Str}(hD:IsMap D)(h1:∀l,has D l=Y->∃k,okK k/\l=kl k/\(f k).isSome=Y)
  (h2:∀k s,f k=I s->okK k/\has D (kl k)=Y/\∀zd,D.atKey (kl k) zd=.lit (.string s)) (k:NK) (s:Str) (hk:okK k) :
  (∀l,has (D.put (kl k) (.lit (.string s))) l=Y->∃j,okK j/\l=kl j/\((λx=>if x=k then I s else f x) j).isSome=Y) /\
  ∀j r,(λx=>if x=k then I s else f x) j=I r->okK j/\has (D.put (kl k) (.lit (.string s))) (kl j)=Y/\∀zd,(D.put (kl k) (.lit (.string s))).atKey (kl j) zd=.lit (.string r):=by
 refine⟨λl hl=>?_,λj r hj=>?_⟩
 ·by_cases e:l=kl k
  ·exact⟨k,hk,e,by simp⟩
  ·rw[has_put_other e] at hl;obtain⟨j,hj,rfl,hf⟩:=h1 l hl;refine⟨j,hj,rfl,?_⟩;show(if j=k then I s else f j).isSome=Y;split
   ·rfl
   ·exact hf
 ·by_cases e:j=k
  ·subst e;simp at hj;subst hj;exact⟨hk,has_put_same hD (Ew _) _,λzd=>atKey_put_same hD (Ew _) _ _⟩
  ·simp only[e,if_false] at hj;obtain⟨a1,a2,a3⟩:=h2 j r hj;have hne:kl j≠kl k:=λe'=>e (qB a1 hk e')
   exact⟨a1,by rw[has_put_other hne];exact a2,λzd=>by rw[atKey_put_other hne];exact a3 zd⟩
theorem wP:PP.underlying TM=I (.map TW TS):=Tryz.underlying230
theorem Bp:PP.underlying TS=I .string:=Tryz.underlying9
theorem bK.put{w:U}{B n:F}{f:NK->zad Str}(h:bK w B n f)(hn:n<1000000)(k:NK)(s:Str)(hk:okK k)(hs:s.length<=1000000) :
  ∃w',(Instr.mapUpdate TM (.map (I B)) (kv k) (.string (mkS s))).run PP w=.ok () w'/\bK w' B (n+1) (λx=>if x=k then I s else f x)/\w.grownBy w' (I B):=by
 obtain⟨D,h1,h2,h3⟩:=h;obtain⟨w',hr,ho,hg⟩:=h1.update lD wP (by unfold maxLen;omega) (rH k hk) (plainElem_string Bp (s:=mkS s) (by show s.length<=maxLen;unfold maxLen;omega));obtain⟨p1,p2⟩:=Mj (Ol h1) h2 h3 k s hk;exact⟨w',hr,⟨_,ho,p1,p2⟩,hg⟩
theorem rA{v:N}{z:DataW zak×zab MemPlace}(h:plainElem PP TS v=I z):∃s:Str,v=.string (mkS s)/\z.1=.lit (.string s):=by
 unfold plainElem at h;rw[Bp] at h;cases v<;>simp at h;rename_i s;exact⟨s.data.toList,by simp[mkS],by rw[<- h.2]⟩
theorem bK.look{w:U}{B n:F}{f:NK->zad Str}(h:bK w B n f)(k:NK)(hk:okK k) :
  (Instr.lookup TM (.map (I B)) (kv k) Z).run PP w=.ok (.string (mkS ((f k).getD []))) w:=by
 obtain⟨D,h1,h2,h3⟩:=h;have hz:(zeroValue TS).run PP w=.ok (.string (mkS [])) w:=by kernel_rfl
 obtain⟨v,ps,hr,hv⟩:=h1.lookup lD wP hz (plainElem_string Bp (s:=mkS []) (by decide)) (rH k hk);obtain⟨s,rfl,hs⟩:=rA hv;rw[hr];have:s=(f k).getD []:=by
  simp only at hs;cases hf:f k with
  |some r=>
   have:=(h3 k r hf).2.2 (.lit (.string (mkS []).data.toList));rw[this] at hs;simpa using hs.symm
  |none=>
   have hn:has D (kl k)=Z:=by
    cases hh:has D (kl k);·rfl
    ·obtain⟨j,hj,e,hf'⟩:=h2 _ hh;rw[<- qB hk hj e,hf] at hf';cases hf'
   rw[atKey_of_not_has hn] at hs;have:=DataW.lit.inj hs;exact(Lit.string.inj this).symm
 rw[this]
end
end Rv
namespace Rv
open Go Go.RowKit Go.Proofs Go.Maps
noncomputable section
set_option maxRecDepth 1000000
theorem Bz{P:Program}{ops:Array Oper}{Q:Exit->Act->U->Prop}(htext:zP 0 ops.toList=Y)(Inv:(F->zah)->Act->U->Prop)
  (hstep:∀b a w i o,Inv b a w->i<ops.size->ops[i]?=I o->b i=Z->(∀e,e∈o.after.toList->Region.binds .any e=Y->b e.on=Y)->wpOp P ops Q i (Inv (λk=>b k||zaf (k=i))) a w)
  (hend:∀b a w,Inv b a w->(∀i,i<ops.size->b i=Y)->Q .normal a w) :
  ∀(fuel:F) (listed:Array zah) (a:Act) (w:U),listed.size=ops.size->((List.range ops.size).filter λi=>!listed.getD i Z).length<=fuel->Inv (λk=>listed.getD k Z) a w->wpAny P .any ops Q fuel listed a w:=by
 have none_ready:∀(listed:Array zah),listed.size=ops.size->Region.ready .any ops listed=[]->∀i,i<ops.size->listed.getD i Z=Y:=by
  intro listed hsz hr i hi;by_cases h:listed.getD i Z=Y;·exact h
  ·obtain⟨j,hj,hp,hmin⟩:=least (n:=ops.size) (p:=λi=>¬listed.getD i Z=Y) ⟨i,hi,h⟩;exfalso;have ho:ops[j]?=I ops[j]:=by simp[hj]
   have:j∈Region.ready .any ops listed:=by
    unfold Region.ready;refine VG.2 ⟨by simpa using hj,?_⟩;have hjl:j<listed.size:=by omega
    simp only[Va,Bool.not_eq_true'];refine⟨?_,?_⟩;·rw[nu hjl];simpa using hp
    ·rw[ho];simp only[VP,Option.getD_some];rw[Array.all_eq_true'];intro e he;by_cases hb:Region.binds .any e=Y
     ·have hlt:=p8 htext j ops[j] (by simpa using ho) e (by simpa using he) hb;have:=hmin e.on (by omega);simp only[Decidable.not_not] at this;simp[this]
     ·simp only[Bool.not_eq_true] at hb;simp[hb]
   rw[hr] at this;simp at this
 intro fuel
 induction fuel with
 |zero=>
  intro listed a w hsz hcnt hI;have hall:∀i,i<ops.size->listed.getD i Z=Y:=λi hi=>by
   by_cases h:listed.getD i Z=Y;·exact h
   ·have:i∈(List.range ops.size).filter λi=>!listed.getD i Z:=VG.2 ⟨by simpa using hi,by simpa using h⟩
    have h0:=List.length_pos_of_mem this;omega
  refine⟨?_,hend _ a w hI hall⟩;unfold Region.ready;refine List.filter_eq_nil_iff.2 λi hi=>?_
  have hi':i<ops.size:=by simpa using hi
  have:=hall i hi';rw[nu (by omega:i<listed.size),this];simp
 |succ fuel ih=>
  intro listed a w hsz hcnt hI;refine⟨λhr=>hend _ a w hI (none_ready listed hsz hr),λi hi=>?_⟩;unfold Region.ready at hi;obtain⟨hi1,hi2⟩:=VG.1 hi;have hin:i<ops.size:=by simpa using hi1
  have hil:i<listed.size:=by omega
  simp only[Va,Bool.not_eq_true'] at hi2;obtain⟨hi2,hi3⟩:=hi2;have hoff:listed.getD i Z=Z:=by rw[<- nu hil];exact hi2
  have ho:ops[i]?=I ops[i]:=by simp[hin]
  rw[ho] at hi3;simp only[VP,Option.getD_some] at hi3;rw[Array.all_eq_true'] at hi3;have hset:∀k,(listed.setIfInBounds i Y).getD k Z=(listed.getD k Z||zaf (k=i)):=λk=>by
   simp only[Array.getD_eq_getD_getElem?,Array.getElem?_setIfInBounds];by_cases h:i=k;·subst h;simp[hil]
   ·have h':¬k=i:=λe=>h e.symm
    simp[h,h']
  refine wpOp_mono ?_ (hstep _ a w i ops[i] hI hin ho hoff λe he hb=>by
   have:=hi3 e (by simpa using he);simpa[hb] using this)
  intro a' w' hI';refine ih _ a' w' (by simpa using hsz) ?_ ?_
  ·have hlt:((List.range ops.size).filter λk=>!(listed.setIfInBounds i Y).getD k Z).length<((List.range ops.size).filter λk=>!listed.getD k Z).length:=by
    have e:((List.range ops.size).filter λk=>!(listed.setIfInBounds i Y).getD k Z)=(((List.range ops.size).filter λk=>!listed.getD k Z).filter λk=>zaf (k≠i)):=by
     rw[List.filter_filter];refine List.filter_congr λk _=>?_
     rw[hset];by_cases h:k=i<;>simp[h]
    rw[e];refine List.length_filter_lt_length_iff_exists.2 ⟨i,VG.2 ⟨by simpa using hin,by simp only[hoff];rfl⟩,by simp⟩
   omega
  ·have:(λk=>(listed.setIfInBounds i Y).getD k Z)=λk=>listed.getD k Z||zaf (k=i):=by funext k;exact hset k
   rw[this];exact hI'
theorem aD{P:Program}{ops:Array Oper}{Q:Exit->Act->U->Prop}{K:Act->U->Prop}{a:Act}{w:U}{i:F}{o:Oper}(ho:ops[i]?=I o)(hg:o.guard=O)(h:o.wp P a w K Q):wpOp P ops Q i K a w:=by
 unfold wpOp;rw[ho];have:Region.wanted o (yielded ops a.tmps)=Y:=by simp[Region.wanted,hg]
 simp only[this,if_true];exact Or.inl h
def bQ{ι:Type}(ins:zab (ι×NK×Str))(b:ι->zah)(x:NK):zad Str:=ins.findSome? λe=>if e.2.1=x/\b e.1=Y then I e.2.2 else O
theorem rJ{ι:Type}[DecidableEq ι]{ins:zab (ι×NK×Str)}{b:ι->zah}{i:ι}(h:∀e∈ins,e.1≠i)(x:NK):bQ ins (λk=>b k||zaf (k=i)) x=bQ ins b x:=by
 unfold bQ
 induction ins with
 |nil=>rfl
 |cons e l ih=>
  have h0:=h e (by simp);simp only[List.findSome?_cons,h0,decide_false,Bool.or_false];rw[ih λe he=>h e (by simp[he])]
theorem uL{ι:Type}[DecidableEq ι]{ins:zab (ι×NK×Str)}(hk:ins.Pairwise λa b=>a.2.1≠b.2.1)(hi:ins.Pairwise λa b=>a.1≠b.1){b:ι->zah}{e:ι×NK×Str}(he:e∈ins)(x:NK) :
  bQ ins (λk=>b k||zaf (k=e.1)) x=if x=e.2.1 then I e.2.2 else bQ ins b x:=by
 induction ins with
 |nil=>simp at he
 |cons d l ih=>
  obtain⟨k1,k2⟩:=List.pairwise_cons.1 hk;obtain⟨i1,i2⟩:=List.pairwise_cons.1 hi;have c:∀b',bQ (d::l) b' x=if d.2.1=x/\b' d.1=Y then I d.2.2 else bQ l b' x:=λb'=>by
   unfold bQ;rw[List.findSome?_cons];by_cases h:d.2.1=x/\b' d.1=Y<;>simp[h]
  rw[c,c];rcases Vg.1 he with rfl|hl
  ·by_cases hx:x=e.2.1
   ·subst hx;simp
   ·have hx':¬e.2.1=x:=λh=>hx h.symm
    simp only[hx,hx',false_and,if_false];exact rJ (λd hd=>(i1 d hd).symm) x
  ·have hne:d.1≠e.1:=i1 e hl;have hke:d.2.1≠e.2.1:=k1 e hl;rw[ih k2 i2 hl];simp only[hne,decide_false,Bool.or_false];by_cases hd:d.2.1=x/\b d.1=Y
   ·have:¬x=e.2.1:=λh=>hke (hd.1.trans h)
    rw[zae hd,zai this,zae hd]
   ·rw[zai hd,zai hd]
theorem lX{ι:Type}{ins:zab (ι×NK×Str)}{b b':ι->zah}(h:∀e∈ins,b e.1=b' e.1)(x:NK):bQ ins b x=bQ ins b' x:=by
 unfold bQ
 induction ins with
 |nil=>rfl
 |cons e l ih=>
  rw[List.findSome?_cons,List.findSome?_cons,ih λe he=>h e (by simp[he]),h e (by simp)]
theorem yO{b:F->zah}{i:F}(h:b i=Z):∀{l:zab F},l.Nodup->i∈l->l.countP b+1<=l.countP (λk=>b k||zaf (k=i))
 |[],_,hi=>by simp at hi
 |k::l,hn,hi=>by
  obtain⟨h1,h2⟩:=List.nodup_cons.1 hn;by_cases e:k=i
  ·subst e;have:l.countP b<=l.countP (λj=>b j||zaf (j=k)):=List.countP_mono_left λj _ hj=>by simp[hj]
   simp only[List.countP_cons,h,decide_true,Bool.or_true,if_true];simp only[Bool.false_eq_true,if_false];omega
  ·have hil:i∈l:=by
    rcases Vg.1 hi with e'|h';·exact absurd e'.symm e
    ·exact h'
   have:=yO h h2 hil;simp only[List.countP_cons,e,decide_false,Bool.or_false];omega
def aM(k:NK):Str:=((L.nameRows.find? λe=>e.1 == k).map (·.2)).getD []
def ins:zab (F×NK×Str):=[(2,(1,0,Z),aM (1,0,Z)),(4,(1,0,Y),aM (1,0,Y)),(6,(1,8,Y),aM (1,8,Y)),(8,(3,0,Z),aM (3,0,Z)),(10,(4,0,Z),aM (4,0,Z)),
 (12,(5,0,Z),aM (5,0,Z)),(17,(7,0,Z),aM (7,0,Z)),(22,(7,0,Y),aM (7,0,Y)),(24,(8,0,Z),aM (8,0,Z)),(26,(9,0,Z),aM (9,0,Z)),(28,(10,0,Z),aM (10,0,Z))]
def conds:Str:=[77,73,32,69,81,32,67,83,32,86,83,32,76,83,32,76,84,32,76,69,32,46,32,80,76,32,78,69,32,67,67,32,86,67,32,72,73,32,71,69,32,71,84,32,78,86]
def mid:zab (F×F×N):=[(1,3,kv (1,0,Z)),(3,4,kv (1,0,Y)),(5,5,kv (1,8,Y)),(7,6,kv (3,0,Z)),(9,7,kv (4,0,Z)),(11,8,kv (5,0,Z)),(13,9,kv (7,0,Z)),
 (14,10,.string (mkS conds)),(15,11,.string (mkS ((aM (7,0,Z)).drop 1))),(16,12,.string (mkS (aM (7,0,Z)))),(18,13,kv (7,0,Y)),(19,14,.string (mkS conds)),(20,15,.string (mkS ((aM (7,0,Y)).drop 2))),(21,16,.string (mkS (aM (7,0,Y)))),
 (23,17,kv (8,0,Z)),(25,18,kv (9,0,Z)),(27,19,kv (10,0,Z))]
def slots(B:F):zab (F×F×N):=(0,2,.map (I B))::(mid++[(29,20,.map (I B)),(30,0,.map (I B))])
def NJ:zab F:=[2,4,6,8,10,12,17,22,24,26,28,29,30]
structure RInv (w:U) (a0:Act) (b:F->zah) (a:Act) (w':U):Prop where
 act:∃ts,a={ a0 with tmps:=ts }/\ts.size=21
 cnd:a.eval (.tmp 1)=.string (mkS conds)
 below:Below w.heap.size w w'
 early:∀i∈NJ,b i=Y->b 0=Y
 map:∃B,(b 0=Y->w.heap.size<=B/\∃n f,n<=(List.range 31).countP b/\bK w' B n f/\∀x,f x=bQ ins b x)/\∀i d v,(i,d,v)∈slots B->b i=Y->a.eval (.tmp d)=v
variable{w w':U}{a0 a:Act}{b:F->zah}
theorem eval_put{a:Act}{d:F}{v:N}(h:d<a.tmps.size)(t:F):(a.put (I d) v).eval (.tmp t)=if t=d then v else a.eval (.tmp t):=by
 show(a.tmps.setIfInBounds d v).getD t undef=_;by_cases e:t=d;·subst e;simp[Array.getD_eq_getD_getElem?,Array.getElem?_setIfInBounds,h]
 ·have e':¬d=t:=λx=>e x.symm
  rw[zai e];show _=a.tmps.getD t undef;simp[Array.getD_eq_getD_getElem?,Array.getElem?_setIfInBounds,e']
theorem RZ:(List.range 31).Nodup:=by decide
theorem qy{α:Type}{f:α->F}:∀{l:zab α},(l.map f).Nodup->∀x∈l,∀y∈l,f x=f y->x=y
 |[],_,_,hx,_,_,_=>by simp at hx
 |c::l,h,x,hx,y,hy,e=>by
  rw[Vo,List.nodup_cons] at h;rcases Vg.1 hx with ex|hx'
  ·rcases Vg.1 hy with ey|hy'
   ·rw[ex,ey]
   ·exact absurd (Vr.2 ⟨y,hy',by rw[<- e,ex]⟩) h.1
  ·rcases Vg.1 hy with ey|hy'
   ·exact absurd (Vr.2 ⟨x,hx',by rw[e,ey]⟩) h.1
   ·exact qy h.2 x hx' y hy' e
theorem CQ(B:F):∀x∈slots B,∀y∈slots B,x.2.1=y.2.1->x=y:=
 qy (f:=λx:F×F×N=>x.2.1) (by
  have:(slots B).map (λx:F×F×N=>x.2.1)=[2,3,4,5,6,7,8,9,10,11,12,13,14,15,16,17,18,19,20,0]:=rfl;rw[this];decide)
theorem CR(B:F):∀x∈slots B,∀y∈slots B,x.1=y.1->x=y:=
 qy (f:=λx:F×F×N=>x.1) (by
  have:(slots B).map (λx:F×F×N=>x.1)=[0,1,3,5,7,9,11,13,14,15,16,18,19,20,21,23,25,27,29,30]:=rfl;rw[this];decide)
theorem Ke(B:F):∀x∈slots B,x.2.1≠1/\x.2.1<21:=by
 have h:(slots B).map (λx:F×F×N=>x.2.1)=[2,3,4,5,6,7,8,9,10,11,12,13,14,15,16,17,18,19,20,0]:=rfl;intro x hx;have:x.2.1∈(slots B).map (λx:F×F×N=>x.2.1):=Vr.2 ⟨x,hx,rfl⟩;rw[h] at this;generalize x.2.1=n at this;revert n;decide
theorem RInv.pure(h:RInv w a0 b a w'){i d:F}{v:N}(hv:∀B,(b 0=Y->∀B',a.eval (.tmp 2)=.map (I B')->B=B')->(i,d,v)∈slots B)(hi0:i≠0)(hi:∀e∈ins,e.1≠i)(hb:b i=Z)(he:i∈NJ->b 0=Y)
  {w'':U} (hm:∀B,B<w'.heap.size->w''.heap[B]?=w'.heap[B]?) (hbel:Below w.heap.size w' w''):RInv w a0 (λk=>b k||zaf (k=i)) (a.put (I d) v) w'':=by
 obtain⟨⟨ts,rfl,hts⟩,hc,hbw,hea,B,hB,hs⟩:=h;have hmem:=hv B λh0 B' hB'=>by
  have:=hs 0 2 (.map (I B)) (by simp[slots]) h0;rw[this] at hB';simpa using hB'
 have hd:=Ke B _ hmem;have hlt:d<({ a0 with tmps:=ts }:Act).tmps.size:=by show d<ts.size;have:=hd.2;simp only at this;omega
 refine⟨⟨ts.setIfInBounds d v,rfl,by simpa using hts⟩,?_,hbw.trans hbel,?_,B,λh0=>?_,λj e u hm' hj=>?_⟩;·rw[eval_put hlt,zai (λe=>hd.1 e.symm)];exact hc
 ·intro j hj h;simp only[Bool.or_eq_true,Vf] at h⊢;rcases h with h|h
  ·exact Or.inl (hea j hj h)
  ·exact Or.inl (he (h ▸ hj))
 ·have h0':b 0=Y:=by
   simp only[Bool.or_eq_true,Vf] at h0;rcases h0 with h|h;·exact h
   ·exact absurd h.symm hi0
  obtain⟨h1,n,f,hn,hM,hf⟩:=hB h0';refine⟨h1,n,f,Vv hn ?_,hM.same (hm B hM.lt),λx=>by rw[hf,rJ hi]⟩;exact List.countP_mono_left λk _ hk=>by simp[hk]
 ·rw[eval_put hlt];by_cases hed:e=d
  ·have:=CQ B _ hm' _ hmem hed;rw[zae hed];simp only[Vd] at this;exact this.2.2.symm
  ·rw[zai hed];refine hs j e u hm' ?_;simp only[Bool.or_eq_true,Vf] at hj;rcases hj with h|h
   ·exact h
   ·subst h;have:=CR B _ hm' _ hmem rfl;simp only[Vd] at this;exact absurd this.2.1 hed
theorem MN{B j e:F}{u:N}(h:(j,e,u)∈slots B):j=0\/j=29\/j=30\/∀B',(j,e,u)∈slots B':=by
 rcases Vg.1 h with h|h;·simp only[Vd] at h;exact Or.inl h.1
 ·rcases Vk.1 h with h|h
  ·exact Or.inr (Or.inr (Or.inr λB'=>U9 _ (List.mem_append_left _ h)))
  ·rcases Vg.1 h with h|h
   ·simp only[Vd] at h;exact Or.inr (Or.inl h.1)
   ·rcases Vg.1 h with h|h
    ·simp only[Vd] at h;exact Or.inr (Or.inr (Or.inl h.1))
    ·simp at h
theorem RInv.make(h:RInv w a0 b a w')(hb:b 0=Z):RInv w a0 (λk=>b k||zaf (k=0)) (a.put (I 2) (.map (I w'.heap.size))) (w'.alloc (.map #[] 0)):=by
 obtain⟨⟨ts,rfl,hts⟩,hc,hbw,hea,B,hB,hs⟩:=h;have hlt:2<({ a0 with tmps:=ts }:Act).tmps.size:=by show 2<ts.size;omega
 have hsz:=hbw.size;refine⟨⟨ts.setIfInBounds 2 (.map (I w'.heap.size)),rfl,by simpa using hts⟩,?_,hbw.alloc hsz _,λ_ _ _=>by simp,w'.heap.size,λ_=>⟨hsz,0,_,Nat.zero_le _,bK.made w',λx=>?_⟩,λj e u hm' hj=>?_⟩;·rw[eval_put hlt,zai (by decide)];exact hc
 ·rw[rJ (by decide)];unfold bQ;refine(List.findSome?_eq_none_iff.2 λe he=>?_).symm;have:¬b e.1=Y:=λh=>by
   have:=hea e.1 ((by decide:∀e∈ins,e.1∈NJ) e he) h;rw[hb] at this;cases this
  simp[this]
 ·rw[eval_put hlt];by_cases hed:e=2
  ·have:=CQ _ _ hm' (0,2,.map (I w'.heap.size)) (by simp[slots]) hed;rw[zae hed];simp only[Vd] at this;exact this.2.2.symm
  ·rw[zai hed];simp only[Bool.or_eq_true,Vf] at hj;have hj0:j≠0:=λe0=>by
    subst e0;have:=CR _ _ hm' (0,2,.map (I w'.heap.size)) (by simp[slots]) rfl;simp only[Vd] at this;exact hed this.2.1
   have hbj:b j=Y:=hj.resolve_right hj0;rcases MN hm' with h|h|h|h;·exact absurd h hj0
   ·have:=hea 29 (by decide) (h ▸ hbj);rw[hb] at this;cases this
   ·have:=hea 30 (by decide) (h ▸ hbj);rw[hb] at this;cases this
   ·exact hs j e u (h B) hbj
theorem RInv.lay(h:RInv w a0 b a w'){e:F×NK×Str}(he:e∈ins)(hb:b e.1=Z)(h0:b 0=Y){o:Oper}{K:Act->U->Prop}{Q:Exit->Act->U->Prop}{s:F}{x:N}
  (hop:o.op=.insert TM (.tmp 2) (.tmp s) (.const x)\/∃u,o.op=.insert TM (.tmp 2) (.tmp s) (.tmp u)/\a.eval (.tmp u)=x) (hd:o.dst=O) (hk:a.eval (.tmp s)=kv e.2.1) (hx:x=.string (mkS e.2.2))
  (hok:∀e∈ins,okK e.2.1/\e.2.2.length<=1000000) (hK:∀w'',RInv w a0 (λk=>b k||zaf (k=e.1)) a w''->K a w''):o.wp PP a w' K Q:=by
 obtain⟨ha,hc,hbw,hea,B,hB,hs⟩:=h;obtain⟨hle,n,f,hn,hM,hf⟩:=hB h0;have hc31:(List.range 31).countP b<=31:=by simpa using(List.countP_le_length (l:=List.range 31) (p:=b))
 obtain⟨w'',hrun,hM',hg⟩:=hM.put (by omega) e.2.1 e.2.2 (hok e he).1 (hok e he).2;have h2:a.eval (.tmp 2)=.map (I B):=hs 0 2 _ (by simp[slots]) h0;have hfin:RInv w a0 (λk=>b k||zaf (k=e.1)) a w'':=by
  refine⟨ha,hc,hbw.grown hg (by have:=hbw.size;omega) (λj hj=>by cases hj;exact hle),λj hj h=>?_,B,λ_=>⟨hle,n+1,_,?_,hM',λx=>?_⟩,λj d v hm hj=>?_⟩
  ·simp[h0]
  ·have:=yO (b:=b) (i:=e.1) hb RZ ((by decide:∀e∈ins,e.1∈List.range 31) e he);omega
  ·rw[uL (by decide) (by decide) he,hf]
  ·refine hs j d v hm ?_;simp only[Bool.or_eq_true,Vf] at hj;rcases hj with h|h
   ·exact h
   ·exfalso;have h1:(slots B).map (λx:F×F×N=>x.1)=[0,1,3,5,7,9,11,13,14,15,16,18,19,20,21,23,25,27,29,30]:=rfl;have h2:e.1∈(slots B).map (λx:F×F×N=>x.1):=Vr.2 ⟨_,hm,h⟩;rw[h1] at h2;exact(by decide:∀e∈ins,e.1 ∉ [0,1,3,5,7,9,11,13,14,15,16,18,19,20,21,23,25,27,29,30]) e he h2
 have hput:a.put o.dst undef=a:=by rw[hd];rfl
 subst hx;have hcv:∀v,a.eval (.const v)=v:=λ_=>rfl
 unfold Oper.wp;rcases hop with hop|⟨u,hop,hu⟩;·simp[execOp,hop,h2,hk,hcv,hrun,Result.andThen];rw[Oper.upon_skip,hput];exact hK _ hfin
 ·simp[execOp,hop,h2,hk,hu,hrun,Result.andThen];rw[Oper.upon_skip,hput];exact hK _ hfin
theorem o8:(Lib.countB (mkS conds) ⟨#[32]⟩≠0)/\(mkS conds).size+Lib.countB (mkS conds) ⟨#[32]⟩*3<=140737488355328:=by
 have h:Lib.countB (mkS conds) ⟨#[32]⟩=15:=by decide +kernel
 rw[h];exact⟨by decide,by decide⟩
theorem UA:Lib.replaceK [32] [32,66] (Lib.replaceNum conds [32] (-1)) conds=(aM (7,0,Z)).drop 1:=by decide +kernel
theorem TJ:Lib.replaceK [32] [32,66,76] (Lib.replaceNum conds [32] (-1)) conds=(aM (7,0,Y)).drop 2:=by decide +kernel
theorem jh:∀e∈ins,okK e.2.1/\e.2.2.length<=1000000:=by
 unfold okK;decide +kernel
def sJ(x:NK):zad Str:=(L.nameRows.find? λe=>e.1 == x).map (·.2)
theorem UW{i:F}(h:i<31):i=0\/i=1\/i=2\/i=3\/i=4\/i=5\/i=6\/i=7\/i=8\/i=9\/i=10\/i=11\/i=12\/i=13\/i=14\/i=15\/i=16\/i=17\/i=18\/i=19\/i=20\/i=21\/i=22\/i=23\/i=24\/i=25\/i=26\/i=27\/i=28\/i=29\/i=30:=by omega
theorem kz(n k:F):(Array.replicate n Z).getD k Z=Z:=by
 simp only[Array.getD_eq_getD_getElem?,Array.getElem?_replicate];split<;>rfl
theorem bA{o:Oper}{K:Act->U->Prop}{Q:Exit->Act->U->Prop}{v:N}{w1 w2:U}(h:(execOp a.eval o).run PP w1=.ok (.value v) w2)(hK:K (a.put o.dst v) w2):o.wp PP a w1 K Q:=by
 unfold Oper.wp;rw[h];exact hK
theorem vU{o:Oper}{K:Act->U->Prop}{Q:Exit->Act->U->Prop}{f:FuncId}{args:Array N}{w1:U}(h:(execOp a.eval o).run PP w1=.ok (.enter f args) w1)
  (hC:Calls PP f args w1 λe w2=>∃v,e=.returned v/\K (a.put o.dst v) w2):o.wp PP a w1 K Q:=by
 unfold Oper.wp;rw[h];exact hC.mono λe w2 ⟨v,he,hk⟩=>by subst he;exact hk
theorem bZ{B:F}{x:F×F×N}(h:x∈mid):x∈slots B:=U9 _ (List.mem_append_left _ h)
theorem RInv.slot(h:RInv w a0 b a w'){i d:F}{v:N}(hm:(i,d,v)∈mid)(hb:b i=Y):a.eval (.tmp d)=v:=by
 obtain⟨B,_,hs⟩:=h.map;exact hs i d v (bZ hm) hb
theorem BL:∀args w,(callFunc 259 args).run PP w=.ok (.enter 259 args) w:=enters_of Tryz.func259 (by kernel_rfl) rfl
theorem Qy(a:Act)(w:U):(execOp a.eval { dst:=I 3,op:=Op.build TW #[(0,Operand.const (Value.int zaa 1)),(1,Operand.const (Value.int zaa 0)),(2,Operand.const (Value.bool Z))],type:=TW,pos := "name.go:53",after:=#[],guard:=O }).run PP w=.ok (.value (kv (1,0,Z))) w:=by kernel_rfl
theorem Qz(a:Act)(w:U):(execOp a.eval { dst:=I 4,op:=Op.build TW #[(0,Operand.const (Value.int zaa 1)),(1,Operand.const (Value.int zaa 0)),(2,Operand.const (Value.bool Y))],type:=TW,pos := "name.go:53",after:=#[],guard:=O }).run PP w=.ok (.value (kv (1,0,Y))) w:=by kernel_rfl
theorem QA(a:Act)(w:U):(execOp a.eval { dst:=I 5,op:=Op.build TW #[(0,Operand.const (Value.int zaa 1)),(1,Operand.const (Value.int zaa 8)),(2,Operand.const (Value.bool Y))],type:=TW,pos := "name.go:53",after:=#[],guard:=O }).run PP w=.ok (.value (kv (1,8,Y))) w:=by kernel_rfl
theorem QB(a:Act)(w:U):(execOp a.eval { dst:=I 6,op:=Op.build TW #[(0,Operand.const (Value.int zaa 3)),(1,Operand.const (Value.int zaa 0)),(2,Operand.const (Value.bool Z))],type:=TW,pos := "name.go:53",after:=#[],guard:=O }).run PP w=.ok (.value (kv (3,0,Z))) w:=by kernel_rfl
theorem QC(a:Act)(w:U):(execOp a.eval { dst:=I 7,op:=Op.build TW #[(0,Operand.const (Value.int zaa 4)),(1,Operand.const (Value.int zaa 0)),(2,Operand.const (Value.bool Z))],type:=TW,pos := "name.go:53",after:=#[],guard:=O }).run PP w=.ok (.value (kv (4,0,Z))) w:=by kernel_rfl
theorem Nu(a:Act)(w:U):(execOp a.eval { dst:=I 8,op:=Op.build TW #[(0,Operand.const (Value.int zaa 5)),(1,Operand.const (Value.int zaa 0)),(2,Operand.const (Value.bool Z))],type:=TW,pos := "name.go:53",after:=#[],guard:=O }).run PP w=.ok (.value (kv (5,0,Z))) w:=by kernel_rfl
theorem Nv(a:Act)(w:U):(execOp a.eval { dst:=I 9,op:=Op.build TW #[(0,Operand.const (Value.int zaa 7)),(1,Operand.const (Value.int zaa 0)),(2,Operand.const (Value.bool Z))],type:=TW,pos := "name.go:53",after:=#[],guard:=O }).run PP w=.ok (.value (kv (7,0,Z))) w:=by kernel_rfl
theorem Nw(a:Act)(w:U):(execOp a.eval { dst:=I 13,op:=Op.build TW #[(0,Operand.const (Value.int zaa 7)),(1,Operand.const (Value.int zaa 0)),(2,Operand.const (Value.bool Y))],type:=TW,pos := "name.go:53",after:=#[],guard:=O }).run PP w=.ok (.value (kv (7,0,Y))) w:=by kernel_rfl
theorem Ny(a:Act)(w:U):(execOp a.eval { dst:=I 17,op:=Op.build TW #[(0,Operand.const (Value.int zaa 8)),(1,Operand.const (Value.int zaa 0)),(2,Operand.const (Value.bool Z))],type:=TW,pos := "name.go:53",after:=#[],guard:=O }).run PP w=.ok (.value (kv (8,0,Z))) w:=by kernel_rfl
theorem Nz(a:Act)(w:U):(execOp a.eval { dst:=I 18,op:=Op.build TW #[(0,Operand.const (Value.int zaa 9)),(1,Operand.const (Value.int zaa 0)),(2,Operand.const (Value.bool Z))],type:=TW,pos := "name.go:53",after:=#[],guard:=O }).run PP w=.ok (.value (kv (9,0,Z))) w:=by kernel_rfl
theorem NA(a:Act)(w:U):(execOp a.eval { dst:=I 19,op:=Op.build TW #[(0,Operand.const (Value.int zaa 10)),(1,Operand.const (Value.int zaa 0)),(2,Operand.const (Value.bool Z))],type:=TW,pos := "name.go:53",after:=#[],guard:=O }).run PP w=.ok (.value (kv (10,0,Z))) w:=by kernel_rfl
theorem SF(a:Act)(h:a.eval (.tmp 11)=.string (mkS ((aM (7,0,Z)).drop 1)))(w:U):(execOp a.eval { dst:=I 12,op:=Op.binOp BinOp.add TS (Operand.const (Value.string ⟨#[66]⟩)) (Operand.tmp 11) TS,type:=TS,pos := "name.go:53",after:=#[{ on:=15,ground:=Ground.data }],guard:=O }).run PP w=.ok (.value (.string (mkS (aM (7,0,Z))))) w:=by
 have hc:a.eval (.const (.string ⟨#[66]⟩))=.string ⟨#[66]⟩:=rfl;have ha:(⟨#[66]⟩:ByteArray)++mkS ((aM (7,0,Z)).drop 1)=mkS (aM (7,0,Z)):=ByteArray.ext (by rw[ByteArray.data_append];decide +kernel);simp only[execOp,h,hc];rw[<- ha];rfl
theorem SG(a:Act)(h:a.eval (.tmp 15)=.string (mkS ((aM (7,0,Y)).drop 2)))(w:U):(execOp a.eval { dst:=I 16,op:=Op.binOp BinOp.add TS (Operand.const (Value.string ⟨#[66,76]⟩)) (Operand.tmp 15) TS,type:=TS,pos := "name.go:53",after:=#[{ on:=20,ground:=Ground.data }],guard:=O }).run PP w=.ok (.value (.string (mkS (aM (7,0,Y))))) w:=by
 have hc:a.eval (.const (.string ⟨#[66,76]⟩))=.string ⟨#[66,76]⟩:=rfl;have ha:(⟨#[66,76]⟩:ByteArray)++mkS ((aM (7,0,Y)).drop 2)=mkS (aM (7,0,Y)):=ByteArray.ext (by rw[ByteArray.data_append];decide +kernel);simp only[execOp,h,hc];rw[<- ha];rfl
theorem QD(a:Act)(h:a.eval (.tmp 10)=.string (mkS conds))(w:U):(execOp a.eval { dst:=I 11,op:=Op.call { callee:=Callee.value (Operand.func 259),args:=#[Operand.tmp 10,Operand.const (Value.string ⟨#[32]⟩),Operand.const (Value.string ⟨#[32,66]⟩)],argTypes:=#[TS,TS,TS] },type:=TS,pos := "name.go:60",after:=#[{ on:=14,ground:=Ground.data }],guard:=O }).run PP w=.ok (.enter 259 #[.string (mkS conds),.string ⟨#[32]⟩,.string ⟨#[32,66]⟩]) w:=by
 have hf:a.eval (.func 259)=.func (.func 259) #[] #[]:=rfl;have hc:∀v,a.eval (.const v)=v:=λ_=>rfl
 simp[execOp,resolve,Deferred.ofValue,invoke,h,hf,hc,BL]
theorem QE(a:Act)(h:a.eval (.tmp 14)=.string (mkS conds))(w:U):(execOp a.eval { dst:=I 15,op:=Op.call { callee:=Callee.value (Operand.func 259),args:=#[Operand.tmp 14,Operand.const (Value.string ⟨#[32]⟩),Operand.const (Value.string ⟨#[32,66,76]⟩)],argTypes:=#[TS,TS,TS] },type:=TS,pos := "name.go:61",after:=#[{ on:=19,ground:=Ground.data },{ on:=15,ground:=Ground.chain }],guard:=O }).run PP w=.ok (.enter 259 #[.string (mkS conds),.string ⟨#[32]⟩,.string ⟨#[32,66,76]⟩]) w:=by
 have hf:a.eval (.func 259)=.func (.func 259) #[] #[]:=rfl;have hc:∀v,a.eval (.const v)=v:=λ_=>rfl
 simp[execOp,resolve,Deferred.ofValue,invoke,h,hf,hc,BL]
theorem PI{b:F->zah}(hb:∀e∈ins,b e.1=Y)(x:NK):bQ ins b x=sJ x:=by
 have h1:bQ ins b x=ins.findSome? λe=>if e.2.1=x then I e.2.2 else O:=by
  unfold bQ;revert hb;generalize ins=l;intro hb
  induction l with
  |nil=>rfl
  |cons e l ih=>
   rw[List.findSome?_cons,List.findSome?_cons,ih λe he=>hb e (by simp[he])];simp[hb e (by simp)]
 have h2:sJ x=(ins.map λe=>(e.2.1,e.2.2)).findSome? λe=>if e.1=x then I e.2 else O:=by
  have e:(ins.map λe=>(e.2.1,e.2.2))=L.nameRows:=by decide +kernel
  rw[e];unfold sJ;generalize L.nameRows=l
  induction l with
  |nil=>rfl
  |cons e l ih=>
   rw[List.find?_cons,List.findSome?_cons];by_cases h:e.1=x;·simp[h]
   ·have:(e.1 == x)=Z:=by simpa using h
    simp only[this,h,if_false];exact ih
 rw[h1,h2,List.findSome?_map];rfl
set_option maxHeartbeats 8000000 in
theorem MC(m:E)(w:U)(hm:w.cell? ⟨0,0,O⟩=I (.int .i64 m)) :
  Calls PP 224 #[] w λe w'=>∃B,e=.returned (.map (I B))/\w.heap.size<=B/\bK w' B 31 sJ/\Below w.heap.size w w':=by
 go_enter Tryz.func224,Tryz.ntmps224
 go_wp2
 refine wp_region_any (by kernel_rfl) ?_;change wpAny _ _ _ _ _ _ _ (World.drew _);refine Bz (by kernel_rfl) (RInv w ⟨#[],[]⟩) ?_ ?_ _ _ _ _ (by simp) (by decide) ?_
 ·
  intro b a w' i o hI hi ho hb hdep;rcases UW (by simpa using hi) with rfl|rfl|rfl|rfl|rfl|rfl|rfl|rfl|rfl|rfl|rfl|rfl|rfl|rfl|rfl|rfl|rfl|rfl|rfl|rfl|rfl|rfl|rfl|rfl|rfl|rfl|rfl|rfl|rfl|rfl|rfl
  ·
   obtain rfl:=U6 (ho.symm.trans (rfl:_=I _));refine aD ho rfl ?_;unfold Oper.wp;exact hI.make hb
  ·
   obtain rfl:=U6 (ho.symm.trans (rfl:_=I _));refine aD ho rfl ?_;exact bA (Qy a w') (hI.pure (λB _=>bZ (by simp[mid])) (by decide) (by decide) hb (λh=>absurd h (by decide)) (λ_ _=>rfl) (Below.refl _ _))
  ·
   obtain rfl:=U6 (ho.symm.trans (rfl:_=I _));refine aD ho rfl ?_;have h0:b 0=Y:=hdep ⟨0,.data⟩ (by simp) rfl;have hk:b 1=Y:=hdep ⟨1,.data⟩ (by simp) rfl;exact hI.lay (e:=(2,(1,0,Z),aM (1,0,Z))) (by simp[ins]) hb h0 (Or.inl rfl) rfl (hI.slot (i:=1) (by simp[mid]) hk) rfl jh (λ_ h=>h)
  ·
   obtain rfl:=U6 (ho.symm.trans (rfl:_=I _));refine aD ho rfl ?_;exact bA (Qz a w') (hI.pure (λB _=>bZ (by simp[mid])) (by decide) (by decide) hb (λh=>absurd h (by decide)) (λ_ _=>rfl) (Below.refl _ _))
  ·
   obtain rfl:=U6 (ho.symm.trans (rfl:_=I _));refine aD ho rfl ?_;have h0:b 0=Y:=hdep ⟨0,.data⟩ (by simp) rfl;have hk:b 3=Y:=hdep ⟨3,.data⟩ (by simp) rfl;exact hI.lay (e:=(4,(1,0,Y),aM (1,0,Y))) (by simp[ins]) hb h0 (Or.inl rfl) rfl (hI.slot (i:=3) (by simp[mid]) hk) rfl jh (λ_ h=>h)
  ·
   obtain rfl:=U6 (ho.symm.trans (rfl:_=I _));refine aD ho rfl ?_;exact bA (QA a w') (hI.pure (λB _=>bZ (by simp[mid])) (by decide) (by decide) hb (λh=>absurd h (by decide)) (λ_ _=>rfl) (Below.refl _ _))
  ·
   obtain rfl:=U6 (ho.symm.trans (rfl:_=I _));refine aD ho rfl ?_;have h0:b 0=Y:=hdep ⟨0,.data⟩ (by simp) rfl;have hk:b 5=Y:=hdep ⟨5,.data⟩ (by simp) rfl;exact hI.lay (e:=(6,(1,8,Y),aM (1,8,Y))) (by simp[ins]) hb h0 (Or.inl rfl) rfl (hI.slot (i:=5) (by simp[mid]) hk) rfl jh (λ_ h=>h)
  ·
   obtain rfl:=U6 (ho.symm.trans (rfl:_=I _));refine aD ho rfl ?_;exact bA (QB a w') (hI.pure (λB _=>bZ (by simp[mid])) (by decide) (by decide) hb (λh=>absurd h (by decide)) (λ_ _=>rfl) (Below.refl _ _))
  ·
   obtain rfl:=U6 (ho.symm.trans (rfl:_=I _));refine aD ho rfl ?_;have h0:b 0=Y:=hdep ⟨0,.data⟩ (by simp) rfl;have hk:b 7=Y:=hdep ⟨7,.data⟩ (by simp) rfl;exact hI.lay (e:=(8,(3,0,Z),aM (3,0,Z))) (by simp[ins]) hb h0 (Or.inl rfl) rfl (hI.slot (i:=7) (by simp[mid]) hk) rfl jh (λ_ h=>h)
  ·
   obtain rfl:=U6 (ho.symm.trans (rfl:_=I _));refine aD ho rfl ?_;exact bA (QC a w') (hI.pure (λB _=>bZ (by simp[mid])) (by decide) (by decide) hb (λh=>absurd h (by decide)) (λ_ _=>rfl) (Below.refl _ _))
  ·
   obtain rfl:=U6 (ho.symm.trans (rfl:_=I _));refine aD ho rfl ?_;have h0:b 0=Y:=hdep ⟨0,.data⟩ (by simp) rfl;have hk:b 9=Y:=hdep ⟨9,.data⟩ (by simp) rfl;exact hI.lay (e:=(10,(4,0,Z),aM (4,0,Z))) (by simp[ins]) hb h0 (Or.inl rfl) rfl (hI.slot (i:=9) (by simp[mid]) hk) rfl jh (λ_ h=>h)
  ·
   obtain rfl:=U6 (ho.symm.trans (rfl:_=I _));refine aD ho rfl ?_;exact bA (Nu a w') (hI.pure (λB _=>bZ (by simp[mid])) (by decide) (by decide) hb (λh=>absurd h (by decide)) (λ_ _=>rfl) (Below.refl _ _))
  ·
   obtain rfl:=U6 (ho.symm.trans (rfl:_=I _));refine aD ho rfl ?_;have h0:b 0=Y:=hdep ⟨0,.data⟩ (by simp) rfl;have hk:b 11=Y:=hdep ⟨11,.data⟩ (by simp) rfl;exact hI.lay (e:=(12,(5,0,Z),aM (5,0,Z))) (by simp[ins]) hb h0 (Or.inl rfl) rfl (hI.slot (i:=11) (by simp[mid]) hk) rfl jh (λ_ h=>h)
  ·
   obtain rfl:=U6 (ho.symm.trans (rfl:_=I _));refine aD ho rfl ?_;exact bA (Nv a w') (hI.pure (λB _=>bZ (by simp[mid])) (by decide) (by decide) hb (λh=>absurd h (by decide)) (λ_ _=>rfl) (Below.refl _ _))
  ·
   obtain rfl:=U6 (ho.symm.trans (rfl:_=I _));refine aD ho rfl ?_;unfold Oper.wp;show Oper.upon PP _ a _ _ (.ok (.value (a.eval (.tmp 1))) w');rw[hI.cnd];exact hI.pure (λB _=>bZ (by simp[mid])) (by decide) (by decide) hb (λh=>absurd h (by decide)) (λ_ _=>rfl) (Below.refl _ _)
  ·
   obtain rfl:=U6 (ho.symm.trans (rfl:_=I _));refine aD ho rfl ?_;have hu:b 14=Y:=hdep ⟨14,.data⟩ (by simp) rfl;have hs:=hI.slot (i:=14) (d:=10) (v:=.string (mkS conds)) (by simp[mid]) hu;have hm':w'.cell? ⟨0,0,O⟩=I (.int .i64 m):=by rw[hI.below.cell (World.block_lt_of_cell? _ _ hm)];exact hm
   refine vU (QD a hs w') ?_;refine(vE (mkS conds) ⟨#[32]⟩ ⟨#[32,66]⟩ m w' (by decide) hm' (by decide) (λh=>absurd (zaj ByteArray.size h) (by decide)) o8.1 (Vv (Nat.add_le_add_left (Nat.mul_le_mul_left _ (by decide)) _) o8.2)).mono ?_;rintro e w'' ⟨rfl,hbw⟩;have hv:(⟨(Lib.replaceK _ _ (Lib.replaceNum (mkS conds).data.toList _ (-1)) (mkS conds).data.toList).toArray⟩:ByteArray)=mkS ((aM (7,0,Z)).drop 1):=zaj mkS UA;exact⟨_,zaj (λx=>Ending.returned (Value.string x)) hv,hI.pure (λB _=>bZ (by simp[mid])) (by decide) (by decide) hb (λh=>absurd h (by decide)) (λB hB=>hbw.block B hB) (hbw.mono hI.below.size)⟩
  ·
   obtain rfl:=U6 (ho.symm.trans (rfl:_=I _));refine aD ho rfl ?_;have hu:b 15=Y:=hdep ⟨15,.data⟩ (by simp) rfl;have hs:=hI.slot (i:=15) (d:=11) (v:=.string (mkS ((aM (7,0,Z)).drop 1))) (by simp[mid]) hu;exact bA (SF a hs w') (hI.pure (λB _=>bZ (by simp[mid])) (by decide) (by decide) hb (λh=>absurd h (by decide)) (λ_ _=>rfl) (Below.refl _ _))
  ·
   obtain rfl:=U6 (ho.symm.trans (rfl:_=I _));refine aD ho rfl ?_;have h0:b 0=Y:=hdep ⟨0,.data⟩ (by simp) rfl;have hk:b 13=Y:=hdep ⟨13,.data⟩ (by simp) rfl;have hu:b 16=Y:=hdep ⟨16,.data⟩ (by simp) rfl;exact hI.lay (e:=(17,(7,0,Z),aM (7,0,Z))) (by simp[ins]) hb h0 (Or.inr ⟨12,rfl,hI.slot (i:=16) (by simp[mid]) hu⟩) rfl (hI.slot (i:=13) (by simp[mid]) hk) rfl jh (λ_ h=>h)
  ·
   obtain rfl:=U6 (ho.symm.trans (rfl:_=I _));refine aD ho rfl ?_;exact bA (Nw a w') (hI.pure (λB _=>bZ (by simp[mid])) (by decide) (by decide) hb (λh=>absurd h (by decide)) (λ_ _=>rfl) (Below.refl _ _))
  ·
   obtain rfl:=U6 (ho.symm.trans (rfl:_=I _));refine aD ho rfl ?_;unfold Oper.wp;show Oper.upon PP _ a _ _ (.ok (.value (a.eval (.tmp 1))) w');rw[hI.cnd];exact hI.pure (λB _=>bZ (by simp[mid])) (by decide) (by decide) hb (λh=>absurd h (by decide)) (λ_ _=>rfl) (Below.refl _ _)
  ·
   obtain rfl:=U6 (ho.symm.trans (rfl:_=I _));refine aD ho rfl ?_;have hu:b 19=Y:=hdep ⟨19,.data⟩ (by simp) rfl;have hs:=hI.slot (i:=19) (d:=14) (v:=.string (mkS conds)) (by simp[mid]) hu;have hm':w'.cell? ⟨0,0,O⟩=I (.int .i64 m):=by rw[hI.below.cell (World.block_lt_of_cell? _ _ hm)];exact hm
   refine vU (QE a hs w') ?_;refine(vE (mkS conds) ⟨#[32]⟩ ⟨#[32,66,76]⟩ m w' (by decide) hm' (by decide) (λh=>absurd (zaj ByteArray.size h) (by decide)) o8.1 (Vv (Nat.add_le_add_left (Nat.mul_le_mul_left _ (by decide)) _) o8.2)).mono ?_;rintro e w'' ⟨rfl,hbw⟩;have hv:(⟨(Lib.replaceK _ _ (Lib.replaceNum (mkS conds).data.toList _ (-1)) (mkS conds).data.toList).toArray⟩:ByteArray)=mkS ((aM (7,0,Y)).drop 2):=zaj mkS TJ;exact⟨_,zaj (λx=>Ending.returned (Value.string x)) hv,hI.pure (λB _=>bZ (by simp[mid])) (by decide) (by decide) hb (λh=>absurd h (by decide)) (λB hB=>hbw.block B hB) (hbw.mono hI.below.size)⟩
  ·
   obtain rfl:=U6 (ho.symm.trans (rfl:_=I _));refine aD ho rfl ?_;have hu:b 20=Y:=hdep ⟨20,.data⟩ (by simp) rfl;have hs:=hI.slot (i:=20) (d:=15) (v:=.string (mkS ((aM (7,0,Y)).drop 2))) (by simp[mid]) hu;exact bA (SG a hs w') (hI.pure (λB _=>bZ (by simp[mid])) (by decide) (by decide) hb (λh=>absurd h (by decide)) (λ_ _=>rfl) (Below.refl _ _))
  ·
   obtain rfl:=U6 (ho.symm.trans (rfl:_=I _));refine aD ho rfl ?_;have h0:b 0=Y:=hdep ⟨0,.data⟩ (by simp) rfl;have hk:b 18=Y:=hdep ⟨18,.data⟩ (by simp) rfl;have hu:b 21=Y:=hdep ⟨21,.data⟩ (by simp) rfl;exact hI.lay (e:=(22,(7,0,Y),aM (7,0,Y))) (by simp[ins]) hb h0 (Or.inr ⟨16,rfl,hI.slot (i:=21) (by simp[mid]) hu⟩) rfl (hI.slot (i:=18) (by simp[mid]) hk) rfl jh (λ_ h=>h)
  ·
   obtain rfl:=U6 (ho.symm.trans (rfl:_=I _));refine aD ho rfl ?_;exact bA (Ny a w') (hI.pure (λB _=>bZ (by simp[mid])) (by decide) (by decide) hb (λh=>absurd h (by decide)) (λ_ _=>rfl) (Below.refl _ _))
  ·
   obtain rfl:=U6 (ho.symm.trans (rfl:_=I _));refine aD ho rfl ?_;have h0:b 0=Y:=hdep ⟨0,.data⟩ (by simp) rfl;have hk:b 23=Y:=hdep ⟨23,.data⟩ (by simp) rfl;exact hI.lay (e:=(24,(8,0,Z),aM (8,0,Z))) (by simp[ins]) hb h0 (Or.inl rfl) rfl (hI.slot (i:=23) (by simp[mid]) hk) rfl jh (λ_ h=>h)
  ·
   obtain rfl:=U6 (ho.symm.trans (rfl:_=I _));refine aD ho rfl ?_;exact bA (Nz a w') (hI.pure (λB _=>bZ (by simp[mid])) (by decide) (by decide) hb (λh=>absurd h (by decide)) (λ_ _=>rfl) (Below.refl _ _))
  ·
   obtain rfl:=U6 (ho.symm.trans (rfl:_=I _));refine aD ho rfl ?_;have h0:b 0=Y:=hdep ⟨0,.data⟩ (by simp) rfl;have hk:b 25=Y:=hdep ⟨25,.data⟩ (by simp) rfl;exact hI.lay (e:=(26,(9,0,Z),aM (9,0,Z))) (by simp[ins]) hb h0 (Or.inl rfl) rfl (hI.slot (i:=25) (by simp[mid]) hk) rfl jh (λ_ h=>h)
  ·
   obtain rfl:=U6 (ho.symm.trans (rfl:_=I _));refine aD ho rfl ?_;exact bA (NA a w') (hI.pure (λB _=>bZ (by simp[mid])) (by decide) (by decide) hb (λh=>absurd h (by decide)) (λ_ _=>rfl) (Below.refl _ _))
  ·
   obtain rfl:=U6 (ho.symm.trans (rfl:_=I _));refine aD ho rfl ?_;have h0:b 0=Y:=hdep ⟨0,.data⟩ (by simp) rfl;have hk:b 27=Y:=hdep ⟨27,.data⟩ (by simp) rfl;exact hI.lay (e:=(28,(10,0,Z),aM (10,0,Z))) (by simp[ins]) hb h0 (Or.inl rfl) rfl (hI.slot (i:=27) (by simp[mid]) hk) rfl jh (λ_ h=>h)
  ·
   obtain rfl:=U6 (ho.symm.trans (rfl:_=I _));refine aD ho rfl ?_;have h0:b 0=Y:=hdep ⟨0,.data⟩ (by simp) rfl;obtain⟨B,hB,hs⟩:=hI.map;have h2:a.eval (.tmp 2)=.map (I B):=hs 0 2 _ (by simp[slots]) h0;unfold Oper.wp;show Oper.upon PP _ a _ _ (.ok (.value (a.eval (.tmp 2))) w');rw[h2];exact hI.pure (λB' h=>by rw[h h0 B h2];simp[slots]) (by decide) (by decide) hb (λ_=>h0) (λ_ _=>rfl) (Below.refl _ _)
  ·
   obtain rfl:=U6 (ho.symm.trans (rfl:_=I _));refine aD ho rfl ?_;have h29:b 29=Y:=hdep ⟨29,.data⟩ (by simp) rfl;have h0:b 0=Y:=hI.early 29 (by decide) h29;obtain⟨B,hB,hs⟩:=hI.map;have h2:a.eval (.tmp 2)=.map (I B):=hs 0 2 _ (by simp[slots]) h0;have h20:a.eval (.tmp 20)=.map (I B):=hs 29 20 _ (by simp[slots]) h29;unfold Oper.wp;show Oper.upon PP _ a _ _ (.ok (.value (a.eval (.tmp 20))) w');rw[h20];exact hI.pure (λB' h=>by rw[h h0 B h2];simp[slots]) (by decide) (by decide) hb (λ_=>h0) (λ_ _=>rfl) (Below.refl _ _)
 ·
  intro b a w' hI hall;obtain⟨⟨ts,rfl,hts⟩,hc,hbw,hea,B,hB,hs⟩:=hI;have h30:ts.getD 0 undef=.map (I B):=hs 30 0 (.map (I B)) (by simp[slots]) (hall 30 (by decide));obtain⟨hle,n,f,hn,hM,hf⟩:=hB (hall 0 (by decide));have hn31:n<=31:=Vv hn (by simpa using(List.countP_le_length (l:=List.range 31) (p:=b)));have hf':f=sJ:=by
   funext x;rw[hf];have hb':∀e∈ins,b e.1=Y:=λe he=>hall e.1 (by have:=(by decide:∀e∈ins,e.1<31) e he;simpa using this)
   exact PI hb' x
  subst hf';obtain⟨ts⟩:=ts
  match ts,hts with
  |[t0,t1,t2,t3,t4,t5,t6,t7,t8,t9,t10,t11,t12,t13,t14,t15,t16,t17,t18,t19,t20],_=>
   have h30':t0=.map (I B):=h30;subst h30';have hM':bK w' B 31 sJ:=by
    obtain⟨D,h1,h2⟩:=hM;exact⟨D,h1.mono hn31,h2⟩
   go_wp2
   go_ret
   exact⟨B,rfl,hle,hM',hbw⟩
 ·
  refine⟨⟨_,rfl,rfl⟩,rfl,(Below.refl _ _).drew,λi hi h=>?_,0,λh=>?_,λi d v _ h=>?_⟩;·rw[kz] at h;cases h
  ·rw[kz] at h;cases h
  ·rw[kz] at h;cases h
end
end Rv
namespace Rv
open Go Go.RowKit Go.Proofs Go.Maps
noncomputable section
set_option maxRecDepth 1000000
theorem JZ:∀e∈L.nameRows,e.2.all (λc=>c.toNat<128)=Y/\(Lib.fields e.2).length<=16/\e.2.length<100:=by decide +kernel
def rowOk(e:NK×Str):zah:=(List.range (Lib.fields e.2).length).all λi=>L.nameTbl.any λt=>t == ((e.1,i),(e.1.1,e.1.2.1+i,e.1.2.2),Lib.trimSuffix ((Lib.fields e.2).getD i []) [46])
theorem rows_ok:∀e∈L.nameRows,rowOk e=Y:=by decide +kernel
theorem PK:∀e∈L.nameRows,∀t∈L.nameTbl,t.1.1=e.1->t.1.2<(Lib.fields e.2).length:=by decide +kernel
theorem FP:∀t∈L.nameTbl,(∃e∈L.nameRows,e.1=t.1.1)/\t.2.2.length<=10:=by decide +kernel
theorem FO:L.nameTbl.Pairwise λa b=>a.2.1≠b.2.1:=by decide +kernel
theorem IC:L.nameTbl.Pairwise λa b=>a.1≠b.1:=by decide +kernel
theorem J2:∀e∈L.nameRows,0<=e.1.1/\e.1.1<=10/\0<=e.1.2.1/\e.1.2.1<=8:=by decide +kernel
theorem PH{x:NK}{s:Str}(h:sJ x=I s):(x,s)∈L.nameRows:=by
 unfold sJ at h;obtain⟨e,he,hs⟩:=Option.map_eq_some_iff.1 h;have h1:=List.mem_of_find?_eq_some he;have h2:=List.find?_some he;have h3:e.1=x:=by simpa using h2
 rw[<- h3,<- hs];exact h1
def pY(x:NK):zad Str:=bQ L.nameTbl (λ_=>Y) x
theorem Pg{w:U}{B n:F}{D:DataW zak}(h:w.ownsMap PP TW (plainElem PP TS) B n D):Maps.size D<=n:=by
 obtain⟨es,c,_,_,hs,rfl⟩:=h;simpa[Maps.size,length_sorted] using hs
structure KB where
 k:NK
theorem Qi:∀key l,keyOf PP TW key=I l->∃x:KB,key=kv x.k:=λkey l h=>by obtain⟨k,e,_⟩:=Ce h;exact⟨⟨k⟩,e⟩
theorem uK{x:NK}{l:Lit}(h:keyOf PP TW (kv x)=I l):okK x/\l=kl x:=by
 obtain⟨k,e,hok,hl⟩:=Ce h;have:x=k:=by
  obtain⟨a1,a2,a3⟩:=x;obtain⟨b1,b2,b3⟩:=k;simp[kv] at e;obtain⟨rfl,rfl,rfl⟩:=e;rfl
 subst this;exact⟨hok,hl⟩
theorem Qj:∀v y,plainElem (H:=zak) PP TS v=I y->∃s:Str,v=.string (mkS s):=λv y h=>by obtain⟨s,e,_⟩:=rA h;exact⟨s,e⟩
def yl(left:Lit->zah)(e:NK×F):zah:=!left (kl e.1)
def pIn(left:Lit->zah)(cur:NK)(i:F)(e:NK×F):zah:=if e.1=cur then zaf (e.2<i) else !left (kl e.1)
theorem Tg(W:U)(b o:F)(n:E)(h:W.cell? ⟨b,o,O⟩=I (.int .i64 n)):(Instr.loadAt 3 (.pointer (I ⟨b,o,O⟩))).run PP W=.ok (.int .i64 n) W:=by go_simp
theorem UV(W:U)(b o:F)(n:zah)(h:W.cell? ⟨b,o,O⟩=I (.bool n)):(Instr.loadAt 4 (.pointer (I ⟨b,o,O⟩))).run PP W=.ok (.bool n) W:=by go_simp
theorem UO(W:U)(b:F):(Instr.fieldAt TW (.pointer (I ⟨b,0,O⟩)) 0).run PP W=.ok (.pointer (I ⟨b,0,O⟩)) W:=by go_simp
theorem UQ(W:U)(b:F):(Instr.fieldAt TW (.pointer (I ⟨b,0,O⟩)) 1).run PP W=.ok (.pointer (I ⟨b,1,O⟩)) W:=by go_simp
theorem UR(W:U)(b:F):(Instr.fieldAt TW (.pointer (I ⟨b,0,O⟩)) 2).run PP W=.ok (.pointer (I ⟨b,2,O⟩)) W:=by go_simp
theorem UM(W:U)(k:NK):(Instr.build TW #[(0,.int .i64 k.1),(1,.int .i64 k.2.1),(2,.bool k.2.2)]).run PP W=.ok (kv k) W:=by kernel_rfl
theorem UK(W:U)(x y:E)(c d:Operand)(h:-9223372036854775808<=x+y/\x+y<=9223372036854775807):(do eqGuard .add 3 c d (.int .i64 x) (.int .i64 y);binOp .add 3 (.int .i64 x) (.int .i64 y):Sem N).run PP W=.ok (.int .i64 (x+y)) W:=by
 go_simp
 rw[IntKind.wrap_i64];omega
structure qO (w1:U) (t0:Array N) (sl:zab (F×F×N)) (Fin:U->Prop) (b:F->zah) (a:Act) (w':U):Prop where
 act:∃ts,a=⟨ts,[]⟩/\ts.size=36
 same:∀t:F,t<22\/33<t->a.eval (.tmp t)=t0.getD t undef
 slot:∀j d v,(j,d,v)∈sl->b j=Y->a.eval (.tmp d)=v
 cl:b 12=Y->∀j,j<12->b j=Y
 wld:(b 12=Y->Fin w')/\(b 12=Z->w'=w1)
structure Nh (sl:zab (F×F×N)):Prop where
 one:sl.map (λx=>x.1)=[0,1,2,3,4,5,6,7,8,9,10,11]
 two:sl.map (λx=>x.2.1)=[22,23,24,25,26,27,28,29,30,31,32,33]
theorem qO.pure{w1 w':U}{t0:Array N}{a:Act}{sl:zab (F×F×N)}{Fin:U->Prop}{b:F->zah}(h:qO w1 t0 sl Fin b a w')(ok:Nh sl){i d:F}{v:N}(hm:(i,d,v)∈sl)(hi:i<12)(hb:b i=Z) :
  qO w1 t0 sl Fin (λk=>b k||zaf (k=i)) (a.put (I d) v) w':=by
 obtain⟨⟨ts,rfl,hts⟩,hsm,hs,hc,hw⟩:=h;have hd:22<=d/\d<=33:=by
  have h1:d∈sl.map (λx=>x.2.1):=Vr.2 ⟨_,hm,rfl⟩;rw[ok.two] at h1;exact(by decide:∀d∈[22,23,24,25,26,27,28,29,30,31,32,33],22<=d/\d<=33) d h1
 have hlt:d<(⟨ts,[]⟩:Act).tmps.size:=by show d<ts.size;omega
 have h12:b 12=Z:=by
  cases e:b 12;·rfl
  ·rw[hc e i hi] at hb;cases hb
 have h12':(b 12||zaf (12=i))=Z:=by
  have:¬12=i:=by omega
  simp[h12,this]
 refine⟨⟨ts.setIfInBounds d v,rfl,by simpa using hts⟩,λt ht=>?_,λj e u hj hbj=>?_,λe=>?_,λe=>?_,λ_=>hw.2 h12⟩
 ·have hne:t≠d:=by omega
  rw[eval_put hlt,zai hne];exact hsm t ht
 ·rw[eval_put hlt];by_cases hed:e=d
  ·have:=qy (f:=λx:F×F×N=>x.2.1) (by rw[ok.two];decide) _ hj _ hm hed;rw[zae hed];simp only[Vd] at this;exact this.2.2.symm
  ·rw[zai hed];refine hs j e u hj ?_;simp only[Bool.or_eq_true,Vf] at hbj;rcases hbj with h|h
   ·exact h
   ·subst h;have:=qy (f:=λx:F×F×N=>x.1) (by rw[ok.one];decide) _ hj _ hm rfl;simp only[Vd] at this;exact absurd this.2.1 hed
 ·rw[h12'] at e;cases e
 ·rw[h12'] at e;cases e
theorem vV{s:Sem N}{v:N}{W:U}(h:s.run PP W=.ok v W):(do pure (Next.value (<- s)):Sem Next).run PP W=.ok (.value v) W:=by
 simp[h,Result.andThen]
theorem qO.w12{w1 w':U}{t0:Array N}{a:Act}{sl:zab (F×F×N)}{Fin:U->Prop}{b:F->zah}(h:qO w1 t0 sl Fin b a w'){i:F}(hi:i<12)(hb:b i=Z):w'=w1:=by
 refine h.wld.2 ?_;cases e:b 12;·rfl
 ·rw[h.cl e i hi] at hb;cases hb
theorem qO.lay{w1 w':U}{t0:Array N}{a:Act}{sl:zab (F×F×N)}{B n:F}{f:NK->zad Str}{b:F->zah}{k:NK}{s:Str}{K:Act->U->Prop}{Q:Exit->Act->U->Prop}{o:Oper}
  (h:qO w1 t0 sl (λw'=>bK w' B (n+1) (λz=>if z=k then I s else f z)/\w1.grownBy w' (I B)) b a w') (hb:b 12=Z) (hall:∀j,j<12->b j=Y) (hM:bK w1 B n f) (hn:n<1000000) (hk:okK k) (hs:s.length<=1000000)
  (hop:o.op=.mapUpdate TM (.tmp 22) (.tmp 31) (.tmp 33)) (hd:o.dst=O) (h22:a.eval (.tmp 22)=.map (I B)) (h31:a.eval (.tmp 31)=kv k) (h33:a.eval (.tmp 33)=.string (mkS s)) (ok:Nh sl)
  (hK:∀w'',qO w1 t0 sl (λw'=>bK w' B (n+1) (λz=>if z=k then I s else f z)/\w1.grownBy w' (I B)) (λk=>b k||zaf (k=12)) a w''->K a w''):o.wp PP a w' K Q:=by
 obtain⟨ha,hsm,hsl,hc,hw⟩:=h;obtain rfl:=hw.2 hb;obtain⟨w'',hrun,hM',hg⟩:=hM.put hn k s hk hs;have hput:a.put o.dst undef=a:=by rw[hd];rfl
 have hfin:=hK w'' ⟨ha,hsm,λj d v hj hbj=>by
  refine hsl j d v hj ?_;simp only[Bool.or_eq_true,Vf] at hbj;rcases hbj with h|h;·exact h
  ·exfalso;have h2:j∈sl.map (λx=>x.1):=Vr.2 ⟨_,hj,rfl⟩;rw[ok.one,h] at h2;exact absurd h2 (by decide),λ_ j hj=>by simp[hall j hj],λ_=>⟨hM',hg⟩,λe=>by simp at e⟩
 unfold Oper.wp;simp[execOp,hop,h22,h31,h33,hrun,Result.andThen];rw[Oper.upon_skip,hput];exact hfin
theorem KW:∀args w,(callFunc 226 args).run PP w=.ok (.enter 226 args) w:=enters_of Tryz.func226 (by kernel_rfl) rfl
theorem NE(a:Act){s:Str}(h:a.eval (.tmp 32)=.string (mkS s))(w:U):(execOp a.eval { dst:=I 33,op:=Op.call { callee:=Callee.value (Operand.func 226),args:=#[Operand.tmp 32,Operand.const (Value.string ⟨#[46]⟩)],argTypes:=#[TS,TS] },type:=TS,pos := "name.go:73",after:=#[{ on:=10,ground:=Ground.data }],guard:=O }).run PP w=.ok (.enter 226 #[.string (mkS s),.string ⟨#[46]⟩]) w:=by
 have hf:a.eval (.func 226)=.func (.func 226) #[] #[]:=rfl;have hc:∀v,a.eval (.const v)=v:=λ_=>rfl
 simp[execOp,resolve,Deferred.ofValue,invoke,h,hf,hc,KW]
theorem Uj(a:Act){k:NK}(h1:a.eval (.tmp 24)=.int .i64 k.1)(h2:a.eval (.tmp 28)=.int .i64 k.2.1)(h3:a.eval (.tmp 30)=.bool k.2.2)(w:U):(execOp a.eval { dst:=I 31,op:=Op.build TW #[(0,Operand.tmp 24),(1,Operand.tmp 28),(2,Operand.tmp 30)],type:=TW,pos := "name.go:73",after:=#[{ on:=2,ground:=Ground.data },{ on:=6,ground:=Ground.data },{ on:=8,ground:=Ground.data }],guard:=O }).run PP w=.ok (.value (kv k)) w:=by
 simp only[execOp,List.map_toArray,Vo,List.map_nil];rw[h1,h2,h3];exact vV (UM w k)
theorem R6:∀e∈L.nameRows,∀s∈Lib.fields e.2,s.length<=20:=by decide +kernel
theorem Tm{i:F}(h:i<13):i=0\/i=1\/i=2\/i=3\/i=4\/i=5\/i=6\/i=7\/i=8\/i=9\/i=10\/i=11\/i=12:=by omega
theorem cell_grown{w w':U}{row:zad F}(hg:w.grownBy w' row){p:Addr}{v:N}(h:w.cell? p=I v)(hne:I p.block≠row):w'.cell? p=I v:=by
 have hlt:=World.block_lt_of_cell? _ _ h;rw[World.cell?_of_block (w:=w) (hg.block p.block hlt hne)];exact h
theorem Ip:∀e∈L.nameRows,sJ e.1=I e.2:=by decide +kernel
structure Cl (x:NK) (fs:zab Str) (S:F) (w:U):Prop where
 c0:w.cell? ⟨S,0,O⟩=I (.int .i64 x.1)
 c1:w.cell? ⟨S,1,O⟩=I (.int .i64 x.2.1)
 c2:w.cell? ⟨S,2,O⟩=I (.bool x.2.2)
 fs:∀(j:F) s,fs[j]?=I s->w.cell? ⟨S+1,j,O⟩=I (.string (mkS s))
theorem Cl.kept{x:NK}{fs:zab Str}{S B:F}{w w':U}(h:Cl x fs S w)(hg:w.grownBy w' (I B))(hB:B<S):Cl x fs S w':=
 ⟨cell_grown hg h.c0 (by simp;omega),cell_grown hg h.c1 (by simp;omega),cell_grown hg h.c2 (by simp;omega),λj s hj=>cell_grown hg (h.fs j s hj) (by simp;omega)⟩
theorem Cl.made(x:NK)(fs:zab Str){w:U}{S:F}(hS:w.heap.size=S):Cl x fs S ((w.alloc (.cells #[.int .i64 x.1,.int .i64 x.2.1,.bool x.2.2] TW)).alloc (.cells (fs.map λl=>Value.string ⟨l.toArray⟩).toArray TS)):=by
 have h1:(w.alloc (.cells #[.int .i64 x.1,.int .i64 x.2.1,.bool x.2.2] TW)).heap.size=S+1:=by simp[hS]
 have hA:=(MapKept.heap_alloc w (.cells #[.int .i64 x.1,.int .i64 x.2.1,.bool x.2.2] TW)).1;have hB:=(MapKept.heap_alloc (w.alloc (.cells #[.int .i64 x.1,.int .i64 x.2.1,.bool x.2.2] TW)) (.cells (fs.map λl=>Value.string ⟨l.toArray⟩).toArray TS))
 have hA':=hB.2 S (by rw[h1];omega);rw[<- hS] at hA';rw[hA] at hA';rw[hS] at hA';have hB':=hB.1;rw[h1] at hB';refine⟨?_,?_,?_,λj s hj=>?_⟩;·rw[Lib.cell_of_heap hA'];rfl
 ·rw[Lib.cell_of_heap hA'];rfl
 ·rw[Lib.cell_of_heap hA'];rfl
 ·rw[Lib.cell_of_heap hB'];simp[hj,mkS]
set_option maxHeartbeats 8000000 in
theorem zO(m:E)(w:U)(hm:w.cell? ⟨0,0,O⟩=I (.int .i64 m)) (htab:Lib.TabIs PP w "strings.asciiSpace" .u8 Lib.asciiSpaceTab) :
  Calls PP 179 #[] w λe w'=>∃B,e=.returned (.map (I B))/\w.heap.size<=B/\bK w' B 100000 pY/\Below w.heap.size w w':=by
 have hmm:=@run_makeMap PP;have hm1:(w.alloc (.map #[] 0)).cell? ⟨0,0,O⟩=I (.int .i64 m):=by rw[((Below.refl w.heap.size w).alloc (U7 _) _).cell (World.block_lt_of_cell? _ _ hm)];exact hm
 go_enter Tryz.func179,Tryz.ntmps179
 go_wp2_with (first
  |(go_at_call 224;refine(MC m _ hm1).mono ?_;rintro e wa ⟨Br,rfl,hBr,hMr,hba⟩;obtain⟨D1,ho1,hD1,hD2⟩:=hMr)
  |(at_range;refine wpList_range_own _ rfl _ TM rfl TW TS lD wP _ Br 31 _ rfl ho1 ?_;intro w0 hrg0 hg0 hs0)
  |go_in)
 go_frame
 have hsz1:(w.alloc (.map #[] 0)).heap.size=w.heap.size+1:=by simp
 rw[hsz1] at hBr hba;have hsa:=hba.size;rw[hsz1] at hsa;obtain⟨R,hR⟩:∃R,R=wa.heap.size:=⟨_,rfl⟩
 rw[<- hR] at hrg0 hs0 hsa⊢;have hbw0:Below w.heap.size w w0:=(((Below.refl _ _).alloc (U7 _) _).trans (hba.mono (Nat.le_succ _))).grown hg0 (by rw[<- hR];omega) (λj hj=>by cases hj);have hM0:bK w0 w.heap.size 0 (λ_=>O):=((bK.made w).same (hba.block _ (Nat.lt_succ_self _))).kept hg0 (by simp);have hsd:Maps.size D1<=31:=Pg ho1;clear hm1 ho1 hba hR hsz1
 go_loopw [2] (λ_ wr=>∃left cnt n f,wr.ranges PP TW (plainElem PP TS) Br R 31 D1 left cnt/\(∀l,left l=Y->has D1 l=Y)/\bK wr w.heap.size n f/\n+100*cnt<=3100/\(∀x,f x=bQ L.nameTbl (yl left) x)/\Below w.heap.size w wr)
  (λ_ wr=>wr.rangeLeft Br R)
 case atStart=>
  refine⟨_,_,0,_,hrg0,λ_ h=>h,hM0,by omega,λx=>?_,hbw0⟩;unfold bQ;refine(List.findSome?_eq_none_iff.2 λt ht=>?_).symm;obtain⟨⟨e,he,hek⟩,_⟩:=FP t ht;have h1:=(hD2 e.1 e.2 (Ip e he)).2.1;rw[hek] at h1;simp[yl,h1]
 case round=>
  obtain⟨left,cnt,n,f,hrg,hld,hM,hn,hf,hbw⟩:=hrel
  go_wp2_with (first
   |(at_next;refine wpList_next_ranges _ rfl _ rfl TW lD (plainElem PP TS) (λx:KB=>kv x.k) (λs:Str=>Value.string (mkS s)) Qi Qj Br R 31 D1 left cnt rfl hrg ?_ ?_)
   |go_in)
  ·
   intro hc0 hl0
   go_wp2
   go_ret
   refine⟨_,rfl,U7 _,?_,hbw⟩;have:f=pY:=by
    funext x;rw[hf];refine lX (λe _=>?_) x;simp[yl,hl0]
   subst this;obtain⟨D,h1,h2⟩:=hM;exact⟨D,h1.mono (by omega),h2⟩
  ·
   intro⟨x⟩ c l ya yb w1 cnt1 hkx hlx hcv hat hrg1 hlt hg1 hs1 hen;obtain⟨hok,rfl⟩:=uK hkx;obtain⟨k',hok',hkl',hrf⟩:=hD1 _ (hld _ hlx);obtain rfl:=qB hok hok' hkl';obtain⟨r,hr⟩:=VU.1 hrf;obtain rfl:c=r:=by
    obtain⟨s,e1,e2⟩:=rA hcv;have e3:=(hD2 x r hr).2.2 (.lit (.bool Z));rw[hat] at e3;have e4:s=r:=by
     have:=e2.symm.trans e3;simpa using this
    have e5:c=s:=by
     have:=zaj (λv=>match v with|Value.string b=>b.data.toList|_=>[]) e1;simpa[mkS] using this
    rw[e5,e4]
   simp only at hok hr hen hkx hlx;have hmem:=PH hr;obtain⟨hasc,hfl,hcl⟩:=JZ _ hmem;simp only at hasc hfl hcl;have hbw1:Below w.heap.size w w1:=hbw.grown hg1 hbw.size (λj hj=>by cases hj;omega);have hen':(Instr.entry (.pointer (I ⟨R,0,O⟩))).run PP w1=.ok (.tuple #[.agg #[.int .i64 x.1,.int .i64 x.2.1,.bool x.2.2],.string (mkS c)]) w1:=hen;clear hen hcv hat hkx;have hbw2:=hbw1.alloc hbw1.size (.cells #[.int .i64 x.1,.int .i64 x.2.1,.bool x.2.2] TW)
   have htab1:Lib.TabIs PP (w1.alloc (.cells #[.int .i64 x.1,.int .i64 x.2.1,.bool x.2.2] TW)) "strings.asciiSpace" .u8 Lib.asciiSpaceTab:=AA htab htab λg hg=>hbw2.block g hg
   have hF:=Tryz.strings_Fields_laid (mkS c) _ (by show c.length<_;omega) (ascii_of_all hasc) htab1;obtain⟨fs,hfs⟩:∃fs,Lib.fields c=fs:=⟨_,rfl⟩
   obtain⟨S,hS⟩:∃S,w1.heap.size=S:=⟨_,rfl⟩
   have hRS:R<S:=hS ▸ hrg1.lt;have hBS:Br<S:=hS ▸ hrg1.owns.lt;clear hs1;have hF':Calls PP 225 #[.string (mkS c)] (w1.alloc (.cells #[.int .i64 x.1,.int .i64 x.2.1,.bool x.2.2] TW)) λe w'=>e=.returned (.slice (I ⟨S+1,0,O⟩) fs.length fs.length) /\
     w1.grownBy w' O/\S+2<=w'.heap.size/\Cl x fs S w':=by
    have e:(w1.alloc (.cells #[.int .i64 x.1,.int .i64 x.2.1,.bool x.2.2] TW)).heap.size=S+1:=by simp[hS]
    rw[show Lib.fields (mkS c).data.toList=fs from hfs,e] at hF;refine hF.mono ?_;rintro e' w' ⟨rfl,rfl⟩;exact⟨rfl,(World.grownBy_alloc _ _ O).andThen (World.grownBy_alloc _ _ O) (by simp),by simp[hS],Cl.made x fs hS⟩
   clear hF htab1
   go_wp2_with (first
    |(go_at_call 225;refine hF'.mono ?_;rintro e w3 ⟨rfl,hg3,hs3,hcl3⟩)
    |go_in)
   have hrg3:=hrg1.kept hg3 (by simp) (by simp);have hM3:=(hM.kept hg1 (λe=>by have:=U6 e;omega)).kept hg3 (by simp);have hbw3:=hbw1.grown hg3 hbw1.size (λj hj=>by cases hj);rw[hfs] at hfl;have hpIn:∀z,bQ L.nameTbl (yl left) z=bQ L.nameTbl (pIn (λz=>left z&&!z.sameKey (kl x)) x 0) z:=λz=>lX (λt ht=>by
    obtain⟨⟨e,he,hek⟩,_⟩:=FP t ht;unfold yl pIn;by_cases h:t.1.1=x;·simp[h,hlx]
    ·have hne:kl t.1.1≠kl x:=λe'=>h (qB (hek ▸ (hD2 e.1 e.2 (Ip e he)).1) hok e')
     simp[h,sameKey_ne hne]) z
   have hpEnd:∀z,bQ L.nameTbl (pIn (λz=>left z&&!z.sameKey (kl x)) x fs.length) z=bQ L.nameTbl (yl (λz=>left z&&!z.sameKey (kl x))) z:=λz=>lX (λt ht=>by
    unfold yl pIn;by_cases h:t.1.1=x;·have:=PK _ hmem t ht h;simp only at this;rw[hfs] at this;simp[h,this,WideAt.sameKey_self (Ew x)]
    ·simp[h]) z
   obtain⟨left1,hl1⟩:∃left1,(λz:Lit=>left z&&!z.sameKey (kl x))=left1:=⟨_,rfl⟩
   rw[hl1] at hrg3 hpIn hpEnd;have hld1:∀l,left1 l=Y->has D1 l=Y:=λl h=>by
    rw[<- hl1] at h;simp only[Va] at h;exact hld l h.1
   clear hrg1 hg3 hg1 hF' hen' hbw2 hbw1 hS hl1
   go_loopw [17] (λvi wx=>∃(i n':F) (f':NK->zad Str),vi=.int .i64 i/\i<=fs.length/\wx.ranges PP TW (plainElem PP TS) Br R 31 D1 left1 cnt1/\bK wx w.heap.size n' f'/\n'<=n+i/\(∀z,f' z=bQ L.nameTbl (pIn left1 x i) z)/\Below w.heap.size w wx/\Cl x fs S wx)
    (λvi wx=>fs.length-(intOf vi).toNat)
   case atStart=>exact⟨0,n,f,rfl,Nat.zero_le _,hrg3,hM3,by omega,λz=>by rw[hf,hpIn],hbw3,hcl3⟩
   case round=>
    obtain⟨i,n',f',rfl,hi,hrgx,hMx,hnx,hfx,hbx,hclx⟩:=hrel;by_cases hlt':i<fs.length
    ·have hci:(i:E)<(fs.length:E):=by omega
     obtain⟨s,hsi⟩:∃s,fs[i]?=I s:=⟨fs[i],by simp[hlt']⟩
     have hcf:=hclx.fs i s hsi;have hrow:=rows_ok _ hmem;have hent:((x,i),(x.1,x.2.1+i,x.2.2),Lib.trimSuffix s [46])∈L.nameTbl:=by
      unfold rowOk at hrow;rw[Vq] at hrow;have:=hrow i (by simp only[hfs];simpa using hlt');obtain⟨t,ht,e⟩:=List.any_eq_true.1 this;have e':=eq_of_beq e;simp only[hfs] at e';have hg:fs.getD i []=s:=by simp[List.getD,hsi]
      rw[hg] at e';rw[<- e'];exact ht
     have hsmall:=J2 _ hmem;simp only at hsmall;have hkn:okK (x.1,x.2.1+i,x.2.2):=⟨hok.1,by show(Lit.int .i64 (x.2.1+i)).wf=Y;exact WalkArith.wf_i64 (by omega)⟩
     have hvl:=(FP _ hent).2;simp only at hvl;have hsl:s.length<=9223372036854775807:=Vv (R6 _ hmem s (hfs ▸ List.mem_of_getElem? hsi)) (by decide)
     go_wp2
     refine wp_region_any (by kernel_rfl) ?_;change wpAny _ _ _ _ _ _ _ (World.drew _);obtain⟨sl,hsl0⟩:∃sl:zab (F×F×N),sl=[(0,22,.map (I w.heap.size)),(1,23,.pointer (I ⟨S,0,O⟩)),(2,24,.int .i64 x.1),(3,25,.pointer (I ⟨S,1,O⟩)),(4,26,.int .i64 x.2.1),(5,27,.int .i64 i),(6,28,.int .i64 (x.2.1+i)),
      (7,29,.pointer (I ⟨S,2,O⟩)),(8,30,.bool x.2.2),(9,31,kv (x.1,x.2.1+i,x.2.2)),(10,32,.string (mkS s)),(11,33,.string (mkS (Lib.trimSuffix s [46])))]:=⟨_,rfl⟩
     have ok:Nh sl:=by rw[hsl0];exact⟨rfl,rfl⟩
     have c0:wr.drew.cell? ⟨S,0,O⟩=I (.int .i64 x.1):=hclx.c0;have c1:wr.drew.cell? ⟨S,1,O⟩=I (.int .i64 x.2.1):=hclx.c1;have c2:wr.drew.cell? ⟨S,2,O⟩=I (.bool x.2.2):=hclx.c2;refine Bz (by kernel_rfl) (qO wr.drew _ sl (λw'=>bK w' w.heap.size (n'+1) (λz=>if z=(x.1,x.2.1+i,x.2.2) then I (Lib.trimSuffix s [46]) else f' z)/\wr.drew.grownBy w' (I w.heap.size))) ?_ ?_ _ _ _ _ (by simp) (by decide)
      ⟨⟨_,rfl,rfl⟩,λt _=>rfl,λj d v _ h=>(by rw[kz] at h;cases h),λh=>(by rw[kz] at h;cases h),λh=>(by rw[kz] at h;cases h),λ_=>rfl⟩
     ·
      intro b a w' j o hI hj ho hb hdep;have e1:a.eval (.tmp 1)=.map (I w.heap.size):=hI.same 1 (Or.inl (by decide));have e2:a.eval (.tmp 2)=.pointer (I ⟨S,0,O⟩):=hI.same 2 (Or.inl (by decide));have e4:a.eval (.tmp 4)=.int .i64 i:=hI.same 4 (Or.inl (by decide));have e5:a.eval (.tmp 5)=.string (mkS s):=hI.same 5 (Or.inl (by decide));rcases Tm (by simpa using hj) with rfl|rfl|rfl|rfl|rfl|rfl|rfl|rfl|rfl|rfl|rfl|rfl|rfl
      ·
       obtain rfl:=U6 (ho.symm.trans (rfl:_=I _));refine aD ho rfl ?_;obtain rfl:=hI.w12 (by decide) hb;refine bA (v:=.map (I w.heap.size)) (w2:=wr.drew) ?_ (hI.pure ok (by simp[hsl0]) (by decide) hb);show Result.ok (Next.value (a.eval (.tmp 1))) _=_;rw[e1]
      ·
       obtain rfl:=U6 (ho.symm.trans (rfl:_=I _));refine aD ho rfl ?_;obtain rfl:=hI.w12 (by decide) hb;exact bA (vV (s:=Instr.fieldAt TW (a.eval (.tmp 2)) 0) (by rw[e2];exact UO _ _)) (hI.pure ok (by simp[hsl0]) (by decide) hb)
      ·
       obtain rfl:=U6 (ho.symm.trans (rfl:_=I _));refine aD ho rfl ?_;have hd1:b 1=Y:=hdep ⟨1,.data⟩ (by simp) rfl;have h23:a.eval (.tmp 23)=.pointer (I ⟨S,0,O⟩):=hI.slot 1 23 _ (by simp[hsl0]) hd1;obtain rfl:=hI.w12 (by decide) hb;exact bA (vV (s:=Instr.loadAt 3 (a.eval (.tmp 23))) (by rw[h23];exact Tg _ _ _ _ c0)) (hI.pure ok (by simp[hsl0]) (by decide) hb)
      ·
       obtain rfl:=U6 (ho.symm.trans (rfl:_=I _));refine aD ho rfl ?_;obtain rfl:=hI.w12 (by decide) hb;exact bA (vV (s:=Instr.fieldAt TW (a.eval (.tmp 2)) 1) (by rw[e2];exact UQ _ _)) (hI.pure ok (by simp[hsl0]) (by decide) hb)
      ·
       obtain rfl:=U6 (ho.symm.trans (rfl:_=I _));refine aD ho rfl ?_;have hd3:b 3=Y:=hdep ⟨3,.data⟩ (by simp) rfl;have h25:a.eval (.tmp 25)=.pointer (I ⟨S,1,O⟩):=hI.slot 3 25 _ (by simp[hsl0]) hd3;obtain rfl:=hI.w12 (by decide) hb;exact bA (vV (s:=Instr.loadAt 3 (a.eval (.tmp 25))) (by rw[h25];exact Tg _ _ _ _ c1)) (hI.pure ok (by simp[hsl0]) (by decide) hb)
      ·
       obtain rfl:=U6 (ho.symm.trans (rfl:_=I _));refine aD ho rfl ?_;obtain rfl:=hI.w12 (by decide) hb;refine bA (v:=.int .i64 i) (w2:=wr.drew) ?_ (hI.pure ok (by simp[hsl0]) (by decide) hb);show Result.ok (Next.value (a.eval (.tmp 4))) _=_;rw[e4]
      ·
       obtain rfl:=U6 (ho.symm.trans (rfl:_=I _));refine aD ho rfl ?_;have hd4:b 4=Y:=hdep ⟨4,.data⟩ (by simp) rfl;have hd5:b 5=Y:=hdep ⟨5,.data⟩ (by simp) rfl;have h26:a.eval (.tmp 26)=.int .i64 x.2.1:=hI.slot 4 26 _ (by simp[hsl0]) hd4;have h27:a.eval (.tmp 27)=.int .i64 i:=hI.slot 5 27 _ (by simp[hsl0]) hd5;obtain rfl:=hI.w12 (by decide) hb;exact bA (vV (s:=do eqGuard .add 3 (.tmp 26) (.tmp 27) (a.eval (.tmp 26)) (a.eval (.tmp 27));binOp .add 3 (a.eval (.tmp 26)) (a.eval (.tmp 27))) (by rw[h26,h27];exact UK _ _ _ _ _ (by omega))) (hI.pure ok (by simp[hsl0]) (by decide) hb)
      ·
       obtain rfl:=U6 (ho.symm.trans (rfl:_=I _));refine aD ho rfl ?_;obtain rfl:=hI.w12 (by decide) hb;exact bA (vV (s:=Instr.fieldAt TW (a.eval (.tmp 2)) 2) (by rw[e2];exact UR _ _)) (hI.pure ok (by simp[hsl0]) (by decide) hb)
      ·
       obtain rfl:=U6 (ho.symm.trans (rfl:_=I _));refine aD ho rfl ?_;have hd7:b 7=Y:=hdep ⟨7,.data⟩ (by simp) rfl;have h29:a.eval (.tmp 29)=.pointer (I ⟨S,2,O⟩):=hI.slot 7 29 _ (by simp[hsl0]) hd7;obtain rfl:=hI.w12 (by decide) hb;exact bA (vV (s:=Instr.loadAt 4 (a.eval (.tmp 29))) (by rw[h29];exact UV _ _ _ _ c2)) (hI.pure ok (by simp[hsl0]) (by decide) hb)
      ·
       obtain rfl:=U6 (ho.symm.trans (rfl:_=I _));refine aD ho rfl ?_;have hd2:b 2=Y:=hdep ⟨2,.data⟩ (by simp) rfl;have hd6:b 6=Y:=hdep ⟨6,.data⟩ (by simp) rfl;have hd8:b 8=Y:=hdep ⟨8,.data⟩ (by simp) rfl;have h24:a.eval (.tmp 24)=.int .i64 x.1:=hI.slot 2 24 _ (by simp[hsl0]) hd2;have h28:a.eval (.tmp 28)=.int .i64 (x.2.1+i):=hI.slot 6 28 _ (by simp[hsl0]) hd6;have h30:a.eval (.tmp 30)=.bool x.2.2:=hI.slot 8 30 _ (by simp[hsl0]) hd8;obtain rfl:=hI.w12 (by decide) hb;exact bA (Uj a (k:=(x.1,x.2.1+i,x.2.2)) h24 h28 h30 _) (hI.pure ok (by simp[hsl0]) (by decide) hb)
      ·
       obtain rfl:=U6 (ho.symm.trans (rfl:_=I _));refine aD ho rfl ?_;obtain rfl:=hI.w12 (by decide) hb;refine bA (v:=.string (mkS s)) (w2:=wr.drew) ?_ (hI.pure ok (by simp[hsl0]) (by decide) hb);show Result.ok (Next.value (a.eval (.tmp 5))) _=_;rw[e5]
      ·
       obtain rfl:=U6 (ho.symm.trans (rfl:_=I _));refine aD ho rfl ?_;have hd10:b 10=Y:=hdep ⟨10,.data⟩ (by simp) rfl;have h32:a.eval (.tmp 32)=.string (mkS s):=hI.slot 10 32 _ (by simp[hsl0]) hd10;obtain rfl:=hI.w12 (by decide) hb;refine vU (f:=226) (args:=#[.string (mkS s),.string ⟨#[46]⟩]) (NE a h32 _) ?_;refine(Tryz.strings_TrimSuffix (mkS s) ⟨#[46]⟩ _ hsl).mono ?_;rintro e w'' ⟨rfl,rfl⟩;exact⟨.string (mkS (Lib.trimSuffix s [46])),rfl,hI.pure ok (by simp[hsl0]) (by decide) hb⟩
      ·
       obtain rfl:=U6 (ho.symm.trans (rfl:_=I _));refine aD ho rfl ?_;have hall:∀j,j<12->b j=Y:=λj hj=>by
        rcases Tm (by omega:j<13) with rfl|rfl|rfl|rfl|rfl|rfl|rfl|rfl|rfl|rfl|rfl|rfl|rfl
        all_goals first|omega|exact hdep ⟨_,.phase⟩ (by simp) rfl
       have h22:a.eval (.tmp 22)=.map (I w.heap.size):=hI.slot 0 22 _ (by simp[hsl0]) (hall 0 (by decide));have h31:a.eval (.tmp 31)=kv (x.1,x.2.1+i,x.2.2):=hI.slot 9 31 _ (by simp[hsl0]) (hall 9 (by decide));have h33:a.eval (.tmp 33)=.string (mkS (Lib.trimSuffix s [46])):=hI.slot 11 33 _ (by simp[hsl0]) (hall 11 (by decide));exact hI.lay hb hall hMx (by omega) hkn (by omega) rfl rfl h22 h31 h33 ok (λ_ h=>h)
     ·
      intro b a w' hI hall;obtain⟨⟨ts,rfl,hts⟩,hsm,_,_,hw⟩:=hI;obtain⟨hMf,hgf⟩:=hw.1 (hall 12 (by decide));obtain⟨ts⟩:=ts
      match ts,hts with
      |t0::t1::t2::t3::t4::t5::t6::t7::t8::t9::t10::t11::t12::t13::t14::t15::t16::t17::t18::t19::t20::t21::t22::t23::t24::t25::t26::t27::t28::t29::t30::t31::t32::t33::t34::t35::[],_=>
       obtain rfl:t0=.map O:=hsm 0 (Or.inl (by decide));obtain rfl:t1=.map (I w.heap.size):=hsm 1 (Or.inl (by decide));obtain rfl:t2=.pointer (I ⟨S,0,O⟩):=hsm 2 (Or.inl (by decide));obtain rfl:t3=.string (mkS c):=hsm 3 (Or.inl (by decide));obtain rfl:t6=.map (I w.heap.size):=hsm 6 (Or.inl (by decide));obtain rfl:t7=.map (I Br):=hsm 7 (Or.inl (by decide));obtain rfl:t8=.pointer (I ⟨R,0,O⟩):=hsm 8 (Or.inl (by decide));obtain rfl:t9=.tuple #[.bool Y,kv x,.string (mkS c)]:=hsm 9 (Or.inl (by decide));obtain rfl:t10=.bool Y:=hsm 10 (Or.inl (by decide));obtain rfl:t11=.tuple #[.agg #[.int .i64 x.1,.int .i64 x.2.1,.bool x.2.2],.string (mkS c)]:=hsm 11 (Or.inl (by decide));obtain rfl:t12=.agg #[.int .i64 x.1,.int .i64 x.2.1,.bool x.2.2]:=hsm 12 (Or.inl (by decide));obtain rfl:t13=.string (mkS c):=hsm 13 (Or.inl (by decide));obtain rfl:t14=.string (mkS c):=hsm 14 (Or.inl (by decide));obtain rfl:t15=.slice (I ⟨S+1,0,O⟩) fs.length fs.length:=hsm 15 (Or.inl (by decide));obtain rfl:t16=.int .i64 fs.length:=hsm 16 (Or.inl (by decide));obtain rfl:t17=.int .i64 i:=hsm 17 (Or.inl (by decide));obtain rfl:t35=undef:=hsm 35 (Or.inr (by decide));have hrgd:wr.drew.ranges PP TW (plainElem PP TS) Br R 31 D1 left1 cnt1:=hrgx;have hrg4:=hrgd.kept hgf (λe=>by have:=U6 e;omega) (λe=>by have:=U6 e;omega);have hcld:Cl x fs S wr.drew:=⟨hclx.c0,hclx.c1,hclx.c2,hclx.fs⟩
       have hcl4:=hcld.kept hgf (by omega);have hb4:=hbx.drew.grown hgf hbx.drew.size (λj hj=>by cases hj;exact U7 _);clear hsm hw
       go_wp2
       go_roundw
       case rel=>
        refine⟨i+1,n'+1,_,by first|rfl|(simp;unfold wrap64;omega),by omega,hrg4,hMf,by omega,λz=>?_,hb4,hcl4⟩;have e0:bQ L.nameTbl (pIn left1 x (i+1)) z=bQ L.nameTbl (λk=>pIn left1 x i k||zaf (k=(x,i))) z:=lX (λt _=>by
         unfold pIn;by_cases h:t.1.1=x
         ·by_cases h2:t.1.2=i
          ·have:t.1=(x,i):=Prod.ext h h2;simp[this]
          ·have:¬t.1=(x,i):=λe=>h2 (by rw[e])
           simp only[h,if_true,this,decide_false,Bool.or_false];exact decide_eq_decide.2 (by omega)
         ·have:¬t.1=(x,i):=λe=>h (by rw[e])
          simp[h,this]) z
        rw[e0];have e1:=uL FO IC (b:=pIn left1 x i) hent z;simp only at e1;rw[e1,hfx]
       case measure=>simp[intOf];omega
    ·have hie:i=fs.length:=by omega
     subst hie
     go_wp2
     go_roundw
     case rel=>exact⟨left1,cnt1,n',f',hrgx,hld1,hMx,by omega,λz=>by rw[hfx,hpEnd],hbx⟩
     case measure=>rw[hrgx.left_eq,hrg.left_eq];exact hlt
end
end Rv
namespace Rv
open Go Go.RowKit Go.Proofs Go.Maps
noncomputable section
set_option maxRecDepth 1000000
theorem IB(x:NK):pY x=(L.nameTbl.find? λe=>e.2.1 == x).map (·.2.2):=by
 unfold pY bQ;generalize L.nameTbl=l
 induction l with
 |nil=>rfl
 |cons e l ih=>
  rw[List.find?_cons,List.findSome?_cons];by_cases h:e.2.1=x;·simp[h]
  ·have:(e.2.1 == x)=Z:=by simpa using h
   simpa[this,h] using ih
theorem LJ{w:U}{B n:F}{k o:E}{u:zah}(hM:bK w B n pY)(hk:okK (k,o,u)):(Instr.lookup TM (.map (I B)) (.agg #[.int .i64 k,.int .i64 o,.bool u]) Z).run PP w=.ok (.string (mkS (L.mnemR k o u))) w:=by
 have:=hM.look (k,o,u) hk;rw[IB] at this;exact this
theorem LK(k o:E)(u:zah)(hk:okK (k,o,u))(m:E)(w:U)(hm:w.cell? ⟨0,0,O⟩=I (.int .i64 m)) (htab:Lib.TabIs PP w "strings.asciiSpace" .u8 Lib.asciiSpaceTab) :
  Calls PP 125 #[.int .i64 k,.int .i64 o,.bool u] w λe w'=>e=.returned (.string (mkS (L.mnemR k o u)))/\Below w.heap.size w w':=by
 go_enter Tryz.func125,Tryz.ntmps125
 go_wp2_with (go_at_call 179;refine(zO m _ hm htab).mono ?_;rintro e wa ⟨B,rfl,hB,hM,hb⟩;have hl:=LJ hM hk)
 go_ret
 exact⟨rfl,hb⟩
theorem vH{fn:Func}{t u v x:Tmp}(h:fn.results=#[.tmp t,.tmp u,.tmp v,.tmp x])(tmps:Array N)(P:Program)(w:U) :
  (results fn tmps).run P w=.ok (.tuple #[tmps.getD t undef,tmps.getD u undef,tmps.getD v undef,tmps.getD x undef]) w:=by
 simp[results,h]
theorem P5:L.nameTbl.Pairwise λa b=>a.2.2≠b.2.2:=by decide +kernel
theorem PZ{x:NK}{s:Str}(h:pY x=I s):∃i,(i,x,s)∈L.nameTbl:=by
 rw[IB] at h;obtain⟨e,he,hs⟩:=Option.map_eq_some_iff.1 h;have h1:=List.mem_of_find?_eq_some he;have h2:=List.find?_some he;have h3:e.2.1=x:=by simpa using h2
 exact⟨e.1,by rw[<- h3,<- hs];exact h1⟩
theorem Sg:∀e∈L.nameTbl,pY e.2.1=I e.2.2:=by
 intro e he;have:=uL FO IC (b:=λ_=>Y) he e.2.1;simp only[Bool.true_or,if_true] at this;exact this
theorem RG{x:NK}{s:Str}(h:pY x=I s):L.ofR s=(x.1,x.2.1,x.2.2,Y,()):=by
 obtain⟨i,hm⟩:=PZ h;unfold L.ofR;cases hf:L.nameTbl.find? λe=>e.2.2 == s with
 |none=>
  have:=List.find?_eq_none.1 hf _ hm;simp at this
 |some e=>
  have h1:=List.mem_of_find?_eq_some hf;have h2:e.2.2=s:=by simpa using List.find?_some hf
  have:e=(i,x,s):=by
   have hp:=P5;revert hp h1 hm;generalize L.nameTbl=l;intro hm h1 hp
   induction hp with
   |nil=>simp at h1
   |cons ha _ ih=>
    rcases Vg.1 h1 with e1|h1'
    ·rcases Vg.1 hm with e2|hm'
     ·rw[e1,e2]
     ·exact absurd h2 (by rw[e1];exact ha _ hm')
    ·rcases Vg.1 hm with e2|hm'
     ·exact absurd h2.symm (by have:=ha _ h1';rw[<- e2] at this;exact this)
     ·exact ih hm' h1'
  subst this;rfl
theorem O5{s:Str}(h:∀x r,pY x=I r->r≠s):L.ofR s=(0,0,Z,Z,()):=by
 unfold L.ofR;cases hf:L.nameTbl.find? λe=>e.2.2 == s with
 |none=>rfl
 |some e=>
  have h1:=List.mem_of_find?_eq_some hf;have h2:e.2.2=s:=by simpa using List.find?_some hf
  exact absurd h2 (h e.2.1 e.2.2 (Sg e h1))
set_option maxHeartbeats 4000000 in
theorem RJ(s:Str)(m:E)(w:U)(hm:w.cell? ⟨0,0,O⟩=I (.int .i64 m)) (htab:Lib.TabIs PP w "strings.asciiSpace" .u8 Lib.asciiSpaceTab) :
  Calls PP 153 #[.string (mkS s)] w λe w'=>e=.returned (.tuple #[.int .i64 (L.ofR s).1,.int .i64 (L.ofR s).2.1,.bool (L.ofR s).2.2.1,.bool (L.ofR s).2.2.2.1])/\Below w.heap.size w w':=by
 have mixed:PP.follows .mixedOrders=Y:=by kernel_rfl
 go_enter Tryz.func153,Tryz.ntmps153
 go_wp2_with (first
  |(go_at_call 179;refine(zO m _ hm htab).mono ?_;rintro e wa ⟨B,rfl,hB,hM,hb⟩;obtain⟨D,ho,hD1,hD2⟩:=hM)
  |(at_range;refine wpList_range_own _ rfl _ TM rfl TW TS lD wP _ B 100000 _ rfl ho ?_;intro w0 hrg0 hg0 hs0)
  |go_in)
 go_frame
 have hsa:=hb.size;have hlt0:=ho.lt;obtain⟨R,hR⟩:∃R,R=wa.heap.size:=⟨_,rfl⟩
 rw[<- hR] at hrg0 hs0 hsa hlt0⊢;have hbw0:Below w.heap.size w w0:=hb.grown hg0 (by rw[<- hR];exact hsa) (λj hj=>by cases hj);clear ho hb hR hg0 hs0
 go_loopw [6] (λ_ wr=>∃left cnt,wr.ranges PP TW (plainElem PP TS) B R 100000 D left cnt/\(∀l,left l=Y->has D l=Y)/\(∀k r,pY k=I r->left (kl k)=Z->r≠s)/\Below w.heap.size w wr)
  (λ_ wr=>wr.rangeLeft B R)
 case atStart=>
  exact⟨_,_,hrg0,λ_ h=>h,λk r hk hl=>(by rw[(hD2 k r hk).2.1] at hl;cases hl),hbw0⟩
 case round=>
  obtain⟨left,cnt,hrg,hld,hno,hbw⟩:=hrel
  go_wp2_with (first
   |(at_next;refine wpList_next_ranges _ rfl _ rfl TW lD (plainElem PP TS) (λx:KB=>kv x.k) (λs:Str=>Value.string (mkS s)) Qi Qj B R 100000 D left cnt rfl hrg ?_ ?_)
   |go_in)
  ·intro hc0 hl0;have hmiss:=O5 (s:=s) λx r hx=>hno x r hx (hl0 _)
   go_wp2
   try simp only[Exit.inBlock,Exit.then]
   refine bodyPost_ret (vH rfl _ _ _) rfl ?_;rw[hmiss];exact⟨rfl,hbw⟩
  ·intro⟨x⟩ c l ya yb w1 cnt1 hkx hlx hcv hat hrg1 hlt hg1 hs1 hen;obtain⟨hok,rfl⟩:=uK hkx;obtain⟨k',hok',hkl',hrf⟩:=hD1 _ (hld _ hlx);obtain rfl:=qB hok hok' hkl';obtain⟨r,hr⟩:=VU.1 hrf;obtain rfl:c=r:=by
    obtain⟨s',e1,e2⟩:=rA hcv;have e3:=(hD2 x r hr).2.2 (.lit (.bool Z));rw[hat] at e3;have e4:s'=r:=by
     have:=e2.symm.trans e3;simpa using this
    have e5:c=s':=by
     have:=zaj (λv=>match v with|Value.string b=>b.data.toList|_=>[]) e1;simpa[mkS] using this
    rw[e5,e4]
   simp only at hok hr hen hkx hlx;have hbw1:Below w.heap.size w w1:=hbw.grown hg1 hbw.size (λj hj=>by cases hj;omega);have hen':(Instr.entry (.pointer (I ⟨R,0,O⟩))).run PP w1=.ok (.tuple #[.agg #[.int .i64 x.1,.int .i64 x.2.1,.bool x.2.2],.string (mkS c)]) w1:=hen;obtain⟨S,hS⟩:∃S,w1.heap.size=S:=⟨_,rfl⟩
   clear hen hcv hat hkx hs1;have hbw2:=hbw1.alloc hbw1.size (.cells #[.int .i64 x.1,.int .i64 x.2.1,.bool x.2.2] TW);by_cases hcs:c=s
   ·have hhit:=RG (hcs ▸ hr);subst hcs;have hA:=(MapKept.heap_alloc w1 (.cells #[.int .i64 x.1,.int .i64 x.2.1,.bool x.2.2] TW)).1;rw[hS] at hA;have c0:(w1.alloc (.cells #[.int .i64 x.1,.int .i64 x.2.1,.bool x.2.2] TW)).cell? ⟨S,0,O⟩=I (.int .i64 x.1):=by rw[Lib.cell_of_heap hA];rfl
    have c1:(w1.alloc (.cells #[.int .i64 x.1,.int .i64 x.2.1,.bool x.2.2] TW)).cell? ⟨S,1,O⟩=I (.int .i64 x.2.1):=by rw[Lib.cell_of_heap hA];rfl
    have c2:(w1.alloc (.cells #[.int .i64 x.1,.int .i64 x.2.1,.bool x.2.2] TW)).cell? ⟨S,2,O⟩=I (.bool x.2.2):=by rw[Lib.cell_of_heap hA];rfl
    go_wp2
    go_region_o
    all_goals (go_wp2;(try simp only[Exit.inBlock,Exit.then]);refine bodyPost_ret (vH rfl _ _ _) rfl ?_;rw[hhit];exact⟨rfl,hbw2.drew⟩)
   ·have hne:((mkS c).toList == (mkS s).toList)=Z:=(Lib.bytes_beq_false_iff _ _).2 λe=>hcs (by
     have:=zaj (λb:ByteArray=>b.data.toList) e;simpa[mkS] using this)
    go_wp2
    have hrg2:=hrg1.alloc (.cells #[.int .i64 x.1,.int .i64 x.2.1,.bool x.2.2] TW)
    go_roundw
    case rel=>
     refine⟨_,cnt1,hrg2,λl h=>?_,λk r' hk hl=>?_,hbw2⟩;·simp only[Va] at h;exact hld l h.1
     ·by_cases hkx:k=x
      ·subst hkx;rw[hr] at hk;cases hk;exact hcs
      ·have hne':kl k≠kl x:=λe'=>hkx (qB (hD2 k r' hk).1 hok e')
       rw[sameKey_ne hne'] at hl;exact hno k r' hk (by simpa using hl)
    case measure=>rw[hrg2.left_eq,hrg.left_eq];exact hlt
end
end Rv
namespace Rv
open Go Go.RowKit Go.Proofs
noncomputable section
set_option maxRecDepth 1000000
abbrev SP:Program:=Tryz.prog
abbrev opW(w:U)(t:zac)(v:N)(f1 f2:FuncId):U:=
 (w.alloc (.cells #[v] t)).alloc (.cells #[.func (.func f1) #[] #[.pointer (I ⟨w.heap.size,0,O⟩)],.func (.func f2) #[] #[.pointer (I ⟨w.heap.size,0,O⟩)]] 180)
abbrev opV(B:F)(f1 f2:FuncId):N:=.agg #[.func (.func f1) #[] #[.pointer (I ⟨B,0,O⟩)],.func (.func f2) #[] #[.pointer (I ⟨B,0,O⟩)]]
theorem vG{fn:Func}{u:Tmp}{t:zac}(h:fn.results=#[.cell u t]){tmps:Array N}{a:Addr}{P:Program}{w:U}{v:N}(ha:tmps.getD u undef=.pointer (I a))(hv:(loadVar t a).run P w=.ok v w) :
  (results fn tmps).run P w=.ok v w:=by
 have e:asAddr (tmps.getD u undef)=pure a:=by rw[ha];rfl
 unfold results;rw[h];simp only[List.mapM_toArray,List.mapM_cons,List.mapM_nil,e];simp[hv,Result.andThen]
theorem Pz(g:FuncId)(w:U):Calls SP 180 #[.func (.func g) #[] #[]] w λe w'=>
  e=.returned (opV w.heap.size 227 228)/\w'=opW w 236 (.func (.func g) #[] #[]) 227 228:=by
 go_enter Tryz.func180,Tryz.ntmps180
 go_wp2
 refine bodyPost_ret (v:=opV w.heap.size 227 228) (vG rfl rfl ?_) rfl ⟨rfl,rfl⟩
 go_simp
theorem EK(s:ByteArray)(w:U):Calls SP 184 #[.string s] w λe w'=>
  e=.returned (opV w.heap.size 229 231)/\w'=opW w 9 (.string s) 229 231:=by
 go_enter Tryz.func184,Tryz.ntmps184
 go_wp2
 refine bodyPost_ret (v:=opV w.heap.size 229 231) (vG rfl rfl ?_) rfl ⟨rfl,rfl⟩
 go_simp
abbrev TMo:zac:=238
theorem RV{P:Program}{mt kt vt:zac}(hm:P.underlying mt=I (.map kt vt))(hk:P.underlying kt=I (.int .i64)){W:U}{B:F}{es:Array MapEntry}{cl:F}{n:E}{val:N}(hB:B=W.heap.size)(hf:Instr.findNow (.int .i64) (.int .i64 n) es.toList 0=I O) :
  (Instr.mapUpdate mt (.map (I B)) (.int .i64 n) val).run P (W.alloc (.map es cl))=.ok () (W.alloc (.map (es.push { key:=.int .i64 n,val:=val,born:=cl }) (cl+1))):=by
 subst hB;have hb:(W.alloc (.map es cl)).heap[W.heap.size]?=I (.map es cl):=by
  show(W.heap.push (.map es cl))[W.heap.size]?=_;exact Array.getElem?_push_size
 have hc:(Instr.checkKey Z 10000 kt (.int .i64 n)).run P (W.alloc (.map es cl))=.ok () (W.alloc (.map es cl)):=MapKept.run_checkKey (k:=.int .i64 n) hk (by simp[MapKept.IsKey]) Z 9999;generalize hX:W.alloc (.map es cl)=X at hb hc⊢;have h1:(Instr.mapUpdate mt (.map (I W.heap.size)) (.int .i64 n) val).run P X=.ok () { X with heap:=X.heap.setIfInBounds W.heap.size (.map (es.push { key:=.int .i64 n,val:=val,born:=cl }) (cl+1)) }:=by
  unfold Instr.mapUpdate;rw[Vl,run_underlying hm];simp only[U8];rw[Vl,MapKept.run_getObj_map hb];simp only[U8];rw[Vl,hc];simp only[U8];rw[Vl,MapKept.run_findKey hk hf];simp only[U8];exact MapKept.run_setObj_map _ hb
 rw[h1];subst hX;have h2:(W.heap.push (.map es cl)).setIfInBounds W.heap.size (.map (es.push { key:=.int .i64 n,val:=val,born:=cl }) (cl+1))=W.heap.push (.map (es.push { key:=.int .i64 n,val:=val,born:=cl }) (cl+1)):=by
  apply Array.ext';rw[Array.toList_setIfInBounds,Array.toList_push,Array.toList_push,List.set_append_right _ _ (by simp)];simp
 show Result.ok () { (W.alloc (.map es cl)) with heap:=(W.heap.push (.map es cl)).setIfInBounds W.heap.size _ }=_;rw[h2];rfl
theorem OE{P:Program}{mt kt vt:zac}(hm:P.underlying mt=I (.map kt vt))(hk:P.underlying kt=I (.int .i64)){W:U}{B:F}{es:Array MapEntry}{cl i:F}{n:E}{val:N}(hb:W.heap[B]?=I (.map es cl))(hf:Instr.findNow (.int .i64) (.int .i64 n) es.toList 0=I (I (i,val))) :
  (Instr.lookup mt (.map (I B)) (.int .i64 n) Z).run P W=.ok val W:=by
 have hc:∀b,(Instr.checkKey b 10000 kt (.int .i64 n)).run P W=.ok () W:=λb=>MapKept.run_checkKey (k:=.int .i64 n) hk (by simp[MapKept.IsKey]) b 9999
 simp[Instr.lookup,run_underlying hm,MapKept.run_getObj_map hb,hc,MapKept.run_findKey hk hf,Result.andThen]
theorem Il{W:U}{B:F}{es:Array MapEntry}{cl:F}{n:E}{val:N}(hB:B=W.heap.size)(hf:Instr.findNow (.int .i64) (.int .i64 n) es.toList 0=I O) :
  (Instr.mapUpdate TMo (.map (I B)) (.int .i64 n) val).run SP (W.alloc (.map es cl))=.ok () (W.alloc (.map (es.push { key:=.int .i64 n,val:=val,born:=cl }) (cl+1))):=
 RV Tryz.underlying238 Tryz.underlying3 hB hf
theorem rT{W:U}{B:F}{es:Array MapEntry}{cl i:F}{n:E}{val:N}(hb:W.heap[B]?=I (.map es cl))(hf:Instr.findNow (.int .i64) (.int .i64 n) es.toList 0=I (I (i,val))) :
  (Instr.lookup TMo (.map (I B)) (.int .i64 n) Z).run SP W=.ok val W:=
 OE Tryz.underlying238 Tryz.underlying3 hb hf
end
end Rv
namespace Rv
open Go Go.RowKit Go.Proofs
noncomputable section
set_option maxRecDepth 1000000
def Nc(p:Prop):Prop:=p
theorem UU{p:Prop}(h:p):Nc p:=h
theorem Nc.out{p:Prop}(h:Nc p):p:=h
def eu:U->zab Obj->U
 |w,[]=>w
 |w,o::l=>eu (w.alloc o) l
theorem fU:∀(l:zab Obj) (w:U),(eu w l).heap.size=w.heap.size+l.length/\(∀i,i<w.heap.size->(eu w l).heap[i]?=w.heap[i]?)/\∀i,(eu w l).heap[w.heap.size+i]?=if i<l.length then l[i]? else O
 |[],w=>⟨by simp[eu],λi hi=>rfl,λi=>by simp[eu]⟩
 |o::l,w=>by
  obtain⟨h1,h2,h3⟩:=fU l (w.alloc o);have hs:(w.alloc o).heap.size=w.heap.size+1:=by show(w.heap.push o).size=_;simp
  have ho:∀i,i<w.heap.size->(w.alloc o).heap[i]?=w.heap[i]?:=λi hi=>by
   show(w.heap.push o)[i]?=_;rw[Array.getElem?_push,zai (by omega)]
  have hn:(w.alloc o).heap[w.heap.size]?=I o:=by
   show(w.heap.push o)[w.heap.size]?=_;exact Array.getElem?_push_size
  refine⟨by simp only[eu];rw[h1,hs];simp;omega,λi hi=>?_,λi=>?_⟩
  ·simp only[eu];rw[h2 i (by omega),ho i hi]
  ·simp only[eu];cases i with
   |zero=>rw[Nat.add_zero,h2 _ (by omega),hn];simp
   |succ i=>
    have:=h3 i;rw[hs] at this;rw[show w.heap.size+(i+1)=w.heap.size+1+i by omega,this];simp
theorem sz(w:U)(o:Obj):(w.alloc o).heap.size=w.heap.size+1:=by show(w.heap.push o).size=_;simp
def fn2(B:F)(f1 f2:FuncId):Obj:=.cells #[.func (.func f1) #[] #[.pointer (I ⟨B,0,O⟩)],.func (.func f2) #[] #[.pointer (I ⟨B,0,O⟩)]] 180
def opsL(B:F):zab Obj:=[
 .cells #[.func (.func 181) #[] #[]] 236,fn2 B 227 228,fn2 B 227 228,
 .cells #[.func (.func 182) #[] #[]] 236,fn2 (B+3) 227 228,fn2 (B+3) 227 228,
 .cells #[.func (.func 183) #[] #[]] 236,fn2 (B+6) 227 228,fn2 (B+6) 227 228,
 .cells #[.string ⟨#[]⟩] 9,fn2 (B+9) 229 231,fn2 (B+9) 229 231,
 .cells #[.func (.func 185) #[] #[],.func (.func 186) #[] #[]] 180]
abbrev OT:Ty:=.pair .fn (.pair .fn .nil)
def JV(g:FuncId):OT.D:=((227,[.cf (g,[])]),(228,[.cf (g,[])]),())
def OZ(s:Str):OT.D:=((229,[.c0 (.cs s)]),(231,[.c0 (.cs s)]),())
def opA:OT.D:=JV 181
def opB:OT.D:=JV 182
def opC:OT.D:=JV 183
def opE:OT.D:=OZ []
def opQ:OT.D:=OZ [61]
def opN:OT.D:=((185,[]),(186,[]),())
def opsR(k o:E):zab OT.D:=
 if k=1 then(if o=0 then[opA,opC] else[opA,opB,opC]) else
 if k=2 then(if o=0 then[opA,opE] else[opA,opB,opE]) else
 if k=3\/k=4 then[opA] else
 if k=5 then[opA,opB,opE] else
 if k=6 then[opC] else
 if k=7\/k=9 then[opE] else
 if k=8 then[opA,opQ] else
 if k=10 then[opN] else[]
theorem G8{t:Ty}{w:U}{ok:F->Prop}:∀{xs:zab t.D}{dss:zab (zab N)}{i:F}{x:t.D},ai (λx ds=>Rd w ok t x ds) xs dss->xs[i]?=I x->∃ds,Rd w ok t x ds/\∀j v,ds[j]?=I v->dss.flatten[i*t.size+j]?=I v
 |[],_,i,x,_,h=>by simp at h
 |_::_,[],_,_,h,_=>h.elim
 |y::xs,ds::dss,0,x,h,hx=>by
  simp only[Vy,U5] at hx;subst hx;refine⟨ds,h.1,λj v hj=>?_⟩;have:=(Vi.1 hj).1;rw[List.flatten_cons,Nat.zero_mul,Nat.zero_add,VN this];exact hj
 |y::xs,ds::dss,i+1,x,h,hx=>by
  obtain⟨d,h1,h2⟩:=G8 h.2 (i:=i) (by simpa using hx);refine⟨d,h1,λj v hj=>?_⟩;have hl:=h.1.length;rw[List.flatten_cons,List.getElem?_append_right (by rw[hl,Nat.succ_mul];omega),hl];rw[show(i+1)*t.size+j-t.size=i*t.size+j by rw[Nat.succ_mul];omega];exact h2 j v hj
theorem Mo{t:Ty}{w:U}{ok:F->Prop}{g:F}{cs:Array N}{T:zac}{xs:zab t.D}{dss:zab (zab N)}(hg:w.heap[g]?=I (.cells cs T (0,0)))(hok:ok g)(hd:ai (λx ds=>Rd w ok t x ds) xs dss)(hc:cs.toList=dss.flatten){n:F}(hn:n=xs.length) :
  Rd w ok (.sl t) xs [.slice (I ⟨g,0,O⟩) n n]:=by
 subst hn;refine⟨_,_,rfl,U7 _,λi x hx=>?_⟩;obtain⟨ds,h1,h2⟩:=G8 hd hx;refine⟨g,0,ds,rfl,hok,(Array.getElem?_eq_some_iff.1 hg).1,h1,λj v hj=>?_⟩;have:=h2 j v hj;unfold World.cell?;simp only[hg,Nat.zero_add];rw[<- hc] at this;simpa using this
structure oL (B:F) (w:U):Prop where
 at_:∀i,i<13->w.heap[B+i]?=(opsL B)[i]?
 lt:B+13<=w.heap.size
theorem oL.cell{B:F}{w:U}(H:oL B w){i:F}(hi:i<13){v:N}{t:zac}(h:(opsL B)[i]?=I (.cells #[v] t (0,0))):w.cell? ⟨B+i,0,O⟩=I v:=by
 have:=(H.at_ i hi).trans h;unfold World.cell?;simp only[this];rfl
theorem oL.reg{B:F}{w:U}(H:oL B w){i:F}{g:FuncId}(hi:i<13)(h:(opsL B)[i]?=I (.cells #[.func (.func g) #[] #[]] 236 (0,0))):Rd w (λg=>B<=g) OT (JV g) [fnV 227 [B+i],fnV 228 [B+i]]:=by
 have hc:oK w (λg=>B<=g) (B+i) (.cf (g,[])):=⟨Nat.le_add_right _ _,by have:=H.lt;omega,[],H.cell hi h,trivial⟩
 exact⟨[_],[_],rfl,⟨[B+i],rfl,hc,trivial⟩,[_],[],rfl,⟨[B+i],rfl,hc,trivial⟩,rfl⟩
theorem Mm{B g:F}{w:U}{s:Str}(h:w.cell? ⟨g,0,O⟩=I (.string (mkS s)))(hB:B<=g)(hg:g<w.heap.size):Rd w (λg=>B<=g) OT (OZ s) [fnV 229 [g],fnV 231 [g]]:=by
 have hc:oK w (λg=>B<=g) g (.c0 (.cs s)):=⟨hB,hg,h⟩
 exact⟨[_],[_],rfl,⟨[g],rfl,hc,trivial⟩,[_],[],rfl,⟨[g],rfl,hc,trivial⟩,rfl⟩
theorem oL.num{B:F}{w:U}(H:oL B w):Rd w (λg=>B<=g) OT opE [fnV 229 [B+9],fnV 231 [B+9]]:=Mm (H.cell (i:=9) (by omega) rfl) (by omega) (by have:=H.lt;omega)
theorem TH{ok:F->Prop}{w:U}:Rd w ok OT opN [fnV 185 [],fnV 186 []]:=⟨[_],[_],rfl,⟨[],rfl,trivial⟩,[_],[],rfl,⟨[],rfl,trivial⟩,rfl⟩
theorem qV:∀(l:zab Obj) {w0 w:U},Below w0.heap.size w0 w->w0.heap.size<=w.heap.size->Below w0.heap.size w0 (eu w l)
 |[],_,_,h,_=>h
 |o::l,_,w,h,hs=>qV l (h.alloc hs o) (by rw[sz];omega)
theorem Ti{X:U}{g:F}{u v:N}(h0:X.cell? ⟨g,0,O⟩=I u)(h1:X.cell? ⟨g,1,O⟩=I v):(Instr.loadAt 180 (.pointer (I ⟨g,0,O⟩))).run SP X=.ok (.agg #[u,v]) X:=by go_simp
theorem Qo{X:U}{g:F}{u v:N}(h0:X.cell? ⟨g,0,O⟩=I u)(h1:X.cell? ⟨g,1,O⟩=I v){a:Act}{o:Oper}{t:Tmp}(ho:o.op=.load 180 (.tmp t))(ht:a.eval (.tmp t)=.pointer (I ⟨g,0,O⟩)):(execOp a.eval o).run SP X=.ok (.value (.agg #[u,v])) X:=by
 have h:=Ti h0 h1;simp[execOp,ho,ht,h,Result.andThen]
theorem KV:∀args w,(callFunc 184 args).run SP w=.ok (.enter 184 args) w:=enters_of Tryz.func184 (by kernel_rfl) rfl
theorem Rn{X:U}{g:F}{u v:N}(h0:X.cell? ⟨g,0,O⟩=I u)(h1:X.cell? ⟨g,1,O⟩=I v){a:Act}{o:Oper}{t:Tmp}(ho:o.op=.load 180 (.tmp t))(ht:a.eval (.tmp t)=.pointer (I ⟨g,0,O⟩)):(execOp a.eval o).run SP X.drew=.ok (.value (.agg #[u,v])) X.drew:=
 Qo (X:=X.drew) h0 h1 ho ht
theorem ND{X:U}{a:Act}{o:Oper}{s:ByteArray}{t:zac}(ho:o.op=.call { callee:=.value (.func 184),args:=#[.const (.string s)],argTypes:=#[t] }):(execOp a.eval o).run SP X=.ok (.enter 184 #[.string s]) X:=by
 have hf:a.eval (.func 184)=.func (.func 184) #[] #[]:=rfl;have hc:∀v,a.eval (.const v)=v:=λ_=>rfl
 simp[execOp,ho,resolve,Deferred.ofValue,invoke,hf,hc,KV]
theorem LY{X:U}{a:Act}{o:Oper}{s:ByteArray}{t:zac}(ho:o.op=.call { callee:=.value (.func 184),args:=#[.const (.string s)],argTypes:=#[t] }){K:Act->U->Prop}{Q:Exit->Act->U->Prop}
  (hK:K (a.put o.dst (opV X.heap.size 229 231)) (opW X 9 (.string s) 229 231)):o.wp SP a X K Q:=by
 unfold Oper.wp;rw[ND ho,Oper.upon_enter];refine(EK s X).mono ?_;rintro e w' ⟨rfl,rfl⟩;exact hK
theorem BA{X:U}{o1 o2:Obj}{a:Addr}{v:N}(h:X.cell? a=I v)(hs:a.block<X.heap.size):((X.drew.alloc o1).alloc o2).cell? a=I v:=by
 rw[<- h];refine World.cell?_of_block ?_;show((X.heap.push o1).push o2)[a.block]?=X.heap[a.block]?;rw[Array.getElem?_push,zai (by rw[Array.size_push];omega),Array.getElem?_push,zai (by omega)]
structure DN (w W:U):Prop where
 size:W.heap.size=w.heap.size+13
 at_:∀i,i<13->W.heap[w.heap.size+i]?=(opsL w.heap.size)[i]?
 below:Below w.heap.size w W
theorem DN.at2{w W:U}(h:DN w W):∀(l:zab Obj),oL w.heap.size (eu W l)/\Below w.heap.size w (eu W l):=λl=>by
 obtain⟨h1,h2,_⟩:=fU l W;have hs:=h.size;exact⟨⟨λi hi=>by rw[h2 _ (by omega)];exact h.at_ i hi,by omega⟩,qV l h.below (by omega)⟩
theorem Mi(W:U)(l:zab Obj)(o:Obj):(eu W (l++[o])).heap[W.heap.size+l.length]?=I o:=by
 rw[(fU _ W).2.2];simp
abbrev qc(k o:E)(w:U)(e:Ending)(w':U):Prop:=Below w.heap.size w w'/\∃v,e=.returned v/\Rd w' (λg=>w.heap.size<=g) (.sl OT) (opsR k o) [v]
theorem fM{w W:U}(h:DN w W)(l:zab Obj){cs:Array N}{T:zac}{xs:zab OT.D}{dss:zab (zab N)}{g n:F}(hg:g=W.heap.size+l.length)(hn:n=xs.length)(hc:cs.toList=dss.flatten)
  (hd:oL w.heap.size (eu W (l++[.cells cs T (0,0)]))->ai (λx ds=>Rd (eu W (l++[.cells cs T (0,0)])) (λg=>w.heap.size<=g) OT x ds) xs dss) :
  Below w.heap.size w (eu W (l++[.cells cs T (0,0)]))/\∃v,Ending.returned (.slice (I ⟨g,0,O⟩) n n)=.returned v/\Rd (eu W (l++[.cells cs T (0,0)])) (λg=>w.heap.size<=g) (.sl OT) xs [v]:=by
 obtain⟨h1,h2⟩:=h.at2 (l++[.cells cs T (0,0)]);subst hg;have hs:=h.size;exact⟨h2,_,rfl,Mo (Mi W l _) (by omega) (hd h1) hc hn⟩
abbrev O9(w W:U)(mo:Obj):zab Obj:=[mo,.cells #[.string ⟨#[61]⟩] 9,.cells #[.func (.func 229) #[] #[.pointer (I ⟨W.heap.size+1,0,O⟩)],.func (.func 231) #[] #[.pointer (I ⟨W.heap.size+1,0,O⟩)]] 180]
theorem EO{w W:U}(h:DN w W)(o:E)(mo:Obj):qc 8 o w (.returned (.slice (I ⟨W.heap.size+1+1+1,0,O⟩) 2 2))
  (eu W (O9 w W mo++[.cells #[.func (.func 227) #[] #[.pointer (I ⟨w.heap.size,0,O⟩)],.func (.func 228) #[] #[.pointer (I ⟨w.heap.size,0,O⟩)],.func (.func 229) #[] #[.pointer (I ⟨W.heap.size+1,0,O⟩)],.func (.func 231) #[] #[.pointer (I ⟨W.heap.size+1,0,O⟩)]] 180])).drew:=by
 have hs:=h.size;obtain⟨h1,v,h2,h3⟩:=fM h (O9 w W mo) (cs:=#[.func (.func 227) #[] #[.pointer (I ⟨w.heap.size,0,O⟩)],.func (.func 228) #[] #[.pointer (I ⟨w.heap.size,0,O⟩)],.func (.func 229) #[] #[.pointer (I ⟨W.heap.size+1,0,O⟩)],.func (.func 231) #[] #[.pointer (I ⟨W.heap.size+1,0,O⟩)]]) (T:=180) (xs:=[opA,opQ]) (dss:=[[_,_],[_,_]]) (g:=W.heap.size+1+1+1) (n:=2) rfl rfl rfl λH=>⟨H.reg (i:=0) (by omega) rfl,Mm (s:=[61]) (by
  unfold World.cell?;have:=(fU (O9 w W mo++[.cells #[.func (.func 227) #[] #[.pointer (I ⟨w.heap.size,0,O⟩)],.func (.func 228) #[] #[.pointer (I ⟨w.heap.size,0,O⟩)],.func (.func 229) #[] #[.pointer (I ⟨W.heap.size+1,0,O⟩)],.func (.func 231) #[] #[.pointer (I ⟨W.heap.size+1,0,O⟩)]] 180]) W).2.2 1;rw[zae (by simp)] at this;simp only[this];rfl) (by omega) (by rw[(fU _ _).1];simp),trivial⟩
 refine⟨h1.drew,v,h2,h3.mono (U7 _) λg hg _=>⟨rfl,hg⟩⟩
set_option maxHeartbeats 4000000 in
theorem Pb(k o:E)(w:U):Calls SP 128 #[.int .i64 k,.int .i64 o] w (qc k o w):=by
 go_enter Tryz.func128,Tryz.ntmps128
 go_wp2_with (first
  |(go_at_call 180;refine(Pz _ _).mono ?_;rintro e wa ⟨rfl,rfl⟩)
  |(go_at_call 184;refine(EK _ _).mono ?_;rintro e wa ⟨rfl,rfl⟩)
  )
 simp only[opW,sz];show Oper.upon SP _ _ _ _ ((Sem.run SP (Instr.makeMap 238 O) (eu w (opsL w.heap.size))).andThen _);obtain⟨W,hW⟩:∃W,W=eu w (opsL w.heap.size):=⟨_,rfl⟩
 rw[<- hW];have hs:W.heap.size=w.heap.size+13:=by rw[hW,(fU _ _).1];rfl
 have hat:∀i,W.heap[w.heap.size+i]?=if i<13 then(opsL w.heap.size)[i]? else O:=λi=>by rw[hW,(fU _ _).2.2];rfl
 have hold:∀i,i<w.heap.size->W.heap[i]?=w.heap[i]?:=λi hi=>by rw[hW];exact(fU _ _).2.1 i hi
 have hob:∀(ob:Obj) (i:F),i<13->(W.alloc ob).heap[w.heap.size+i]?=(opsL w.heap.size)[i]?:=λob i hi=>by
  show(W.heap.push ob)[_]?=_;rw[Array.getElem?_push,zai (by omega),hat i,zae hi]
 have cc:∀(ob:Obj) (i:F) (cs:Array N) (t:zac) (j:F) (v:N),i<13->(opsL w.heap.size)[i]?=I (.cells cs t (0,0))->cs[j]?=I v->(W.alloc ob).cell? ⟨w.heap.size+i,j,O⟩=I v:=λob i cs t j v hi hc hv=>by
  have h:=(hob ob i hi).trans hc;unfold World.cell?;simp only[h];exact hv
 have a0:∀ob,(W.alloc ob).cell? ⟨w.heap.size+2,0,O⟩=I (.func (.func 227) #[] #[.pointer (I ⟨w.heap.size,0,O⟩)]):=λob=>cc ob 2 _ _ 0 _ (by omega) rfl rfl
 have a1:∀ob,(W.alloc ob).cell? ⟨w.heap.size+2,1,O⟩=I (.func (.func 228) #[] #[.pointer (I ⟨w.heap.size,0,O⟩)]):=λob=>cc ob 2 _ _ 1 _ (by omega) rfl rfl
 have b0:∀ob,(W.alloc ob).cell? ⟨w.heap.size+5,0,O⟩=I (.func (.func 227) #[] #[.pointer (I ⟨w.heap.size+3,0,O⟩)]):=λob=>cc ob 5 _ _ 0 _ (by omega) rfl rfl
 have b1:∀ob,(W.alloc ob).cell? ⟨w.heap.size+5,1,O⟩=I (.func (.func 228) #[] #[.pointer (I ⟨w.heap.size+3,0,O⟩)]):=λob=>cc ob 5 _ _ 1 _ (by omega) rfl rfl
 have c0:∀ob,(W.alloc ob).cell? ⟨w.heap.size+8,0,O⟩=I (.func (.func 227) #[] #[.pointer (I ⟨w.heap.size+6,0,O⟩)]):=λob=>cc ob 8 _ _ 0 _ (by omega) rfl rfl
 have c1:∀ob,(W.alloc ob).cell? ⟨w.heap.size+8,1,O⟩=I (.func (.func 228) #[] #[.pointer (I ⟨w.heap.size+6,0,O⟩)]):=λob=>cc ob 8 _ _ 1 _ (by omega) rfl rfl
 have e0:∀ob,(W.alloc ob).cell? ⟨w.heap.size+11,0,O⟩=I (.func (.func 229) #[] #[.pointer (I ⟨w.heap.size+9,0,O⟩)]):=λob=>cc ob 11 _ _ 0 _ (by omega) rfl rfl
 have e1:∀ob,(W.alloc ob).cell? ⟨w.heap.size+11,1,O⟩=I (.func (.func 231) #[] #[.pointer (I ⟨w.heap.size+9,0,O⟩)]):=λob=>cc ob 11 _ _ 1 _ (by omega) rfl rfl
 have n0:∀ob,(W.alloc ob).cell? ⟨w.heap.size+12,0,O⟩=I (.func (.func 185) #[] #[]):=λob=>cc ob 12 _ _ 0 _ (by omega) rfl rfl
 have n1:∀ob,(W.alloc ob).cell? ⟨w.heap.size+12,1,O⟩=I (.func (.func 186) #[] #[]):=λob=>cc ob 12 _ _ 1 _ (by omega) rfl rfl
 have HW:=UU (p:=DN w W) ⟨hs,λi hi=>by rw[hat i,zae hi],by rw[hW];exact qV _ (Below.refl _ _) (U7 _)⟩;clear hW hs hat hold hob cc;rw[run_makeMap];simp only[U8]
 go_wp2
 rw[Il rfl (by rfl)];simp only[U8]
 go_wp2
 rw[Il rfl (by rfl)];simp only[U8];rcases(show k=1\/k=2\/k=3\/k=4\/k=5\/k=6\/k=7\/k=8\/k=9\/k=10\/(k≠1/\k≠2/\k≠3/\k≠4/\k≠5/\k≠6/\k≠7/\k≠8/\k≠9/\k≠10) by omega) with rfl|rfl|rfl|rfl|rfl|rfl|rfl|rfl|rfl|rfl|hk
 ·by_cases ho:o=0
  ·subst ho
   go_wp2
   rw[rT (show(W.heap.push _)[W.heap.size]?=_ from Array.getElem?_push_size) rfl];simp only[U8]
   go_wp2
   go_ret
   exact fM HW.out [_] rfl rfl (dss:=[[_,_],[_,_]]) rfl λH=>⟨H.reg (i:=0) (by omega) rfl,H.reg (i:=6) (by omega) rfl,trivial⟩
  ·go_wp2
   rw[rT (show(W.heap.push _)[W.heap.size]?=_ from Array.getElem?_push_size) rfl];simp only[U8]
   go_wp2
   go_ret
   have e:opsR 1 o=[opA,opB,opC]:=by simp[opsR,ho]
   unfold qc;rw[e];exact fM HW.out [_] rfl rfl (dss:=[[_,_],[_,_],[_,_]]) rfl λH=>⟨H.reg (i:=0) (by omega) rfl,H.reg (i:=3) (by omega) rfl,H.reg (i:=6) (by omega) rfl,trivial⟩
 ·by_cases ho:o=0
  ·subst ho
   go_wp2
   rw[rT (show(W.heap.push _)[W.heap.size]?=_ from Array.getElem?_push_size) rfl];simp only[U8]
   go_wp2
   go_ret
   exact fM HW.out [_] rfl rfl (dss:=[[_,_],[_,_]]) rfl λH=>⟨H.reg (i:=0) (by omega) rfl,H.num,trivial⟩
  ·go_wp2
   rw[rT (show(W.heap.push _)[W.heap.size]?=_ from Array.getElem?_push_size) rfl];simp only[U8]
   go_wp2
   go_ret
   have e:opsR 2 o=[opA,opB,opE]:=by simp[opsR,ho]
   unfold qc;rw[e];exact fM HW.out [_] rfl rfl (dss:=[[_,_],[_,_],[_,_]]) rfl λH=>⟨H.reg (i:=0) (by omega) rfl,H.reg (i:=3) (by omega) rfl,H.num,trivial⟩
 ·go_wp2
  go_ret
  exact fM HW.out [_] rfl rfl (dss:=[[_,_]]) rfl λH=>⟨H.reg (i:=0) (by omega) rfl,trivial⟩
 ·go_wp2
  go_ret
  exact fM HW.out [_] rfl rfl (dss:=[[_,_]]) rfl λH=>⟨H.reg (i:=0) (by omega) rfl,trivial⟩
 ·go_wp2
  go_ret
  exact fM HW.out [_] rfl rfl (dss:=[[_,_],[_,_],[_,_]]) rfl λH=>⟨H.reg (i:=0) (by omega) rfl,H.reg (i:=3) (by omega) rfl,H.num,trivial⟩
 ·go_wp2
  go_ret
  exact fM HW.out [_] rfl rfl (dss:=[[_,_]]) rfl λH=>⟨H.reg (i:=6) (by omega) rfl,trivial⟩
 ·go_wp2
  go_ret
  exact fM HW.out [_] rfl rfl (dss:=[[_,_]]) rfl λH=>⟨H.num,trivial⟩
 ·go_wp2_with fail
  have mixed:SP.follows .mixedOrders=Y:=by kernel_rfl
  refine wp_region_any (by kernel_rfl) ?_;change wpAny _ _ _ _ _ _ _ (World.drew (W.alloc _));refine wpAny_ready (rs:=[0,1]) (by kernel_rfl) (by simp) ?_;refine AllReady.cons rfl (λK hK=>?_) (AllReady.cons rfl (λK hK=>?_) AllReady.nil)
  ·rw[zae (by rfl)];refine(eP (Rn (a0 _) (a1 _) (by rfl) (by rfl)) (hK _ _ ?_));clear hK K;refine wpAny_ready (rs:=[1]) (by kernel_rfl) (by simp) ?_;refine AllReady.cons rfl (λK hK=>?_) AllReady.nil;rw[zae (by rfl)];refine(LY (by rfl) (hK _ _ ?_));clear hK K;refine wpAny_ready (rs:=[2]) (by kernel_rfl) (by simp) ?_;refine AllReady.cons rfl (λK hK=>?_) AllReady.nil;rw[zae (by rfl)]
   go_simp
   refine hK _ _ ?_;clear hK K;refine wpAny_ready (rs:=[3]) (by kernel_rfl) (by simp) ?_;refine AllReady.cons rfl (λK hK=>?_) AllReady.nil;rw[zae (by rfl)]
   go_simp
   refine hK _ _ ?_;clear hK K;refine wpAny_done (by kernel_rfl) ?_ _
   go_wp2
   go_ret
   have e:(W.alloc (.map #[{ key:=.int .i64 1,val:=.agg #[.func (.func 227) #[] #[.pointer (I ⟨w.heap.size+6,0,O⟩)],.func (.func 228) #[] #[.pointer (I ⟨w.heap.size+6,0,O⟩)]],born:=0 },{ key:=.int .i64 2,val:=.agg #[.func (.func 229) #[] #[.pointer (I ⟨w.heap.size+9,0,O⟩)],.func (.func 231) #[] #[.pointer (I ⟨w.heap.size+9,0,O⟩)]],born:=1 }] 2)).drew.heap.size=W.heap.size+1:=sz W _;simp only[opW,e];exact EO HW.out o _
  ·rw[zae (by rfl)];refine(LY (by rfl) (hK _ _ ?_));clear hK K;refine wpAny_ready (rs:=[0]) (by kernel_rfl) (by simp) ?_;refine AllReady.cons rfl (λK hK=>?_) AllReady.nil;rw[zae (by rfl)];refine(eP (Qo (BA (a0 _) (by have:=HW.out.size;simp;omega)) (BA (a1 _) (by have:=HW.out.size;simp;omega)) (by rfl) (by rfl)) (hK _ _ ?_));clear hK K;refine wpAny_ready (rs:=[2]) (by kernel_rfl) (by simp) ?_;refine AllReady.cons rfl (λK hK=>?_) AllReady.nil;rw[zae (by rfl)]
   go_simp
   refine hK _ _ ?_;clear hK K;refine wpAny_ready (rs:=[3]) (by kernel_rfl) (by simp) ?_;refine AllReady.cons rfl (λK hK=>?_) AllReady.nil;rw[zae (by rfl)]
   go_simp
   refine hK _ _ ?_;clear hK K;refine wpAny_done (by kernel_rfl) ?_ _
   go_wp2
   go_ret
   exact EO HW.out o _
 ·go_wp2
  go_ret
  exact fM HW.out [_] rfl rfl (dss:=[[_,_]]) rfl λH=>⟨H.num,trivial⟩
 ·go_wp2
  go_ret
  exact fM HW.out [_] rfl rfl (dss:=[[_,_]]) rfl λH=>⟨TH,trivial⟩
 ·obtain⟨h1,h2,h3,h4,h5,h6,h7,h8,h9,h10⟩:=hk
  go_wp2
  go_ret
  have e:opsR k o=[]:=by simp[opsR,h1,h2,h3,h4,h5,h6,h7,h8,h9,h10]
  unfold qc;rw[e];obtain⟨_,hb⟩:=HW.out.at2 [_];exact⟨hb,_,rfl,O,0,rfl,U7 _,λi x hx=>by simp at hx⟩
end
end Rv
namespace Rv
open Go Go.RowKit Go.Proofs
noncomputable section
set_option maxRecDepth 1000000
theorem occ_one{c:UInt8}(s:Str)(i:F):Lib.occAt s [c] i=Y↔s[i]?=I c:=by
 unfold Lib.occAt;have hh:s[i]?=(s.drop i).head?:=by rw[List.head?_drop]
 rw[hh];cases s.drop i with
 |nil=>exact⟨λh=>(by cases h),λh=>(by cases h)⟩
 |cons b t=>
  show(c == b&&Y)=Y↔I b=I c;rw[Bool.and_true,beq_iff_eq,U5];exact⟨Eq.symm,Eq.symm⟩
theorem xq{c:UInt8}:∀(s:Str),(∀j:F,s[j]?≠I c)->L.splitR c s=[s]
 |[],_=>rfl
 |b::s,h=>by
  have h0:=h 0;have hb:¬b=c:=λe=>h0 (by simp[e])
  unfold L.splitR;rw[zai hb,xq s λj=>by have:=h (j+1);simpa using this]
theorem vN{c:UInt8}:∀(i:F) (s:Str),s[i]?=I c->(∀j:F,j<i->s[j]?≠I c)->L.splitR c s=s.take i::L.splitR c (s.drop (i+1))
 |_,[],h,_=>by simp at h
 |0,b::s,h,_=>by
  simp only[Vy,U5] at h;subst h;show(if b=b then[]::L.splitR b s else _)=_;rw[zae rfl];rfl
 |i+1,b::s,h,hn=>by
  have hb:¬b=c:=λe=>hn 0 (by omega) (by simp[e])
  have ih:=vN i s (by simpa using h) λj hj=>by have:=hn (j+1) (by omega);simpa using this
  show(if b=c then[]::L.splitR c s else _)=_;rw[zai hb,ih];rfl
theorem PU(c:UInt8):∀(n:F) (s:Str),s.length<=n->Lib.splitK [c] 0 (Lib.count s [c]) s=L.splitR c s:=by
 intro n
 induction n with
 |zero=>
  intro s hs;obtain rfl:s=[]:=List.length_eq_zero_iff.1 (by omega);rcases Lib.index_spec ([]:Str) [c] with⟨h1,_⟩|⟨i,_,hi,ho,_⟩;·rw[Lib.count_miss h1];rfl
  ·exact absurd ((occ_one _ _).1 ho) (by simp)
 |succ n ih=>
  intro s hs;rcases Lib.index_spec s [c] with⟨h1,h2⟩|⟨i,h1,hi,ho,hno⟩
  ·rw[Lib.count_miss h1,xq s λj hj=>?_]
   ·rfl
   ·have hlt:=(Vi.1 hj).1;have:=h2 j (by omega);rw[(occ_one s j).2 hj] at this;cases this
  ·have hc:=(occ_one s i).1 ho;have hlt:=(Vi.1 hc).1;rw[Lib.count_hit (by simp) h1,Nat.add_comm 1,vN i s hc λj hj e=>?_]
   ·show(if Lib.index s [c] == -1 then[s] else s.take ((Lib.index s [c]).toNat+0)::Lib.splitK [c] 0 (Lib.count (s.drop (i+1)) [c]) (s.drop ((Lib.index s [c]).toNat+1)))=_;have hm:¬(Lib.index s [c] == -1)=Y:=λe=>by have:=beq_iff_eq.1 e;omega
    rw[zai hm,h1,Vj,Nat.add_zero,ih _ (by rw[VE];omega)]
   ·have:=hno j hj;rw[(occ_one s j).2 e] at this;cases this
theorem Ll(a:zad Addr)(c:F)(sep:ByteArray)(w:U):Calls Tryz.prog 82 #[.slice a 0 c,.string sep] w λe w'=>e=.returned (.string ⟨#[]⟩)/\w'=w:=by
 go_enter Tryz.func82,Tryz.ntmps82
 go_wp2
 go_ret
 exact⟨rfl,rfl⟩
theorem join_one(bk o c:F)(x sep:ByteArray)(w:U)(hc:w.cell? ⟨bk,o,O⟩=I (.string x)):Calls Tryz.prog 82 #[.slice (I ⟨bk,o,O⟩) 1 c,.string sep] w λe w'=>e=.returned (.string x)/\w'=w:=by
 go_enter Tryz.func82,Tryz.ntmps82
 go_wp2
 go_ret
 exact⟨rfl,rfl⟩
set_option maxHeartbeats 16000000 in
theorem Lj(bk o c:F)(xs:zab ByteArray)(sep:ByteArray)(w:U)
  (hcells:∀(j:F) x,xs[j]?=I x->w.cell? ⟨bk,o+j,O⟩=I (.string x))
  (hbk:bk<w.heap.size) (h2:2<=xs.length) (hN:xs.length<=140737488355328) (hcap:xs.length<=c)
  (hlen:(Lib.join (xs.map (·.data.toList)) sep.data.toList).length<=140737488355328) :
  Calls Tryz.prog 82 #[.slice (I ⟨bk,o,O⟩) xs.length c,.string sep] w λe w'=>e=.returned (.string ⟨(Lib.join (xs.map (·.data.toList)) sep.data.toList).toArray⟩)/\Below w.heap.size w w':=by
 have HC:=hidR hcells;clear hcells;obtain⟨x0,r,hxs⟩:∃x0 r,xs=x0::r:=by
  cases xs with
  |nil=>simp at h2
  |cons a t=>exact⟨a,t,rfl⟩
 have hjl:sep.size*(xs.length-1)+Lib.lens (xs.map (·.data.toList))<=140737488355328:=by
  have:=Lib.join_length x0.data.toList (r.map (·.data.toList)) sep.data.toList;rw[hxs] at hlen⊢;simp only[Vo] at hlen⊢;rw[this,VL] at hlen;rw[Lib.size_eq,Vn,Nat.add_sub_cancel];exact hlen
 have hmul:sep.size*(xs.length-1)<=140737488355328:=by omega
 generalize hM:sep.size*(xs.length-1)=M at hjl hmul;have hcast:((xs.length:E)-1)=((xs.length-1:F):E):=by omega
 have hlt:sep.size<9223372036854775807 / (xs.length-1):=by
  have:sep.size+1<=9223372036854775807 / (xs.length-1):=by
   rw[Nat.le_div_iff_mul_le (by omega),Nat.add_mul,hM];omega
  omega
 have hdv:¬(9223372036854775807 / ((xs.length:E)-1)<=(sep.size:E)):=by
  have e:(9223372036854775807:E) / ((xs.length-1:F):E)=((9223372036854775807 / (xs.length-1):F):E):=IntWalk.up_div (x:=9223372036854775807) rfl rfl;rw[hcast,e];generalize 9223372036854775807 / (xs.length-1)=q at hlt;omega
 have hprod:wrap64 ((sep.size:E)*((xs.length:E)-1))=(M:E):=by
  have e:(sep.size:E)*((xs.length-1:F):E)=((sep.size*(xs.length-1):F):E):=IntWalk.up_mul rfl rfl;rw[hcast,e,hM];exact IntWalk.wrap64_in _ ⟨by omega,by omega⟩
 have hM0:sep.size=0->M=0:=λh=>by rw[<- hM,h,Nat.zero_mul]
 clear hlt hcast;have hne0:((xs.length:E) == 0)=Z:=beq_eq_false_iff_ne.2 (by omega);have hne1:((xs.length:E) == 1)=Z:=beq_eq_false_iff_ne.2 (by omega);have Hxs:=hidR hxs;have Hlen:=hidR hlen;clear hxs hlen
 go_enter Tryz.func82,Tryz.ntmps82
 go_wp2_with fail
 all_goals (
  go_loop [5,41] (λn i=>∃k:F,k<=xs.length/\i=.int .i64 k/\n=.int .i64 ((M+Lib.lens ((xs.map (·.data.toList)).take k):F):E)) (λ_ i=>xs.length-(intOf i).toNat)
  case atStart=>exact⟨0,Nat.zero_le _,rfl,by first|(simp[Lib.lens];done)|(have:=hM0 (by omega);simp[Lib.lens,this])⟩
  case round=>
   obtain⟨k,hk,rfl,rfl⟩:=hrel;by_cases hkn:k<xs.length
   ·obtain⟨x,hx⟩:∃x,xs[k]?=I x:=⟨xs[k],Ve hkn⟩
    have hc:=HC.out k x hx;have hstep:=Lib.lens_take_succ (xs.map (·.data.toList)) k x.data.toList (by simp[hx]);have hbound:Lib.lens ((xs.map (·.data.toList)).take (k+1))<=Lib.lens (xs.map (·.data.toList)):=Lib.lens_take_le _ _;rw[<- Lib.size_eq] at hstep;generalize hA1:Lib.lens ((xs.map (·.data.toList)).take (k+1))=A1 at hstep hbound;generalize Lib.lens ((xs.map (·.data.toList)).take k)=A0 at hstep;have HA1:=hidR hA1;clear hA1
    go_wp2
    exact⟨⟨k+1,by omega,by go_num,by rw[HA1.out];refine zaj _ ?_;omega⟩,by simp[intOf];omega⟩
   ·have hke:k=xs.length:=by omega
    subst hke;have hall:(xs.map (·.data.toList)).take xs.length=xs.map (·.data.toList):=List.take_of_length_le (by simp);rw[hall];generalize hT:Lib.lens (xs.map (·.data.toList))=T at hjl;have HT:=hidR hT;clear hT hall
    go_wp2_with fail
    have hMT:((M:E)+(T:E))=((M+T:F):E):=by omega
    rw[hMT];refine(Ld w.heap.size w.heap.size (M+T) _ (U7 _) (heap_alloc_new w _) (by simp) (by omega)).mono ?_;rintro e w1 ⟨rfl,h1,hb1⟩;have hb1':Below w.heap.size w w1:=((Below.refl w.heap.size w).alloc (U7 _) _).trans hb1;have hx0:xs[0]?=I x0:=by rw[Hxs.out];rfl
    have hc0:w1.cell? ⟨bk,o,O⟩=I (.string x0):=by
     rw[hb1'.cell (p:=⟨bk,o,O⟩) hbk];exact HC.out 0 x0 hx0
    have H1:=hidR (Lib.IsBuilderF.of (Or.inr h1:Lib.IsBuilder TB TU w.heap.size w.heap.size [] w1));have Hb1:=hidR hb1';have hBw1:w.heap.size<=w1.heap.size:=hb1'.size;clear h1 hb1 hb1' hMT;have hwhole:Lib.join (xs.map (·.data.toList)) sep.data.toList=x0.data.toList++Lib.joinTail sep.data.toList (r.map (·.data.toList)):=by
     rw[Hxs.out,Vo,Lib.join_cons]
    have hCle:∀k,(x0.data.toList++Lib.joinTail sep.data.toList ((r.map (·.data.toList)).take k)).length<=140737488355328:=λk=>by
     have h1:=Hlen.out;rw[hwhole,Vb] at h1;have h2:=Lib.joinTail_take_le sep.data.toList (r.map (·.data.toList)) k;rw[Vb];omega
    have HCle:=hidR hCle;have Hwhole:=hidR hwhole;clear hCle hwhole
    go_wp2_with fail
    refine(qN w.heap.size w.heap.size [] x0 w1 H1.out (by have:=HCle.out 0;simp[Lib.joinTail] at this⊢;omega) hBw1).mono ?_;rintro e w2 ⟨rfl,h2',hb2⟩;have hstart:([]:zab N)++Lib.strCells x0=Lib.byteCells (x0.data.toList++Lib.joinTail sep.data.toList ((r.map (·.data.toList)).take 0)):=by
     simp[Lib.joinTail,Lib.strCells_eq]
    rw[hstart] at h2';have H2:=hidR h2';have Hb2:=hidR (Hb1.out.trans hb2);clear h2' hb2 hstart;have hrl:r.length=xs.length-1:=by rw[Hxs.out];simp
    go_wp2_with fail
    go_loopw [65] (λi wr=>∃k:F,k<=r.length/\i=.int .i64 k/\Hid (Lib.IsBuilderF TB TU w.heap.size w.heap.size (Lib.byteCells (x0.data.toList++Lib.joinTail sep.data.toList ((r.map (·.data.toList)).take k))) wr)/\Hid (Below w.heap.size w wr)) (λi _=>r.length-(intOf i).toNat)
    case atStart=>exact⟨0,Nat.zero_le _,rfl,H2,Hb2⟩
    case round=>
     obtain⟨k,hk',rfl,HB,HW⟩:=hrel;by_cases hkr:k<r.length
     ·obtain⟨y,hy⟩:∃y,r[k]?=I y:=⟨r[k],Ve hkr⟩
      have hxy:xs[k+1]?=I y:=by rw[Hxs.out];simpa using hy
      have hcy:wr.cell? ⟨bk,o+1+k,O⟩=I (.string y):=by
       rw[HW.out.cell (p:=⟨bk,o+1+k,O⟩) hbk,show o+1+k=o+(k+1) by omega];exact HC.out (k+1) y hxy
      have hBw:w.heap.size<=wr.heap.size:=HW.out.size;have hnext:Lib.byteCells (x0.data.toList++Lib.joinTail sep.data.toList ((r.map (·.data.toList)).take k))++Lib.strCells sep++Lib.strCells y=Lib.byteCells (x0.data.toList++Lib.joinTail sep.data.toList ((r.map (·.data.toList)).take (k+1))):=by
       rw[Lib.joinTail_take_succ sep.data.toList (r.map (·.data.toList)) k y.data.toList (by simp[hy]),Lib.strCells_eq,Lib.strCells_eq,<- Lib.byteCells_append,<- Lib.byteCells_append,Vm,Vm,Vm]
      have hl1:=HCle.out (k+1);rw[Lib.joinTail_take_succ sep.data.toList (r.map (·.data.toList)) k y.data.toList (by simp[hy])] at hl1;simp only[Vb,<- Lib.size_eq] at hl1;have hl0:(Lib.byteCells (x0.data.toList++Lib.joinTail sep.data.toList ((r.map (·.data.toList)).take k))).length=x0.size+(Lib.joinTail sep.data.toList ((r.map (·.data.toList)).take k)).length:=by
       rw[Lib.byteCells_length,Vb,<- Lib.size_eq]
      generalize (Lib.joinTail sep.data.toList ((r.map (·.data.toList)).take k)).length=J at hl0 hl1;have Hn:=hidR hnext;clear hnext hy hxy
      go_wp2_with fail
      refine(qN w.heap.size w.heap.size _ sep wr HB.out (by rw[hl0];omega) hBw).mono ?_;rintro e w3 ⟨rfl,h3,hb3⟩;have hBw3:w.heap.size<=w3.heap.size:=Vv hBw hb3.size;have H3:=hidR h3;have Hb3:=hidR hb3;clear h3 hb3
      go_wp2_with fail
      refine(qN w.heap.size w.heap.size _ y w3 H3.out (by rw[Vb,hl0,Lib.strCells_length];omega) hBw3).mono ?_;rintro e w4 ⟨rfl,h4,hb4⟩;rw[Hn.out] at h4;have H4:=hidR h4;have Hb4:=hidR ((HW.out.trans Hb3.out).trans hb4);clear h4 hb4
      go_wp2
      exact⟨⟨k+1,by omega,by go_num,H4,Hb4⟩,by simp[intOf];omega⟩
     ·have hke:k=r.length:=by omega
      subst hke;have hfull:(r.map (·.data.toList)).take r.length=r.map (·.data.toList):=List.take_of_length_le (by simp);have hB':=HB.out;rw[hfull,<- Hwhole.out] at hB';have hBw:w.heap.size<=wr.heap.size:=HW.out.size
      go_wp2_with fail
      refine(Tryz.Builder_String_any_k w.heap.size w.heap.size _ wr hB' hBw).mono ?_;rintro e w5 ⟨rfl,_,hb5,_⟩;have Hb5:=hidR (HW.out.trans hb5);clear hb5 hB'
      go_wp2
      go_ret
      exact⟨rfl,Hb5.out⟩)
theorem Fx(sep:Str):∀xs:zab Str,Lib.join xs sep=L.sjoinR sep xs
 |[]=>rfl
 |x::r=>by rw[Lib.join_cons];rfl
theorem nZ(s:Str):(mkS s).data.toList=s:=rfl
theorem Hz(xs:zab Str):(xs.map mkS).map (·.data.toList)=xs:=by
 rw[List.map_map];refine(List.map_congr_left λa _=>?_).trans (List.map_id xs);exact nZ a
theorem Kc(xs:zab Str)(sep:Str)(v:N)(w:U)(hv:fJ w .str xs v)(h1:(L.sjoinR sep xs).length<=140737488355328)(h2:xs.length<=140737488355328) :
  Calls Tryz.prog 82 #[v,.string (mkS sep)] w λe w'=>e=.returned (.string (mkS (L.sjoinR sep xs)))/\Below w.heap.size w w':=by
 obtain⟨A,c,rfl,hc,hx⟩:=hv
 match xs,hx,hc,h1,h2 with
 |[],_,_,_,_=>exact(Ll A c (mkS sep) w).mono λe w' ⟨h,hw⟩=>⟨h,by rw[hw];exact Below.refl _ _⟩
 |[x],hx,_,_,_=>
  obtain⟨g,o,ds,rfl,hg,hd,hat⟩:=hx 0 x rfl;have hd:ds=[.string (mkS x)]:=hd;subst hd;have:=hat 0 _ rfl;refine(join_one g o c (mkS x) (mkS sep) w (by simpa using this)).mono λe w' ⟨h,hw⟩=>⟨?_,by rw[hw];exact Below.refl _ _⟩
  rw[h];simp[L.sjoinR]
 |x::y::r,hx,hc,h1,h2=>
  obtain⟨g,o,_,rfl,hg,_,_⟩:=hx 0 x rfl;have hl:((x::y::r).map mkS).length=(x::y::r).length:=VL _;have:=Lj g o c ((x::y::r).map mkS) (mkS sep) w (λj z hz=>by
   rw[VV] at hz;obtain⟨a,ha,rfl⟩:=Option.map_eq_some_iff.1 hz;obtain⟨g',o',ds,e,_,hd,hat⟩:=hx j a ha;simp only[U5,Addr.mk.injEq,and_true] at e;obtain⟨rfl,rfl⟩:=e;have hd:ds=[.string (mkS a)]:=hd;subst hd;have:=hat 0 _ rfl;simpa[Ty.size] using this) hg (by simp) (by rw[hl];exact h2) (by rw[hl];exact hc) (by rw[Hz,nZ,Fx];exact h1)
  rw[hl] at this;refine this.mono λe w' ⟨h,hw⟩=>⟨?_,hw⟩
  rw[h,Hz,nZ,Fx];rfl
theorem Kh(s:Str)(c:UInt8)(m:E)(w:U)(hs:s.length<4294967281)(hm:w.cell? ⟨0,0,O⟩=I (.int .i64 m)) :
  Calls Tryz.prog 53 #[.string (mkS s),.string (mkS [c])] w λe w'=>Below w.heap.size w w'/\∃v,e=.returned v/\Rd w' (λg=>w.heap.size<=g) (.sl .str) (L.splitR c s) [v]:=by
 refine(Tryz.strings_Split (mkS s) (mkS [c]) m w hs hm (U7 1)).mono ?_;rintro e w' ⟨rfl,rfl⟩;have hd:=Lib.splitB_data (mkS [c]) 0 (Lib.countB (mkS s) (mkS [c])) (mkS s);have hd2:(Lib.splitB (mkS [c]) 0 (Lib.countB (mkS s) (mkS [c])) (mkS s)).map (·.data.toList)=L.splitR c s:=by
  rw[hd,<- PU c s.length s (U7 _),nZ,nZ];rfl
 have hl:Lib.countB (mkS s) (mkS [c])+1=(L.splitR c s).length:=by
  rw[<- hd2,VL];exact(Lib.splitB_all (mkS [c]) (U7 1) 0 _ (mkS s) rfl).symm
 refine⟨(Below.refl _ _).alloc (U7 _) _,_,rfl,Mo (t:=.str) (dss:=(L.splitR c s).map λx=>[.string (mkS x)]) (by show(w.heap.push _)[_]?=_;exact Array.getElem?_push_size) (U7 _) ?_ ?_ hl⟩
 ·generalize L.splitR c s=l
  induction l with
  |nil=>trivial
  |cons a l ih=>exact⟨rfl,ih⟩
 ·rw[<- hd2];generalize Lib.splitB (mkS [c]) 0 (Lib.countB (mkS s) (mkS [c])) (mkS s)=l
  induction l with
  |nil=>rfl
  |cons a l ih=>simpa[mkS] using ih
end
end Rv
namespace Rv
open Go Go.RowKit Go.Proofs Go.Lib
noncomputable section
set_option maxRecDepth 1000000
abbrev IP:Program:=Tryz.prog
abbrev ISL:zac:=24
abbrev IEL:zac:=70
theorem xQ:∃i z,IP.info? IEL=I i/\i.zero=I z/\z.cells.size=i.size/\i.size=2/\i.bytes=24:=by
 obtain⟨i,h1,h2,h3,h4⟩:=info_parts (show(IP.info? IEL).map (λi=>(i.zero,i.size,i.bytes))=I (I (.agg #[.string ⟨#[]⟩,.int .i64 0]),2,24) by kernel_rfl);exact⟨i,_,h1,h2,by rw[h3];rfl,h3,h4⟩
theorem jS{P:Program}(w:U)(dT sT ty elem:zac)(k g o dLen dCap:F)(a:Addr)(sLen sCap:F)(cur:Array N)(t:zac)(cs:zab N)
  (hu:P.underlying dT=I (.slice elem)) (hs:(P.info? elem).map (·.size)=I k)
  (hg:w.heap[g]?=I (.cells cur t (0,0))) (hn:cs.length=Nat.min sLen dLen*k)
  (hsrc:∀j v,cs[j]?=I v->w.cell? (a.add j)=I v) (hfit:o+cs.length<=cur.size) (h1:∀v∈cs,v.oneCell'=Y) :
  (Builtin.copy_ #[dT,sT] ty #[.slice (I ⟨g,o,O⟩) dLen dCap,.slice (I a) sLen sCap]).run P w =
   .ok (goInt (Nat.min sLen dLen)) (w.setRow g (cur.toList.take o++cs++cur.toList.drop (o+cs.length)).toArray):=by
 have hf:=run_firstCells_some (P:=P) w k (Nat.min sLen dLen) a sLen sCap cs hn hsrc;have hst:=run_storeCells_at P g o t cs 0 cur w hg (by simpa using hfit) h1;cases hq:P.info? elem with
 |none=>simp[hq] at hs
 |some i=>
  have hi:i.size=k:=by simpa[hq] using hs
  simp[Builtin.copy_,run_underlying hu,Builtin.lenOf,Go.sizeOf,typeInfo,hq,hi,hf,hst]
def kT(w:U)(v:N)(n:F)(zs:zab N)(e:Ending)(w':U):Prop:=
 ∃v',e=.returned v'/\w'.ownsRow 0 IEL 2 v' (n+1) zs/\w.grownBy w' v.ownBlock/\∀k,v'.ownBlock=I k->v.ownBlock=I k\/w.heap.size<=k
section
variable(w:U){v:N}{n:F}{xs news:zab N}(hown:w.ownsRow 0 IEL 2 v n xs)(gv cv:F)(curv:Array N)(hgv:w.heap[gv]?=I (.cells curv IEL (0,0)))(hcv:1<=cv)(hcvs:curv.size=cv*2)(hnews:curv.toList.take 2=news)
 (h1x:∀u∈xs,u.oneCell'=Y) (h1v:∀u∈news,u.oneCell'=Y) (hb:(n+1)*24<=140737488355328)
include hgv hcvs hcv hnews in
theorem rV:news.length=2/\∀j u,news[j]?=I u->w.cell? ((⟨gv,0,O⟩:Addr).add j)=I u:=by
 subst hnews;refine⟨by rw[VA,Array.length_toList];omega,λj u hj=>?_⟩;have hadd:(⟨gv,0,O⟩:Addr).add j=⟨gv,0+j,O⟩:=by unfold Addr.add;split<;>simp_all
 rw[hadd,cell_of_row w gv _ curv IEL (0,0) hgv];rw[Vx] at hj;split at hj;·simpa using hj
 ·cases hj
include hown hgv hcvs hcv hnews h1v hb in
theorem Q7:Calls IP 165 #[v,.int .i64 n,.slice (I ⟨gv,0,O⟩) 1 cv] w (kT w v n (xs++news)):=by
 obtain⟨i,z,hi,hz,hzs,hsz,hby⟩:=xQ;obtain⟨hnl,hnc⟩:=rV w gv cv curv hgv hcv hcvs hnews;have hown':=hown;rw[<- hsz] at hown';obtain⟨v',w',hrun,g1,g2,g3⟩:=qU (P:=IP) (t:=ISL) (ty:=ISL) (e:=IEL) Tryz.underlying24 hi hz hzs (by omega) (by omega) hown' (A:=I ⟨gv,0,O⟩) (m:=1) (c:=cv) (news:=news) (by rw[hsz];exact hnl) (.inr ⟨_,rfl,hnc⟩) h1v (by rw[hby];exact hb);rw[hsz] at g1;rcases hown.2 with⟨rfl,rfl⟩|⟨g,cap,cur,rfl,hbg,hg,hnc2,hcm,hcs,htake⟩
 ·go_enter Tryz.func165,Tryz.ntmps165
  go_wp2_with (at_builtin;refine Lib.wpList_append_run _ rfl _ _ _ _ rfl _ _ rfl rfl _ _ hrun ?_)
  go_ret
  exact⟨v',rfl,g1,g2,g3⟩
 ·go_enter Tryz.func165,Tryz.ntmps165
  go_wp2_with (at_builtin;refine Lib.wpList_append_run _ rfl _ _ _ _ rfl _ _ rfl rfl _ _ hrun ?_)
  all_goals (go_ret;exact⟨v',rfl,g1,g2,g3⟩)
include hgv hcvs hcv hnews h1x h1v hb in
theorem Lg{g cap:F}{cur:Array N}{i:F}(hi:i<n)(hroom:n+1<=cap)(hcm:cap<=maxLen)(hg:w.heap[g]?=I (.cells cur IEL (0,0)))(hcs:cur.size=cap*2)(htake:cur.toList.take (n*2)=xs)(hne:gv≠g) :
  Calls IP 165 #[.slice (I ⟨g,0,O⟩) n cap,.int .i64 i,.slice (I ⟨gv,0,O⟩) 1 cv] w (kT w (.slice (I ⟨g,0,O⟩) n cap) n (xs.take (i*2)++news++xs.drop (i*2))):=by
 obtain⟨i0,z,hi0,hz,hzs,hsz,hby⟩:=xQ;obtain⟨hnl,hnc⟩:=rV w gv cv curv hgv hcv hcvs hnews;have hc63:cap<=9223372036854775807:=by unfold maxLen at hcm;omega
 have hxl:xs.length=n*2:=by rw[<- htake,VA,Array.length_toList];omega
 have hsize:(IP.info? IEL).map (·.size)=I 2:=by rw[hi0];simp[hsz]
 have hof:∀W,(Go.sizeOf IEL).run IP W=.ok 2 W:=λW=>by simp[Go.sizeOf,typeInfo,hi0,hsz]
 have hadd:∀(b o j:F),(⟨b,o,O⟩:Addr).add j=⟨b,o+j,O⟩:=λb o j=>by unfold Addr.add;split<;>simp_all
 obtain⟨cur1,hcur1⟩:∃cur1:Array N,cur1=(cur.toList.take ((i+1)*2)++xs.drop (i*2)++cur.toList.drop ((i+1)*2+(xs.drop (i*2)).length)).toArray:=⟨_,rfl⟩
 have hdl:(xs.drop (i*2)).length=(n-i)*2:=by rw[VE,hxl];omega
 have hcp1:∀(W:U),W.heap[g]?=I (.cells cur IEL (0,0))->∀ty dc sc,(Builtin.copy_ #[ISL,ISL] ty #[.slice (I ⟨g,(i+1)*2,O⟩) (n-i) dc,.slice (I ⟨g,i*2,O⟩) (n+1-i) sc]).run IP W=.ok (goInt (Nat.min (n+1-i) (n-i))) (W.setRow g cur1):=λW hW ty dc sc=>by
  rw[hcur1];exact jS W ISL ISL ty IEL 2 g ((i+1)*2) (n-i) dc ⟨g,i*2,O⟩ (n+1-i) sc cur IEL (xs.drop (i*2)) Tryz.underlying24 hsize hW (by rw[hdl];simp only[Nat.min_def];split<;>omega)
   (λj u hj=>by
    rw[hadd,cell_of_row W g _ cur IEL (0,0) hW];rw[VK,<- htake,Vx] at hj;split at hj;·simpa using hj
    ·cases hj) (by rw[hdl];omega) (λu hu=>h1x u (List.mem_of_mem_drop hu))
 have hs1:cur1.size=cap*2:=by rw[hcur1];simp[hdl,hxl];omega
 obtain⟨cur2,hcur2⟩:∃cur2:Array N,cur2=(cur1.toList.take (i*2)++news++cur1.toList.drop (i*2+news.length)).toArray:=⟨_,rfl⟩
 have hcp2:∀(W:U),W.heap[g]?=I (.cells cur1 IEL (0,0))->W.heap[gv]?=w.heap[gv]?->∀ty dc,(Builtin.copy_ #[ISL,ISL] ty #[.slice (I ⟨g,i*2,O⟩) (n+1-i) dc,.slice (I ⟨gv,0,O⟩) 1 cv]).run IP W=.ok (goInt (Nat.min 1 (n+1-i))) (W.setRow g cur2):=λW hW hWv ty dc=>by
  rw[hcur2];exact jS W ISL ISL ty IEL 2 g (i*2) (n+1-i) dc ⟨gv,0,O⟩ 1 cv cur1 IEL news Tryz.underlying24 hsize hW (by rw[hnl];simp only[Nat.min_def];split<;>omega)
   (λj u hj=>by rw[World.cell?_of_block (w':=W) (w:=w) (by rw[hadd];exact hWv)];exact hnc j u hj) (by rw[hnl,hs1];omega) h1v
 have hov:∀lb cb,(callFunc 208 #[.slice (I ⟨gv,0,O⟩) 1 cv,.slice (I ⟨g,(i+1)*2,O⟩) lb cb]).run IP w=.ok (.value (.bool Z)) w:=λlb cb=>by
  rw[run_callFunc_extern Tryz.func208 (by kernel_rfl) (by kernel_rfl) (by kernel_rfl) (e:=Extern.SlicesOverlaps.overlaps #[ISL,ISL] #[4]) (by kernel_rfl),
   Lib.run_overlaps_apart w ISL 4 IEL Tryz.underlying24 2 hof ⟨gv,0,O⟩ ⟨g,(i+1)*2,O⟩ 1 cv lb cb hne IEL IEL curv.size cur.size (by simp[World.shape?,hgv]) (by simp[World.shape?,hg]) (by omega) (by simp[World.frozen?,hgv]) (by simp[World.frozen?,hgv])]
  rfl
 obtain⟨W1,hW1e⟩:∃W1,W1=w.drew.setRow g cur1:=⟨_,rfl⟩
 have hW1:W1.heap[g]?=I (.cells cur1 IEL (0,0)):=by rw[hW1e];exact setRow_heap w.drew g cur cur1 IEL (0,0) hg
 have hWv:W1.heap[gv]?=w.heap[gv]?:=by rw[hW1e];exact setRow_other w.drew g gv cur1 hne
 have hc1:cur1.toList=cur.toList.take ((i+1)*2)++(xs.drop (i*2)++cur.toList.drop ((i+1)*2+(xs.drop (i*2)).length)):=by rw[hcur1];simp
 have hcl:(cur.toList.take ((i+1)*2)).length=(i+1)*2:=by rw[VA,Array.length_toList];omega
 have hA:cur1.toList.take (i*2)=xs.take (i*2):=by
  rw[hc1,List.take_append_of_le_length (by rw[hcl];omega),List.take_take,<- htake,List.take_take,Nat.min_eq_left (by omega),Nat.min_eq_left (by omega)]
 have hB:cur1.toList.drop (i*2+news.length)=xs.drop (i*2)++cur.toList.drop ((i+1)*2+(xs.drop (i*2)).length):=by
  rw[hc1,hnl,show i*2+2=(cur.toList.take ((i+1)*2)).length by rw[hcl];omega,List.drop_left]
 have hfin:kT w (.slice (I ⟨g,0,O⟩) n cap) n (xs.take (i*2)++news++xs.drop (i*2)) (.returned (.slice (I ⟨g,0,O⟩) (n+1) cap)) (W1.setRow g cur2):=by
  have hgl:g<w.heap.size:=(Array.getElem?_eq_some_iff.1 hg).1;refine⟨_,rfl,⟨?_,.inr ⟨g,cap,cur2,rfl,Nat.zero_le _,setRow_heap W1 g cur1 cur2 IEL (0,0) hW1,hroom,hcm,?_,?_⟩⟩,?_,λk hk=>.inl hk⟩;·simp only[Vb,VA,VE,hnl,hxl];omega
  ·rw[hcur2,List.size_toArray,hA,hB];simp only[Vb,VA,VE,hnl,hxl,Array.length_toList];omega
  ·rw[hcur2,hA,hB];rw[<- Vm (xs.take (i*2)++news)];exact List.take_left' (by simp only[Vb,VA,VE,hnl,hxl];omega)
  ·refine⟨by rw[hW1e];rfl,by rw[hW1e];rfl,by rw[hW1e];rfl,by rw[hW1e];simp[World.setRow],λk hk hne'=>?_⟩;have hkg:k≠g:=λe=>hne' (by rw[e];rfl)
   rw[setRow_other W1 g k cur2 hkg,hW1e,setRow_other w.drew g k cur1 hkg];rfl
 generalize hzs':xs.take (i*2)++news++xs.drop (i*2)=zs at hfin⊢;have hz2:¬((i:E)=(n:E)):=by omega
 have hw1:zaa.wrap ((i:E)+1)=(i:E)+1:=by rw[IntKind.wrap_i64];omega
 have hw2:zaa.wrap ((n:E)+1)=(n:E)+1:=by rw[IntKind.wrap_i64];omega
 have htn:((i:E)+1).toNat=i+1:=by omega
 have htn2:((n:E)+1).toNat=n+1:=by omega
 have hb1:(0:E)<=(i:E)+1:=by omega
 have hb2:¬(cap=i+1):=by omega
 have hb3:(i:E)<=(n:E)+1:=by omega
 have hb4:¬(cap=i):=by omega
 have hb5:¬((cap:E)<(n:E)+1):=by omega
 have hin:i<=n:=by omega
 have mixed:IP.follows .mixedOrders=Y:=by kernel_rfl
 have hcd:∀ty dc sc,(Builtin.copy_ #[24,24] ty #[.slice (I ⟨g,(i+1)*2,O⟩) (n-i) dc,.slice (I ⟨g,i*2,O⟩) (n+1-i) sc]).run Tryz.prog w.drew=.ok (goInt (Nat.min (n+1-i) (n-i))) W1:=λty dc sc=>by rw[hW1e];exact hcp1 w.drew hg ty dc sc
 have hcp2':=hcp2 W1 hW1 hWv;clear hcp1 hcp2 hcur1 hcur2 hW1e hc1 hA hB hcl hdl hs1 hzs'
 go_enter Tryz.func165,Tryz.ntmps165
 go_wp2_with (simp only[hov])
 go_region_law_o (refine step_copy_runI rfl _ _ 24 24 rfl _ _ (by simp[Act.eval,Act.put]) (by simp[Act.eval,Act.put]) (hcd _ _ _) ?_)
 go_wp2_with (at_builtin;refine wpList_copy_runI _ rfl _ _ ISL ISL rfl _ _ rfl rfl (hcp2' _ _) ?_)
 go_ret
 exact hfin
include hgv hcvs hcv hnews h1x h1v hb in
theorem Oj{g c:F}{cur:Array N}{i:F}(hi:i<n)(hnc:n<=c)(hroom:c<n+1)(hg:w.heap[g]?=I (.cells cur IEL (0,0)))(hcs:cur.size=c*2)(htake:cur.toList.take (n*2)=xs) :
  Calls IP 165 #[.slice (I ⟨g,0,O⟩) n c,.int .i64 i,.slice (I ⟨gv,0,O⟩) 1 cv] w (kT w (.slice (I ⟨g,0,O⟩) n c) n (xs.take (i*2)++news++xs.drop (i*2))):=by
 obtain⟨i0,z,hi0,hz,hzs,hsz,hby⟩:=xQ;obtain⟨hnl,hncl⟩:=rV w gv cv curv hgv hcv hcvs hnews;have hxl:xs.length=n*2:=by rw[<- htake,VA,Array.length_toList];omega
 have hsize:(IP.info? IEL).map (·.size)=I 2:=by rw[hi0];simp[hsz]
 have hadd:∀(b o j:F),(⟨b,o,O⟩:Addr).add j=⟨b,o+j,O⟩:=λb o j=>by unfold Addr.add;split<;>simp_all
 have hgl:g<w.heap.size:=(Array.getElem?_eq_some_iff.1 hg).1;have hvl:gv<w.heap.size:=(Array.getElem?_eq_some_iff.1 hgv).1;have hold:(Builtin.firstCells i0.size i (.slice (I ⟨g,0,O⟩) i c)).run IP w.drew=.ok (xs.take (i*2)).toArray w.drew:=by
  rw[hsz];exact run_firstCells_some w.drew 2 i ⟨g,0,O⟩ i c (xs.take (i*2)) (by rw[VA];omega) (λj u hj=>by
   rw[hadd,cell_of_row w.drew g _ cur IEL (0,0) hg];rw[Vx,<- htake,Vx] at hj;split at hj
   ·split at hj
    ·simpa using hj
    ·cases hj
   ·cases hj)
 have hkk:(n:E)+1-(i:E)=((n+1-i:F):E):=by omega
 have hik:i+(n+1-i)=n+1:=by omega
 obtain⟨G,hG⟩:∃G,G=grownCap w (n+1) c IEL:=⟨_,rfl⟩
 obtain⟨ROW,hROW⟩:∃ROW:Array N,ROW=(xs.take (i*2)).toArray++Builtin.zeroCells z.cells (n+1-i)++Builtin.zeroCells z.cells (G-(n+1)):=⟨_,rfl⟩
 obtain⟨W1,hW1⟩:∃W1,W1=w.drew.alloc (.cells ROW IEL):=⟨_,rfl⟩
 have hrz:∀ty,(Builtin.append_ #[ISL,3] ty #[.slice (I ⟨g,0,O⟩) i c,.int .i64 ((n:E)+1-(i:E))]).run IP w=.ok (.slice (I ⟨w.heap.size,0,O⟩) (n+1) G) W1:=λty=>by
  have h:=Lib.run_append_grow_zeros w ISL 3 ty IEL i0 z .i64 .i64 Tryz.underlying24 Tryz.underlying3 hi0 hz (I ⟨g,0,O⟩) i c (xs.take (i*2)) hold (n+1-i) (by omega) (by omega) (by omega) (by omega) (by rw[hby];omega) (by rw[hby,hik];exact growslice_fits hroom hb);rw[hik] at h;rw[hkk,hW1,hROW,hG];exact h
 have hGn:n+1<=G:=by rw[hG];exact grownCap_ge w _ _ _
 have hGm:G<=maxLen:=by rw[hG];exact grownCap_le_maxLen w _ _ _ (by unfold maxLen;omega)
 have hG63:G<=9223372036854775807:=by unfold maxLen at hGm;omega
 have htl:(xs.take (i*2)).length=i*2:=by rw[VA,hxl];omega
 have hRs:ROW.size=G*2:=by
  rw[hROW];simp only[Array.size_append,List.size_toArray,size_zeroCells,hzs,hsz,htl];omega
 have hR0:ROW.toList.take (i*2)=xs.take (i*2):=by
  rw[hROW];simp only[Array.toList_append,Vm];exact List.take_left' htl
 have hW1g:W1.heap[w.heap.size]?=I (.cells ROW IEL (0,0)):=by rw[hW1];exact heap_alloc_new w.drew _
 have hW1o:∀k,k<w.heap.size->W1.heap[k]?=w.heap[k]?:=λk hk=>by rw[hW1];exact Go.RowKit.Below.heap_alloc w.drew _ k hk
 obtain⟨cur2,hcur2⟩:∃cur2:Array N,cur2=(ROW.toList.take (i*2)++news++ROW.toList.drop (i*2+news.length)).toArray:=⟨_,rfl⟩
 obtain⟨W2,hW2⟩:∃W2,W2=W1.setRow w.heap.size cur2:=⟨_,rfl⟩
 have hcpA:∀ty dc,(Builtin.copy_ #[ISL,ISL] ty #[.slice (I ⟨w.heap.size,i*2,O⟩) (n+1-i) dc,.slice (I ⟨gv,0,O⟩) 1 cv]).run IP W1=.ok (goInt (Nat.min 1 (n+1-i))) W2:=λty dc=>by
  rw[hW2,hcur2];exact jS W1 ISL ISL ty IEL 2 w.heap.size (i*2) (n+1-i) dc ⟨gv,0,O⟩ 1 cv ROW IEL news Tryz.underlying24 hsize hW1g (by rw[hnl];simp only[Nat.min_def];split<;>omega)
   (λj u hj=>by rw[World.cell?_of_block (w':=W1) (w:=w) (by rw[hadd];exact hW1o _ hvl)];exact hncl j u hj) (by rw[hnl,hRs];omega) h1v
 have hs2:cur2.size=G*2:=by
  rw[hcur2,List.size_toArray];simp only[Vb,VA,VE,Array.length_toList,hnl,hRs];omega
 have hW2g:W2.drew.heap[w.heap.size]?=I (.cells cur2 IEL (0,0)):=by rw[hW2];exact setRow_heap W1 w.heap.size ROW cur2 IEL (0,0) hW1g
 have hW2o:∀k,k<w.heap.size->W2.drew.heap[k]?=w.heap[k]?:=λk hk=>by rw[<- hW1o k hk,hW2];exact setRow_other W1 w.heap.size k cur2 (by omega)
 have hdl:(xs.drop (i*2)).length=(n-i)*2:=by rw[VE,hxl];omega
 obtain⟨cur3,hcur3⟩:∃cur3:Array N,cur3=(cur2.toList.take ((i+1)*2)++xs.drop (i*2)++cur2.toList.drop ((i+1)*2+(xs.drop (i*2)).length)).toArray:=⟨_,rfl⟩
 have hcpB:∀ty dc sc,(Builtin.copy_ #[ISL,ISL] ty #[.slice (I ⟨w.heap.size,(i+1)*2,O⟩) (n-i) dc,.slice (I ⟨g,i*2,O⟩) (n-i) sc]).run IP W2.drew=.ok (goInt (Nat.min (n-i) (n-i))) (W2.drew.setRow w.heap.size cur3):=λty dc sc=>by
  rw[hcur3];exact jS W2.drew ISL ISL ty IEL 2 w.heap.size ((i+1)*2) (n-i) dc ⟨g,i*2,O⟩ (n-i) sc cur2 IEL (xs.drop (i*2)) Tryz.underlying24 hsize hW2g (by rw[hdl];simp only[Nat.min_def];split<;>omega)
   (λj u hj=>by
    rw[World.cell?_of_block (w':=W2.drew) (w:=w) (by rw[hadd];exact hW2o _ hgl),hadd,cell_of_row w g _ cur IEL (0,0) hg];rw[VK,<- htake,Vx] at hj;split at hj;·simpa using hj
    ·cases hj) (by rw[hdl,hs2];omega) (λu hu=>h1x u (List.mem_of_mem_drop hu))
 have hc2:cur2.toList.take ((i+1)*2)=xs.take (i*2)++news:=by
  rw[hcur2,hR0];exact List.take_left' (by rw[Vb,htl,hnl];omega)
 have hfin:kT w (.slice (I ⟨g,0,O⟩) n c) n (xs.take (i*2)++news++xs.drop (i*2)) (.returned (.slice (I ⟨w.heap.size,0,O⟩) (n+1) G)) (W2.drew.setRow w.heap.size cur3):=by
  refine⟨_,rfl,⟨?_,.inr ⟨w.heap.size,G,cur3,rfl,Nat.zero_le _,setRow_heap W2.drew _ cur2 cur3 IEL (0,0) hW2g,hGn,hGm,?_,?_⟩⟩,?_,λk hk=>.inr ?_⟩;·simp only[Vb,VA,VE,hnl,hxl];omega
  ·rw[hcur3,List.size_toArray,hc2];simp only[Vb,VA,VE,hnl,hxl,Array.length_toList,hs2];omega
  ·rw[hcur3,hc2];exact List.take_left' (by simp only[Vb,VA,VE,hnl,hxl];omega)
  ·refine⟨by rw[hW2,hW1];rfl,by rw[hW2,hW1];rfl,by rw[hW2,hW1];rfl,Nat.le_of_lt (Array.getElem?_eq_some_iff.1 (setRow_heap W2.drew _ cur2 cur3 IEL (0,0) hW2g)).1,λk hk _=>?_⟩;rw[setRow_other W2.drew _ k cur3 (by omega)];exact hW2o k hk
  ·cases hk;exact U7 _
 obtain⟨W3,hW3⟩:∃W3,W3=W2.drew.setRow w.heap.size cur3:=⟨_,rfl⟩
 rw[<- hW3] at hfin hcpB;generalize hzs':xs.take (i*2)++news++xs.drop (i*2)=zs at hfin⊢;have hz1:¬((1:E)=0):=by omega
 have hz2:¬((i:E)=(n:E)):=by omega
 have hz3:(c:E)<(n:E)+1:=by omega
 have hGi:¬(G=i):=by omega
 have hGim:¬(G=i+1):=by omega
 have hci:¬(c=i):=by omega
 have hc63:c<=9223372036854775807:=by omega
 have hw1:zaa.wrap ((i:E)+1)=(i:E)+1:=by rw[IntKind.wrap_i64];omega
 have hw2:zaa.wrap ((n:E)+1)=(n:E)+1:=by rw[IntKind.wrap_i64];omega
 have hw3:zaa.wrap ((n:E)+1-(i:E))=(n:E)+1-(i:E):=by rw[IntKind.wrap_i64];omega
 have htn:((i:E)+1).toNat=i+1:=by omega
 have htn2:((n:E)+1).toNat=n+1:=by omega
 have hb1:(0:E)<=(i:E)+1:=by omega
 have hb3:(i:E)<=(n:E):=by omega
 have hb4:(i:E)<=(n:E)+1:=by omega
 have hin:i<=n:=by omega
 have mixed:IP.follows .mixedOrders=Y:=by kernel_rfl
 clear hkk hik hold hROW hW1 hW2 hcur2 hcur3 hW3 hc2 hdl hs2 hRs hR0 htl hG hW1g hW1o hW2g hW2o hzs' hxl hcs htake
 go_enter Tryz.func165,Tryz.ntmps165
 go_wp2_with (first
  |(at_builtin;refine Lib.wpList_append_run _ rfl _ _ _ _ rfl _ _ rfl rfl _ _ (hrz _) ?_)
  |(at_builtin;refine wpList_copy_runI _ rfl _ _ ISL ISL rfl _ _ rfl rfl (hcpA _ _) ?_))
 go_region_law_o (refine step_copy_runI rfl _ _ 24 24 rfl _ _ (by simp[Act.eval,Act.put]) (by simp[Act.eval,Act.put]) (hcpB _ _ _) ?_)
 go_wp2
 go_ret
 exact hfin
end
abbrev TSy:Ty:=.pair .str (.pair (.int .i64) .nil)
def syC(x:TSy.D):zab N:=[.string (mkS x.1),.int .i64 x.2.1]
theorem Qr{w:U}{ok:F->Prop}{x:TSy.D}{cs:zab N}:Rd w ok TSy x cs↔cs=syC x:=by
 constructor;·rintro⟨c1,c2,rfl,h1,c3,c4,rfl,h3,h4⟩;have h1:c1=[.string (mkS x.1)]:=h1;have h3:c3=[.int .i64 x.2.1]:=h3;have h4:c4=[]:=h4;rw[h1,h3,h4];rfl
 ·rintro rfl;exact⟨[.string (mkS x.1)],[.int .i64 x.2.1],rfl,rfl,[.int .i64 x.2.1],[],rfl,rfl,rfl⟩
theorem FK:∀(xs:zab TSy.D),(xs.flatMap syC).length=xs.length*2
 |[]=>rfl
 |x::r=>by simp only[VC,Vb,FK r,Vn];show 2+_=_;omega
theorem IA:∀(i:F) (xs:zab TSy.D),(xs.flatMap syC).take (i*2)=(xs.take i).flatMap syC
 |0,xs=>by simp
 |i+1,[]=>by simp
 |i+1,x::r=>by
  rw[List.take_succ_cons,VC,VC,<- IA i r,show(i+1)*2=(syC x).length+i*2 by show _=2+i*2;omega,List.take_length_add_append]
theorem Bj:∀(i:F) (xs:zab TSy.D),(xs.flatMap syC).drop (i*2)=(xs.drop i).flatMap syC
 |0,xs=>by simp
 |i+1,[]=>by simp
 |i+1,x::r=>by
  rw[List.drop_succ_cons,VC,<- Bj i r,show(i+1)*2=(syC x).length+i*2 by show _=2+i*2;omega,List.drop_length_add_append]
theorem vQ{xs:zab TSy.D}:∀u∈xs.flatMap syC,u.oneCell'=Y:=by
 intro u hu;obtain⟨x,_,h⟩:=List.mem_flatMap.1 hu;simp only[syC,Vg,VR,or_false] at h;rcases h with rfl|rfl<;>rfl
theorem FL{w:U}{ok:F->Prop}:∀{xs:zab TSy.D}{cur:zab N},bq w ok TSy xs cur->cur.take (xs.length*2)=xs.flatMap syC
 |[],cur,_=>by simp
 |x::r,cur,h=>by
  have h0:(cur.drop (0*2)).take 2=syC x:=Qr.1 (h 0 x rfl);rw[Nat.zero_mul,VB] at h0;have hr:bq w ok TSy r (cur.drop 2):=λj y hj=>by
   have:=h (j+1) y (by simpa using hj);rw[List.drop_drop];rw[show(j+1)*TSy.size=2+j*TSy.size by show(j+1)*2=2+j*2;omega] at this;exact this
  have ih:=FL hr;rw[VC,<- ih,<- h0,Vn,show(r.length+1)*2=2+r.length*2 by omega,List.take_add]
theorem UD{w:U}{ok:F->Prop}{xs:zab TSy.D}{cur:zab N}(h:cur.take (xs.length*2)=xs.flatMap syC):bq w ok TSy xs cur:=by
 intro j x hj;rw[Qr];have hl:j<xs.length:=(Vi.1 hj).1;have hx:xs[j]=x:=(Vi.1 hj).2;show(cur.drop (j*2)).take 2=syC x;have h1:(cur.drop (j*2)).take 2=((cur.take (xs.length*2)).drop (j*2)).take 2:=by
  rw[List.drop_take,List.take_take,Nat.min_eq_left (by omega)]
 rw[h1,h,Bj,Vs hl,hx,VC];exact List.take_left' rfl
def wu:Spec:=⟨⟨[(0,.c (.row IEL TSy)),(1,.c (.int .i64)),(2,.c (.row IEL TSy))],[]⟩,⟨[(0,.c (.row IEL TSy))],[]⟩,λx=>L.insertO x.1 x.2.1 x.2.2.1⟩
set_option maxHeartbeats 1000000 in
theorem Q9{W:U->Prop}:Sat IP W 165 wu:=by
 rintro⟨xs,i,ys,u⟩ y hy C γ vals hCL hCn R;have hCn:C.nl=0:=hCn;have hy:L.insertO xs i ys=I y:=hy;unfold L.insertO at hy;split at hy
 case isFalse=>cases hy
 case isTrue hc=>
 obtain rfl:=U6 hy;obtain⟨hi0,hin,hyl,hbig⟩:=hc;obtain⟨k,rfl⟩:=Int.eq_ofNat_of_zero_le hi0;have hkn:k<=xs.length:=by omega
 have hsz:vals.size=3:=R.size;have s0:(vals.getD 0 undef).oneCell'=Y/\Now _ 15 0 λe=>∀n,e.box.len=I n->eB (γ 15) n (vals.getD 0 undef):=R.slot 0 (.v (.c (.own 15 0))) rfl
 have s1:vals.getD 1 undef=.int .i64 (k:E):=R.slot 1 (.v (.c (.int .i64 (k:E)))) rfl;have s2:(vals.getD 2 undef).oneCell'=Y/\Now _ 31 0 λe=>∀n,e.box.len=I n->eB (γ 31) n (vals.getD 2 undef):=R.slot 2 (.v (.c (.own 31 0))) rfl
 obtain⟨_,e0,he0,_,h0⟩:=s0;obtain⟨_,e2,he2,_,h2⟩:=s2;have he0:I (⟨0,0,.row IEL TSy xs⟩:En)=I e0:=he0;have he2:I (⟨0,0,.row IEL TSy ys⟩:En)=I e2:=he2;obtain rfl:=U6 he0;obtain rfl:=U6 he2;have h0:eB (γ 15) xs.length (vals.getD 0 undef):=h0 rfl _ rfl;have h2:eB (γ 31) ys.length (vals.getD 2 undef):=h2 rfl _ rfl;have hv:vals=#[vals.getD 0 undef,.int .i64 (k:E),vals.getD 2 undef]:=by
  rw[<- s1];apply Array.ext';obtain⟨l⟩:=vals
  match l,hsz with
  |[a,b,c],_=>rfl
 have b0:dL C γ _ C.w0 15 (.row IEL TSy xs):=R.inv.box 15 _ rfl;have b2:dL C γ _ C.w0 31 (.row IEL TSy ys):=R.inv.box 31 _ rfl;generalize hv0:vals.getD 0 undef=v0 at h0 hv;generalize hv2:vals.getD 2 undef=v2 at h2 hv;rcases b2 with⟨_,rfl⟩|⟨gv,cv,curv,hγv,hgv,hlv,hmv,hcvs,_,hrv⟩;·simp at hyl
 have hcvs:curv.size=cv*2:=hcvs;rw[hγv] at h2;obtain rfl:v2=.slice (I ⟨gv,0,O⟩) ys.length cv:=h2;have hnews:curv.toList.take 2=ys.flatMap syC:=by
  have:=FL hrv
  rwa [hyl] at this
 have hlast:∀v0':N,v0'=v0->Calls IP 165 #[v0',.int .i64 (k:E),.slice (I ⟨gv,0,O⟩) 1 cv] C.w0 (kT C.w0 v0' xs.length ((xs.take k++ys++xs.drop k).flatMap syC))->(∀g,v0'.ownBlock=I g->C.own g) ->
   Calls IP 165 vals C.w0 λe w'=>∃(γ':Gam) (rs:Array N),e=.returned (if h:rs.size=1 then rs[0] else .tuple rs)/\Rel C γ' w' (wu.r.mk' nmJ wu.r.slots.length (xs.take k++ys++xs.drop k,())) rs:=by
  rintro v0' rfl hcall hob;rw[hv,hyl];refine hcall.mono ?_;rintro e w' ⟨v',rfl,hown,hgr,hblk⟩;have hown':C.own=C.own:=rfl;rcases hown.2 with⟨_,hn⟩|⟨g',c',cur',rfl,_,hg',hn',hm',hs',ht'⟩;·omega
  have hog:C.own g':=by
   rcases hblk g' rfl with h|h;·exact hob g' h
   ·exact R.inv.new g' h
  have hfr:∀g,g<C.w0.heap.size->¬C.own g->w'.heap[g]?=C.w0.heap[g]?:=λg hg hno=>hgr.block g hg (λh=>hno (hob g h.symm))
  have hzl:(xs.take k++ys++xs.drop k).length=xs.length+1:=by simp only[Vb,VA,VE];omega
  refine⟨λj=>if j=15 then I (g',c') else O,#[.slice (I ⟨g',0,O⟩) (xs.length+1) c'],rfl,rfl,?_,?_⟩
  ·intro j v hj
   match j,hj with
   |0,hj=>
    obtain rfl:=U6 hj;exact⟨rfl,_,rfl,U7 _,λ_ n hn=>by
     have hn:I (xs.take k++ys++xs.drop k).length=I n:=hn;obtain rfl:=U6 hn;rw[hzl];rfl⟩
   |j+1,hj=>cases hj
  ·have hh:∀j e,(wu.r.mk' nmJ wu.r.slots.length (xs.take k++ys++xs.drop k,())).h j=I e->j=15/\e=⟨0,0,.row IEL TSy (xs.take k++ys++xs.drop k)⟩:=λj e hj=>by
    have hj:(if 15=j then I (⟨0,0,.row IEL TSy (xs.take k++ys++xs.drop k)⟩:En) else O)=I e:=by
     have:(if j=15 then I (⟨0,0,.row IEL TSy (xs.take k++ys++xs.drop k)⟩:En) else O)=I e:=hj;rw[<- this];congr 1;exact propext eq_comm
    split at hj;·rename_i h;exact⟨h.symm,(U6 hj).symm⟩
    ·cases hj
   exact {
    box:=λj e hj=>by
     obtain⟨rfl,rfl⟩:=hh j e hj;refine .inr ⟨g',c',cur',rfl,hg',by rw[hzl];exact hn',hm',hs',by decide,UD ?_⟩;rw[hzl];exact ht'
    inj:=λa b e e' g c d ha _ hb _ _ _=>by rw[(hh a e ha).1,(hh b e' hb).1]
    own:=λa e g c ha _ hγ=>by
     obtain⟨rfl,rfl⟩:=hh a e ha;have hγ:I (g',c')=I (g,c):=hγ;cases hγ;exact hog
    frame:=hfr
    size:=hgr.size
    os:=hgr.os
    tape:=hgr.tape
    output:=hgr.output
    new:=R.inv.new
    rd:=R.inv.rd
    laid:=R.inv.stable C.w0 w' R.inv.laid λg hno=>by
     by_cases hlt:g<C.w0.heap.size;·exact hfr g hlt hno
     ·exact absurd (R.inv.new g (by omega)) hno
    stable:=R.inv.stable
    lent:=λj hj=>by omega }
 have hnl:(ys.flatMap syC).length=2:=by rw[FK,hyl]
 have hflat:(xs.take k++ys++xs.drop k).flatMap syC=(xs.flatMap syC).take (k*2)++ys.flatMap syC++(xs.flatMap syC).drop (k*2):=by
  rw[IA,Bj,List.flatMap_append,List.flatMap_append]
 have hend:∀v,C.w0.ownsRow 0 IEL 2 v xs.length (xs.flatMap syC)->k=xs.length->Calls IP 165 #[v,.int .i64 (k:E),.slice (I ⟨gv,0,O⟩) 1 cv] C.w0 (kT C.w0 v xs.length ((xs.take k++ys++xs.drop k).flatMap syC)):=by
  rintro v hown rfl;rw[List.take_length,VH,Vt,List.flatMap_append];exact Q7 C.w0 hown gv cv curv hgv (by omega) hcvs hnews vQ (by omega)
 rcases b0 with⟨hγ0,rfl⟩|⟨g,c,cur,hγ0,hg,hl,hm,hcs,_,hr⟩;·rw[hγ0] at h0;obtain⟨_,rfl⟩:_/\v0=.slice O 0 0:=h0;refine hlast _ rfl (hend _ ⟨rfl,.inl ⟨rfl,rfl⟩⟩ (by simpa using hkn)) (λg h=>by cases h)
 ·have hcs:cur.size=c*2:=hcs;rw[hγ0] at h0;obtain rfl:v0=.slice (I ⟨g,0,O⟩) xs.length c:=h0;have ht:=FL hr;refine hlast _ rfl ?_ (λg' h=>by
   cases h;exact R.inv.own 15 _ g c rfl trivial hγ0)
  by_cases hk:k=xs.length;·exact hend _ ⟨FK xs,.inr ⟨g,c,cur,rfl,Nat.zero_le _,hg,hl,hm,hcs,ht⟩⟩ hk
  ·rw[hflat];by_cases hroom:xs.length+1<=c
   ·exact Lg C.w0 gv cv curv hgv (by omega) hcvs hnews vQ vQ (by omega) (by omega) hroom hm hg hcs ht (λe=>by
     have:=R.inv.inj 15 31 _ _ g c cv rfl trivial rfl trivial hγ0 (by rw[hγv,e]);omega)
   ·exact Oj C.w0 gv cv curv hgv (by omega) hcvs hnews vQ vQ (by omega) (by omega) hl (by omega) hg hcs ht
end
end Rv
namespace Rv
open Go Go.RowKit Go.Proofs Go.Lib
noncomputable section
set_option maxRecDepth 1000000
abbrev KP:Program:=Tryz.prog
abbrev KSL:zac:=22
abbrev KEL:zac:=51
theorem QH:∃i,KP.info? KEL=I i/\i.zero=I (.int .u32 0)/\i.size=1/\i.bytes=4:=by
 obtain⟨i,h1,h2,h3,h4⟩:=info_parts (show(KP.info? KEL).map (λi=>(i.zero,i.size,i.bytes))=I (I (.int .u32 0),1,4) by kernel_rfl);exact⟨i,h1,h2,h3,h4⟩
def Sq(w:U)(n:F)(zs:zab N)(e:Ending)(w':U):Prop:=
 ∃v',e=.returned v'/\w'.ownsRow w.heap.size KEL 1 v' n zs/\Below w.heap.size w w'
set_option maxHeartbeats 2000000 in
theorem QJ(a:Addr)(n c:F)(cs:zab N)(w:U)(hl:cs.length=n)(hbig:n*4<=140737488355328)(hc:∀j u,cs[j]?=I u->w.cell? (a.add j)=I u)(h1:∀u∈cs,u.oneCell'=Y) :
  Calls KP 109 #[.slice (I a) n c] w (Sq w n cs):=by
 obtain⟨i0,hi,hz0,hz1,hz2⟩:=QH;have q22:∀(w:U) (a:zad Addr) (n c n' c':F),(binOp .eql KSL (.slice a n c) (.slice O n' c')).run KP w=.ok (.bool a.isNone) w:=λw a n c n' c'=>Lib.run_eql_slice_nil w _ _ a n c n' c' Tryz.underlying22
 have u22:∀w,Sem.run KP (underlying KSL) w=.ok (TypeDesc.slice KEL) w:=run_underlying Tryz.underlying22;have A:Aside (∀j u,cs[j]?=I u->w.cell? (a.add j)=I u):=hc;clear hc
 go_enter Tryz.func109,Tryz.ntmps109
 go_wp2_with (at_builtin;refine wpList_append_own _ rfl _ _ KSL rfl w.heap.size KEL i0 (.int .u32 0) 1 4 Tryz.underlying22 hi hz0 hz1 hz2 rfl (by decide) _ _ _ rfl (World.ownsRow_made w #[] 0 (U7 _) (Nat.zero_le _) rfl) a n c cs rfl ?qc1 ?qc2 ?qc3 ?qc4 ?qc5 ?qc6 ?_)
 case qc1=>omega
 case qc2=>
  intro j u hj;exact Lib.cell?_alloc_some _ (A.out j u hj)
 case qc3=>exact h1
 case qc4=>unfold maxLen;omega
 case qc5=>omega
 case qc6=>simp
 intro v' w1 hown hgrow hnil
 go_wp2
 go_ret
 refine⟨v',rfl,by simpa using hown,?_⟩;exact((Below.refl _ w).alloc (U7 _) _).grown hgrow (by simp) (by intro k hk;simp[Value.ownBlock] at hk;omega)
set_option maxHeartbeats 1000000 in
theorem QI(n c:F)(w:U):Calls KP 109 #[.slice O n c] w λe w'=>e=.returned (.slice O 0 0)/\w'=w:=by
 have q22:∀(w:U) (a:zad Addr) (n c n' c':F),(binOp .eql KSL (.slice a n c) (.slice O n' c')).run KP w=.ok (.bool a.isNone) w:=λw a n c n' c'=>Lib.run_eql_slice_nil w _ _ a n c n' c' Tryz.underlying22
 go_enter Tryz.func109,Tryz.ntmps109
 go_wp2
 go_ret
 exact⟨rfl,rfl⟩
abbrev kTU:Ty:=.int .u32
abbrev kuC(x:E):N:=.int .u32 x
theorem Te{w:U}{ok:F->Prop}{xs:zab E}{cur:zab N}(h:cur.take xs.length=xs.map kuC):bq w ok kTU xs cur:=by
 intro j x hj;have hl:j<xs.length:=(Vi.1 hj).1;have hx:xs[j]=x:=(Vi.1 hj).2;show(cur.drop (j*1)).take 1=[kuC x]
 have h1:(cur.drop (j*1)).take 1=((cur.take xs.length).drop j).take 1:=by
  rw[List.drop_take,List.take_take,Nat.min_eq_left (by omega),Nat.mul_one]
 rw[h1,h,<- List.map_drop,Vs hl,hx];rfl
def Ah:Spec:=⟨⟨[(0,.c (.sl kTU))],[]⟩,⟨[(0,.c (.row KEL kTU))],[]⟩,λx=>L.cloneO x.1⟩
set_option maxHeartbeats 1000000 in
theorem SI{W:U->Prop}:Sat KP W 109 Ah:=by
 rintro⟨xs,u⟩ y hy C γ vals hCL hCn R;have hCn:C.nl=0:=hCn;have hy:L.cloneO xs=I y:=hy;unfold L.cloneO at hy;split at hy
 case isFalse=>cases hy
 case isTrue hbig=>
 obtain rfl:=U6 hy;have hsz:vals.size=1:=R.size;have s0:av C γ _ C.w0 (.sl O kTU xs) (vals.getD 0 undef):=R.slot 0 (.v (.c (.sl O kTU xs))) rfl;obtain⟨_,A,c,hv0,hcap,hx⟩:=s0;have hv:vals=#[.slice A xs.length c]:=by
  rw[<- hv0];apply Array.ext';obtain⟨l⟩:=vals
  match l,hsz with
  |[a],_=>rfl
 have hfin:∀(w':U) (v':N),w'.ownsRow C.w0.heap.size KEL 1 v' xs.length (xs.map kuC)->Below C.w0.heap.size C.w0 w' ->
   ∃(γ':Gam) (rs:Array N),Ending.returned v'=.returned (if h:rs.size=1 then rs[0] else .tuple rs)/\Rel C γ' w' (Ah.r.mk' nmJ Ah.r.slots.length (xs,())) rs:=by
  intro w' v' hown hb;have hfr:∀g,g<C.w0.heap.size->w'.heap[g]?=C.w0.heap[g]?:=λg hg=>hb.block g hg
  obtain⟨γ0,hOwn,hBox⟩:∃γ0:zad (F×F),eB γ0 xs.length v'/\((γ0=O/\xs=[])\/∃g c cur,γ0=I (g,c)/\C.w0.heap.size<=g/\w'.heap[g]?=I (.cells cur KEL (0,0))/\xs.length<=c/\c<=maxLen/\cur.size=c*1/\cur.toList.take (xs.length*1)=xs.map kuC):=by
   rcases hown.2 with⟨h1,h2⟩|⟨g,cap,cur,h1,h2,h3,h4,h5,h6,h7⟩;·exact⟨O,⟨h2,h1⟩,.inl ⟨rfl,List.eq_nil_of_length_eq_zero h2⟩⟩
   ·exact⟨I (g,cap),h1,.inr ⟨g,cap,cur,rfl,h2,h3,h4,h5,h6,h7⟩⟩
  refine⟨λj=>if j=15 then γ0 else O,#[v'],rfl,rfl,?_,?_⟩
  ·intro j v hj
   match j,hj with
   |0,hj=>
    obtain rfl:=U6 hj;have h1:v'.oneCell'=Y:=by
     cases γ0 with
     |none=>rw[hOwn.2];rfl
     |some p=>rw[show v'=_ from hOwn];rfl
    exact⟨h1,_,rfl,U7 _,λ_ n hn=>by
     have hn:I xs.length=I n:=hn;obtain rfl:=U6 hn;exact hOwn⟩
   |j+1,hj=>cases hj
  ·have hh:∀j e,(Ah.r.mk' nmJ Ah.r.slots.length (xs,())).h j=I e->j=15/\e=⟨0,0,.row KEL kTU xs⟩:=λj e hj=>by
    have hj:(if 15=j then I (⟨0,0,.row KEL kTU xs⟩:En) else O)=I e:=by
     have:(if j=15 then I (⟨0,0,.row KEL kTU xs⟩:En) else O)=I e:=hj;rw[<- this];congr 1;exact propext eq_comm
    split at hj;·rename_i h;exact⟨h.symm,(U6 hj).symm⟩
    ·cases hj
   exact {
    box:=λj e hj=>by
     obtain⟨rfl,rfl⟩:=hh j e hj;rcases hBox with⟨h1,h2⟩|⟨g,c,cur,h1,h2,h3,h4,h5,h6,h7⟩;·exact .inl ⟨h1,h2⟩
     ·exact .inr ⟨g,c,cur,h1,h3,h4,h5,h6,by decide,Te (by rwa [Nat.mul_one] at h7)⟩
    inj:=λa b e e' g c d ha _ hb _ _ _=>by rw[(hh a e ha).1,(hh b e' hb).1]
    own:=λa e g c ha _ hγ=>by
     obtain⟨rfl,rfl⟩:=hh a e ha;have hγ:γ0=I (g,c):=hγ;rcases hBox with⟨h1,h2⟩|⟨g',c',cur,h1,h2,_⟩;·rw[h1] at hγ;cases hγ
     ·rw[h1] at hγ;cases hγ;exact R.inv.new g h2
    frame:=λg hg _=>hfr g hg
    size:=hb.size
    os:=hb.os
    tape:=hb.tape
    output:=hb.output
    new:=R.inv.new
    rd:=R.inv.rd
    laid:=R.inv.stable C.w0 w' R.inv.laid λg hno=>by
     by_cases hlt:g<C.w0.heap.size;·exact hfr g hlt
     ·exact absurd (R.inv.new g (by omega)) hno
    stable:=R.inv.stable
    lent:=λj hj=>by omega }
 rw[hv];cases A with
 |none=>
  have hnil:xs=[]:=by
   cases xs with
   |nil=>rfl
   |cons x r=>obtain⟨g,o,ds,h,_⟩:=hx 0 x rfl;cases h
  subst hnil;refine(QI _ c C.w0).mono ?_;rintro e w' ⟨rfl,rfl⟩;exact hfin _ _ ⟨rfl,.inl ⟨rfl,rfl⟩⟩ (Below.refl _ _)
 |some a=>
  refine(QJ a xs.length c (xs.map kuC) C.w0 (by simp) hbig (λj u hj=>?_) (λu hu=>by obtain⟨x,_,rfl⟩:=Vr.1 hu;rfl)).mono ?_
  ·rw[VV] at hj;cases hxj:xs[j]? with
   |none=>rw[hxj] at hj;cases hj
   |some x=>
    rw[hxj] at hj;obtain rfl:=U6 hj;obtain⟨g,o,ds,h,_,_,hrd,hcell⟩:=hx j x hxj;cases h;have hds:ds=[kuC x]:=hrd;have:=hcell 0 (kuC x) (by rw[hds];rfl);rw[show o+j*kTU.size+0=o+j by rw[show kTU.size=1 from rfl,Nat.mul_one,Nat.add_zero]] at this;rw[iG];exact this
  ·rintro e w' ⟨v',rfl,hown,hb⟩;exact hfin w' v' hown hb
end
end Rv
namespace Rv
open Go Go.RowKit
theorem fJ.one{w:U}{t:Ty}{xs:zab t.D}{v:N}(h:fJ w t xs v):v.oneCell'=Y:=by
 obtain⟨A,c,rfl,_⟩:=h;rfl
theorem fJ.rep{w:U}{L:U->Prop}{t:Ty}{xs:zab t.D}{v:N}(h:fJ w t xs v):av (top w L) (λ_=>O) (Heap.ofList []) w (.sl O t xs) v:=by
 refine⟨h.one,?_⟩;obtain⟨A,c,hv,hc,hx⟩:=h;refine⟨A,c,hv,hc,λi x hi=>?_⟩;obtain⟨g,o,ds,h1,h2,h3,h4⟩:=hx i x hi;exact⟨g,o,ds,h1,⟨trivial,λk e c hk=>by cases hk⟩,h2,h3.mono (U7 _) (λg _ _=>⟨rfl,trivial,λk e c hk=>by cases hk⟩),h4⟩
theorem fJ.of{C:Ctx}{γ:Gam}{h:Heap}{w:U}{t:Ty}{xs:zab t.D}{v:N}(hr:av C γ h w (.sl O t xs) v):fJ w t xs v:=by
 obtain⟨_,A,c,hv,hc,hx⟩:=hr;refine⟨A,c,hv,hc,λi y hy=>?_⟩;obtain⟨g,o,ds,h3,_,h5,h6,h7⟩:=hx i y hy;exact⟨g,o,ds,h3,h5,h6.mono (U7 _) (λ_ _ _=>⟨rfl,trivial⟩),h7⟩
theorem fJ.later{w w':U}{t:Ty}{xs:zab t.D}{v:N}(h:fJ w t xs v)(hs:w.heap.size<=w'.heap.size)(hb:∀g,g<w.heap.size->w'.heap[g]?=w.heap[g]?):fJ w' t xs v:=by
 obtain⟨A,c,hv,hc,hx⟩:=h;refine⟨A,c,hv,hc,λi x hi=>?_⟩;obtain⟨g,o,ds,h1,h2,h3,h4⟩:=hx i x hi;exact⟨g,o,ds,h1,VM h2 hs,h3.mono hs (λg _ hg=>⟨hb g hg,trivial⟩),λj u hj=>(World.cell?_of_block (hb g h2)).trans (h4 j u hj)⟩
section
variable{P:Program}{L:U->Prop}{w:U}
def dX(L:U->Prop)(n:F):Prop:=∀a b:U,L a->(∀g,g<n->b.heap[g]?=a.heap[g]?)->L b
theorem dX.later{n m:F}(h:dX L n)(hm:n<=m):dX L m:=λa b ha hb=>h a b ha λg hg=>hb g (VM hg hm)
theorem nH{st:St}{args:Array N}(hh:st.h=Heap.ofList [])(hsz:args.size=st.s.length)(hs:∀i v,st.s[i]?=I v->bv (top w L) (λ_=>O) (Heap.ofList []) w v (args.getD i undef))(hL:L w)(hst:dX L w.heap.size) :
  Rel (top w L) (λ_=>O) w st args:=⟨hsz,by rw[hh];exact hs,by rw[hh];exact IE hL hst⟩
theorem kD{γ:Gam}{w':U}{st:St}{rs:Array N}(R:Rel (top w L) γ w' st rs):Below w.heap.size w w':=
 ⟨R.inv.os,R.inv.tape,R.inv.output,R.inv.size,λk hk=>R.inv.frame k hk (by show ¬w.heap.size<=k;omega)⟩
abbrev oTU:Ty:=.int .u32
abbrev oTI:Ty:=.int .i64
abbrev oTS:Ty:=.pair .str (.pair (.int .i64) .nil)
abbrev oC:zab CD:=[.sl oTU,.sl oTI,.sl oTS]
abbrev oOT:=zab E
abbrev oOY:=zab (zab UInt8×E×zak)
def dx(w:U)(ws ss:oOT)(ys:oOY)(v:N):Prop:=∃v1 v2 v3,v=.agg #[v1,v2,v3]/\fJ w oTU ws v1/\fJ w oTI ss v2/\fJ w oTS ys v3
theorem dx.later{w':U}{ws ss:oOT}{ys:oOY}{v:N}(h:dx w ws ss ys v)(hs:w.heap.size<=w'.heap.size)(hb:∀g,g<w.heap.size->w'.heap[g]?=w.heap[g]?):dx w' ws ss ys v:=by
 obtain⟨v1,v2,v3,rfl,h1,h2,h3⟩:=h;exact⟨v1,v2,v3,rfl,h1.later hs hb,h2.later hs hb,h3.later hs hb⟩
theorem dx.rep{ws ss:oOT}{ys:oOY}{v:N}(h:dx w ws ss ys v):bv (top w L) (λ_=>O) (Heap.ofList []) w (.v (.agg [.sl O oTU ws,.sl O oTI ss,.sl O oTS ys])) v:=by
 obtain⟨v1,v2,v3,rfl,h1,h2,h3⟩:=h;exact⟨[v1,v2,v3],rfl,h1.rep,h2.rep,h3.rep,trivial⟩
theorem dx.of{C:Ctx}{γ:Gam}{h:Heap}{ws ss:oOT}{ys:oOY}{v:N}(hr:bv C γ h w (.v (.agg [.sl O oTU ws,.sl O oTI ss,.sl O oTS ys])) v):dx w ws ss ys v:=by
 obtain⟨vs,rfl,ha⟩:=hr
 match vs,ha with
 |[v1,v2,v3],⟨h1,h2,h3,_⟩=>exact⟨v1,v2,v3,rfl,fJ.of h1,fJ.of h2,fJ.of h3⟩
theorem yM{f:FuncId}{g:zab UInt8->zad (zah×zak)}(hs:Sat P L f (af ⟨[(0,Ss)],[]⟩ ⟨[(0,SB)],[]⟩ g)){s:zab UInt8}{y:zah}(hg:g s=I (y,()))(hL:L w)(hst:dX L w.heap.size) :
  Calls P f #[.string (mkS s)] w λe w'=>e=.returned (.bool y)/\Below w.heap.size w w':=by
 have R:Rel (top w L) (λ_=>O) (top w L).w0 ((⟨[(0,Ss)],[]⟩:Shape).mk' nmJ 1 (s,())) #[.string (mkS s)]:=by
  refine nH rfl rfl (λi x hi=>?_) hL hst
  match i,hi with
  |0,hi=>obtain rfl:=U6 hi;exact rfl
  |i+1,hi=>cases hi
 refine(hs (s,()) (y,()) hg (top w L) (λ_=>O) #[.string (mkS s)] rfl rfl R).mono λe w' ⟨γ',rs,he,R'⟩=>?_
 have h0:rs.getD 0 undef=.bool y:=R'.slot 0 (.v (.c (.bool y))) rfl;have hsz:rs.size=1:=R'.size;have hrs:rs=#[.bool y]:=by
  match rs,hsz,h0 with
  |⟨[v]⟩,_,h0=>simp at h0;rw[h0]
 subst hrs;exact⟨he,kD R'⟩
theorem mh{f:FuncId}{g:oOT->oOT->oOY->zad (E×zak)}(hs:Sat P L f (af ⟨[(0,.agg oC)],[]⟩ ⟨[(0,Si)],[]⟩ g)){ws ss:oOT}{ys:oOY}{y:E}(hg:g ws ss ys=I (y,())){v:N}(hv:dx w ws ss ys v)(hL:L w)(hst:dX L w.heap.size) :
  Calls P f #[v] w λe w'=>e=.returned (.int .i64 y)/\Below w.heap.size w w':=by
 have R:Rel (top w L) (λ_=>O) (top w L).w0 ((⟨[(0,.agg oC)],[]⟩:Shape).mk' nmJ 1 (ws,ss,ys,())) #[v]:=by
  refine nH rfl rfl (λi x hi=>?_) hL hst
  match i,hi with
  |0,hi=>obtain rfl:=U6 hi;exact hv.rep
  |i+1,hi=>cases hi
 refine(hs (ws,ss,ys,()) (y,()) hg (top w L) (λ_=>O) #[v] rfl rfl R).mono λe w' ⟨γ',rs,he,R'⟩=>?_
 have h0:rs.getD 0 undef=.int .i64 y:=R'.slot 0 (.v (.c (.int .i64 y))) rfl;have hsz:rs.size=1:=R'.size;have hrs:rs=#[.int .i64 y]:=by
  match rs,hsz,h0 with
  |⟨[v]⟩,_,h0=>simp at h0;rw[h0]
 subst hrs;exact⟨he,kD R'⟩
theorem Jc{f:FuncId}{g:oOT->oOT->oOY->E->zad (E×zah×zak)}(hs:Sat P L f (af ⟨[(0,.agg oC),(1,Si)],[]⟩ ⟨[(0,Si),(1,SB)],[]⟩ g)){ws ss:oOT}{ys:oOY}{i y:E}{b:zah}(hg:g ws ss ys i=I (y,b,())){v:N}(hv:dx w ws ss ys v)(hL:L w)(hst:dX L w.heap.size) :
  Calls P f #[v,.int .i64 i] w λe w'=>e=.returned (.tuple #[.int .i64 y,.bool b])/\Below w.heap.size w w':=by
 have R:Rel (top w L) (λ_=>O) (top w L).w0 ((⟨[(0,.agg oC),(1,Si)],[]⟩:Shape).mk' nmJ 2 (ws,ss,ys,i,())) #[v,.int .i64 i]:=by
  refine nH rfl rfl (λj x hj=>?_) hL hst
  match j,hj with
  |0,hj=>obtain rfl:=U6 hj;exact hv.rep
  |1,hj=>obtain rfl:=U6 hj;exact rfl
  |j+2,hj=>cases hj
 refine(hs (ws,ss,ys,i,()) (y,b,()) hg (top w L) (λ_=>O) #[v,.int .i64 i] rfl rfl R).mono λe w' ⟨γ',rs,he,R'⟩=>?_
 have h0:rs.getD 0 undef=.int .i64 y:=R'.slot 0 (.v (.c (.int .i64 y))) rfl;have h1:rs.getD 1 undef=.bool b:=R'.slot 1 (.v (.c (.bool b))) rfl;have hsz:rs.size=2:=R'.size;have hrs:rs=#[.int .i64 y,.bool b]:=by
  match rs,hsz,h0,h1 with
  |⟨[u,v]⟩,_,h0,h1=>simp at h0 h1;rw[h0,h1]
 subst hrs;exact⟨he,kD R'⟩
end
end Rv
