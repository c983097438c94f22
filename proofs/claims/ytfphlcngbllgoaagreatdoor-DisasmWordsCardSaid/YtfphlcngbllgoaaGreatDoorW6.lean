/- Texts put together. -/
import Derived.Test.YtfphlcngbllgoaaGreatDoorW5
import Derived.Shelf.Strings.Builder2
import Derived.Lib.ReplaceLaws
import Derived.Lib.SlicesS
import Derived.Deep.LoopGhost
import Derived.Shelf.RegionOpenPlain
import Derived.Maps.RangeWalk
import Derived.Maps.Ext
import Derived.DeepKeys4
import Derived.Test.YtfphlcngbllgoaaGreatDoorW4
import Derived.Lib.Fields
import Derived.Shelf.Strings.SlTrimAscii
import Derived.Maps.OwnOps
import Derived.Test.YtfphlcngbllgoaaGreatDoorProg
import Derived.Laws.EntriesVeiled
import Derived.WideMake
import Derived.Carry
import Derived.Lib.Join
import Derived.Lib.Split
import Derived.Lib.SplitLaws
import Derived.Test.YtfphlcngbllgoaaGreatDoorW1
import Derived.WalkKit
import Derived.Lib.Walk
import Derived.Lib.SliceRun
import Derived.Lib.AppendZeros
import Derived.Lib.Overlaps
import Derived.Laws.Externs
import Derived.Laws.CopyRow
import Derived.Shelf.Spec.SlicesInsert
import Derived.Lib.AppendZerosOnto
import Derived.Laws.AppendOwn
import Derived.Lib.BufferWrite
import Derived.OwnWalk
set_option linter.all false
namespace Rv
open Go Go.RowKit Go.Proofs
noncomputable section
set_option maxRecDepth 1000000
set_option maxHeartbeats 4000000 in
theorem yj(B b n:Nat)(w:World)(hB:B<=b)(hbk:w.heap[b]?=some (.cells #[.pointer none,.slice none 0 0] 183 (0,0)))(hBw:B<=w.heap.size)(hn:n<=281474976710656) :
  Calls Tryz.prog 129 #[.pointer (some ⟨b,0,none⟩),.int .i64 n] w fun e w'=>e=.returned (.tuple #[])/\(Lib.BuilderAt 183 5 B b (.pointer (some ⟨b,0,none⟩)) [] w'/\Below B w w'):=by
 have hbk1:(w.setCell ⟨b,0,none⟩ (.pointer (some ⟨b,0,none⟩))).heap[b]?=some (.cells #[.pointer (some ⟨b,0,none⟩),.slice none 0 0] 183 (0,0)):=by
  simp[World.setCell,Array.getElem?_modify,hbk]
 have c1:(w.setCell ⟨b,0,none⟩ (.pointer (some ⟨b,0,none⟩))).cell? ⟨b,1,none⟩=some (.slice none 0 0):=by rw[Lib.cell_of_heap hbk1];rfl
 have hb1:Below B w (w.setCell ⟨b,0,none⟩ (.pointer (some ⟨b,0,none⟩))):=(Below.refl B w).setCell (p:=⟨b,0,none⟩) hB _;have hU:Lib.BuilderAt 183 5 B b (.pointer (some ⟨b,0,none⟩)) [] (w.setCell ⟨b,0,none⟩ (.pointer (some ⟨b,0,none⟩))):=⟨hB,.slice none 0 0,hbk1,World.ownsRow_nil _ _ _ _,by simp[Value.ownBlock]⟩
 have c1':(w.setCell ⟨b,0,none⟩ (.pointer (some ⟨b,0,none⟩))).drew.cell? ⟨b,1,none⟩=some (.slice none 0 0):=c1;have mixed:Tryz.prog.follows .mixedOrders=true:=by kernel_rfl
 go_enter Tryz.func129,Tryz.ntmps129
 go_wp2_with (go_at_call 187;refine(jo b w (by rw[Lib.cell_of_heap hbk];rfl) (by simp[World.shape?,hbk]) (Lib.frozen_of_heap hbk 0)).mono ?_;rintro e w' ⟨rfl,rfl⟩)
 go_region_o
 all_goals go_wp2_with (go_at_call 188;refine(Tryz.Builder_grow_fresh B b n (w.setCell ⟨b,0,none⟩ (.pointer (some ⟨b,0,none⟩))).drew hB hbk1 (by simpa[World.setCell,World.drew,-World.drew_eq] using hBw) hn).mono ?_;rintro e w' ⟨rfl,h1,h2⟩)
 all_goals first
  |(go_end0;exact⟨rfl,h1,hb1.drew.trans h2⟩)
  |(go_end0;exact⟨rfl,hU.drew,hb1.drew⟩)
theorem hidR{p:Prop}(h:p):Hid p:=h
noncomputable abbrev TB:TypeId:=183
noncomputable abbrev TU:TypeId:=5
theorem kD(B b:Nat)(bs:List Value)(s:ByteArray)(w:World)(h:Lib.IsBuilderF 183 5 B b bs w)(hlen:bs.length+s.size<=140737488355328)(hBw:B<=w.heap.size) :
  Calls Tryz.prog 130 #[.pointer (some ⟨b,0,none⟩),.string s] w fun e w'=>e=.returned (.tuple #[.int .i64 s.size,.nilIface])/\(Lib.IsBuilderF 183 5 B b (bs++Lib.strCells s) w'/\Below B w w'):=
 (sP B b bs s w h hlen hBw).mono fun e w' ⟨h1,h2,h3,_⟩=>⟨h1,Or.inr h2,h3⟩
set_option maxHeartbeats 16000000 in
theorem uJ(s old new:ByteArray)(m:Int)(w:World)(hs:s.size<4294967281)(hm:w.cell? ⟨0,0,none⟩=some (.int .i64 m))(h1:1<=old.size)(hne:old≠new)(hc0:Lib.countB s old≠0)
  (hlen:s.size+Lib.countB s old*new.size<=140737488355328) :
  Calls Tryz.prog 279 #[.string s,.string old,.string new,.int .i64 (-1)] w fun e w'=>
   e=.returned (.string ⟨(Lib.replaceK old.data.toList new.data.toList (Lib.replaceNum s.data.toList old.data.toList (-1)) s.data.toList).toArray⟩)/\Below w.heap.size w w':=by
 have hC:=Tryz.strings_Count_any s old m w hs hm h1;have hmul:=Lib.countB_mul_le old h1 s.size s (DU _);obtain⟨K,hK⟩:∃K:Nat,Lib.replaceNum s.data.toList old.data.toList (-1)=K:=⟨_,rfl⟩
 rw[hK];obtain⟨cn,hcn⟩:∃cn:Nat,Lib.countB s old=cn:=⟨_,rfl⟩
 rw[hcn] at hC hlen hc0 hmul;have hcn':Lib.count s.data.toList old.data.toList=cn:=hcn;have hbeq:(old.toList == new.toList)=false:=(Lib.bytes_beq_false_iff old new).2 hne;have hcz:((cn:Int) == 0)=false:=beq_eq_false_iff_ne.2 (by omega);have ho0:(0:Int)<(old.size:Int):=by omega
 have hlenL:s.data.toList.length=s.size:=(Lib.size_eq s).symm;have hlenO:old.data.toList.length=old.size:=(Lib.size_eq old).symm;have hgl:0<w.heap.size:=World.block_lt_of_cell? _ _ hm;obtain rfl:K=cn:=by
  unfold Lib.replaceNum at hK;rw[hcn',if_pos (Or.inl (by decide))] at hK;exact hK.symm
 have hK1:1<=K:=by omega
 have hKo:K*old.size<=s.size:=hmul;have hKs:K<=s.size:=Eg (Nat.le_mul_of_pos_right K (by omega)) hKo;have hga:=Lib.grow_arg s.size K new.size old.size hK1 hKo hlen;have hKcount:K<=Lib.count (s.data.toList.drop 0) old.data.toList:=by rw[EH,hcn'];exact DU _
 clear hK hcn hcn' hmul;have hod:decide (0<old.size)=true:=decide_eq_true (by omega)
 go_enter Tryz.func279,Tryz.ntmps279
 go_wp2_with (first|(go_at_call 145;refine hC.mono ?_;rintro e w' ⟨rfl,hw⟩;rw[hw])|(go_at_call 129;try rw[hga];refine(yj w.heap.size w.heap.size _ _ (DU _) (heap_alloc_new w _) (by simp) (by omega)).mono ?_))
 rintro e w1 ⟨rfl,hb0,hb1⟩;clear hC;have H1:=hidR (Lib.IsBuilderF.of (Or.inr hb0:Lib.IsBuilder TB TU w.heap.size w.heap.size (Lib.byteCells []) w1));have Hb1:=hidR (((Below.refl w.heap.size w).alloc (DU _) _).trans hb1);clear hb0 hb1 hga
 go_wp2_with fail
 go_loopg [11,53] K (fun g s11 s53 wx=>∃(i start:Nat) (acc:List UInt8),s53=.int .i64 i/\s11=.int .i64 start/\i+g=K/\start<=s.size /\
  Hid (Lib.IsBuilderF TB TU w.heap.size w.heap.size (Lib.byteCells acc) wx)/\Hid (Below w.heap.size w wx)/\Hid (acc++Lib.replaceK old.data.toList new.data.toList g (s.data.toList.drop start)=Lib.replaceK old.data.toList new.data.toList K s.data.toList) /\
  g<=Lib.count (s.data.toList.drop start) old.data.toList/\acc.length+(s.size-start)+g*new.size<=s.size+K*new.size)
 case atStart=>exact⟨0,0,[],rfl,rfl,by omega,Nat.zero_le _,H1,Hb1,hidR (by simp),hKcount,by simp⟩
 case round=>
  obtain⟨i,start,acc,rfl,rfl,hig,hst,HB,HW,HR,hgc,hbd⟩:=hrel;have hBw:w.heap.size<=wr.heap.size:=HW.out.size;have c1:(0:Int)<=(start:Int):=by omega
  have c2:(start:Int)<=(s.size:Int):=by omega
  cases gk with
  |zero=>
   have hiK:¬((i:Int)<(K:Int)):=by omega
   go_wp2_with fail
   refine(kD w.heap.size w.heap.size _ _ wr HB.out (by rw[Lib.byteCells_length,ByteArray.size_extract];omega) hBw).mono ?_;rintro e w3 ⟨rfl,h3,hb3⟩;rw[Lib.strCells_eq,Lib.extract_to_end,<- Lib.byteCells_append] at h3;have hfin:acc++s.data.toList.drop start=Lib.replaceK old.data.toList new.data.toList K s.data.toList:=HR.out;rw[hfin] at h3;have H3:=hidR h3;have Hb3:=hidR (HW.out.trans hb3);have hBw3:w.heap.size<=w3.heap.size:=Hb3.out.size;clear h3 hb3 hfin
   go_wp2_with fail
   refine(Tryz.Builder_String_any_k w.heap.size w.heap.size _ w3 H3.out hBw3).mono ?_;rintro e w5 ⟨rfl,_,hb5,_⟩;have Hb5:=hidR (Hb3.out.trans hb5);clear hb5
   go_wp2
   go_ret
   exact⟨rfl,Hb5.out⟩
  |succ g=>
   have hiK:(i:Int)<(K:Int):=by omega
   obtain⟨j,hj⟩:=Lib.index_of_count (s:=s.data.toList.drop start) (old:=old.data.toList) (by omega);have hroom:j+old.size<=s.size-start:=by
    have:=Lib.index_room (s.data.toList.drop start) old.data.toList (by rw[hj];omega);rw[hj,EE,hlenL,hlenO] at this;omega
   have hmr:wr.cell? ⟨0,0,none⟩=some (.int .i64 m):=by rw[HW.out.cell (p:=⟨0,0,none⟩) hgl];exact hm
   have hsucc:(g+1)*new.size=g*new.size+new.size:=Nat.succ_mul _ _;have c3:(start:Int)<=(start:Int)+(j:Int):=by omega
   have c4:(start:Int)+(j:Int)<=(s.size:Int):=by omega
   have hnext:Lib.byteCells acc++Lib.strCells (s.extract start (start+j))++Lib.strCells new=Lib.byteCells (acc++(s.data.toList.drop start).take j++new.data.toList):=by
    rw[Lib.strCells_eq,Lib.strCells_eq,Lib.extract_data,Nat.add_sub_cancel_left,<- Lib.byteCells_append,<- Lib.byteCells_append]
   have hrep:(acc++(s.data.toList.drop start).take j++new.data.toList)++Lib.replaceK old.data.toList new.data.toList g (s.data.toList.drop (start+j+old.size))=Lib.replaceK old.data.toList new.data.toList K s.data.toList:=by
    rw[<- HR.out,Lib.replaceK_hit _ _ g _ j hj,List.drop_drop,hlenO];simp only[Ed,ED]
   have hcnt:g<=Lib.count (s.data.toList.drop (start+j+old.size)) old.data.toList:=by
    have:=Lib.count_hit (s:=s.data.toList.drop start) (sub:=old.data.toList) (i:=j) (fun e=>by rw[e] at hlenO;simp at hlenO;omega) hj;rw[List.drop_drop,hlenO] at this;rw[show start+j+old.size=start+(j+old.size) by omega];omega
   have htl:((s.data.toList.drop start).take j).length=j:=by rw[EF,EE,hlenL];omega
   have Hn:=hidR hnext;have Hrep:=hidR hrep;clear hnext hrep HR
   go_wp2_with (first|(go_at_call 146;refine(Tryz.strings_Index _ _ m _ (by rw[ByteArray.size_extract];omega) hmr).mono ?_;rintro e w' ⟨rfl,hw⟩;rw[hw,Lib.extract_to_end,hj]))
   refine(kD w.heap.size w.heap.size _ (s.extract start (start+j)) wr HB.out (by rw[Lib.byteCells_length,ByteArray.size_extract];omega) hBw).mono ?_;rintro e w3 ⟨rfl,h3,hb3⟩;have hBw3:w.heap.size<=w3.heap.size:=Eg hBw hb3.size;have H3:=hidR h3;have Hb3:=hidR hb3;clear h3 hb3
   go_wp2_with fail
   refine(kD w.heap.size w.heap.size _ new w3 H3.out (by rw[DZ,Lib.byteCells_length,Lib.strCells_length,ByteArray.size_extract];omega) hBw3).mono ?_;rintro e w4 ⟨rfl,h4,hb4⟩;rw[Hn.out] at h4;have H4:=hidR h4;have Hb4:=hidR ((HW.out.trans Hb3.out).trans hb4);clear h4 hb4
   go_wp2
   go_roundg g
   case measure=>omega
   case rel=>exact⟨i+1,start+j+old.size,_,by first|rfl|(simp;unfold wrap64;omega),by first|rfl|simp|(simp;unfold wrap64;omega),by omega,by omega,H4,Hb4,Hrep,hcnt,by simp only[DZ,htl,<- Lib.size_eq];omega⟩
theorem nu(s old new:ByteArray)(m:Int)(w:World)(hs:s.size<4294967281)(hm:w.cell? ⟨0,0,none⟩=some (.int .i64 m))(h1:1<=old.size)(hne:old≠new)(hc0:Lib.countB s old≠0)
  (hlen:s.size+Lib.countB s old*new.size<=140737488355328) :
  Calls Tryz.prog 259 #[.string s,.string old,.string new] w fun e w'=>
   e=.returned (.string ⟨(Lib.replaceK old.data.toList new.data.toList (Lib.replaceNum s.data.toList old.data.toList (-1)) s.data.toList).toArray⟩)/\Below w.heap.size w w':=by
 have c:=uJ s old new m w hs hm h1 hne hc0 hlen
 go_enter Tryz.func259,Tryz.ntmps259
 go_wp2_with (go_at_call 279;refine c.mono ?_;rintro e w' ⟨rfl,hw⟩)
 go_ret
 exact⟨rfl,hw⟩
end
end Rv
namespace Rv
open Go Go.RowKit Go.Proofs Go.Maps
noncomputable section
set_option maxRecDepth 1000000
abbrev NK:=Int×Int×Bool
noncomputable abbrev TW:TypeId:=233
noncomputable abbrev TM:TypeId:=230
noncomputable abbrev TS:TypeId:=9
noncomputable abbrev PP:Program:=Tryz.prog
noncomputable def kv(k:NK):Value:=.agg #[.int .i64 k.1,.int .i64 k.2.1,.bool k.2.2]
noncomputable def Bh(k:NK):List Lit:=[.int .i64 k.1,.int .i64 k.2.1,.bool k.2.2]
noncomputable def kl(k:NK):Lit:=.string (keyBytes (Bh k))
def okK(k:NK):Prop:=(Lit.int .i64 k.1).wf=true/\(Lit.int .i64 k.2.1).wf=true
theorem zi:(match PP.underlying TW with|some (.array _ _)|some (.struct _)=>true|_=>false)=true:=by kernel_rfl
theorem Dk:PP.keyType TW=true:=by kernel_rfl
theorem Ai:laidOutB PP=true:=by kernel_rfl
theorem jZ:Keyed PP TW:=Keyed.of_law (deep_law_laid Ai (m:=2) (by omega) (of_decide_eq_true (by kernel_rfl)) (by kernel_rfl) zi)
theorem qz:PP.cellsOf TW=3:=by kernel_rfl
theorem oI:∃a b c,PP.underlying TW=some (.struct #[a,b,c])/\a.name ≠ "_" /\ b.name ≠ "_" /\ c.name ≠ "_" /\ a.offset=0/\b.offset=1/\c.offset=2/\a.type=3/\b.type=3/\c.type=4:=
 ⟨_,_,_,Tryz.underlying233,by decide,by decide,by decide,rfl,rfl,rfl,rfl,rfl,rfl⟩
theorem wF:∃d,PP.types.size=d+1:=by
 have h:decide (0<PP.types.size)=true:=by kernel_rfl
 exact⟨PP.types.size-1,by have:=of_decide_eq_true h;omega⟩
theorem vU:PP.cellsOf 3=1:=by kernel_rfl
theorem vT:PP.cellsOf 4=1:=by kernel_rfl
theorem Ag(k:NK)(h:okK k):PP.keyLits (PP.types.size+1) TW [.int .i64 k.1,.int .i64 k.2.1,.bool k.2.2]=some (Bh k):=by
 obtain⟨a,b,c,hu,n1,n2,n3,o1,o2,o3,t1,t2,t3⟩:=oI;obtain⟨d,hd⟩:=wF;rw[hd];have h1:=h.1;have h2:=h.2;unfold Program.keyLits;simp only[hu,qz];rw[if_pos ⟨rfl,by simp[n1,n2,n3]⟩];simp only[List.mapM_cons,List.mapM_nil,o1,o2,o3,t1,t2,t3,vU,vT,EH,List.drop_succ_cons,List.take_succ_cons,List.take_zero];unfold Program.keyLits;simp only[Tryz.underlying3,Tryz.underlying4,h1,h2];rfl
theorem kX(k:NK)(h:okK k):keyOf PP TW (kv k)=some (kl k):=by
 obtain⟨a,b,c,hu,_⟩:=oI;unfold keyOf kv;have hf:(Value.agg #[.int .i64 k.1,.int .i64 k.2.1,.bool k.2.2]).formed PP TW=true:=by simp[Value.formed,hu,qz]
 simp only[hu,Dk,hf,Bool.and_self,if_true];show((PP.keyLits (PP.types.size+1) TW [.int .i64 k.1,.int .i64 k.2.1,.bool k.2.2]).map _)=_;rw[Ag k h];rfl
theorem rJ{v:Value}{l:Lit}(h:keyOf PP TW v=some l):∃k,v=kv k/\okK k/\l=kl k:=by
 obtain⟨xs,L,rfl,hl,rfl⟩:=keyOf_top zi h;obtain⟨a,b,c,hu,n1,n2,n3,o1,o2,o3,t1,t2,t3⟩:=oI;obtain⟨d,hd⟩:=wF;rw[hd] at hl;unfold Program.keyLits at hl;simp only[hu,qz] at hl;split at hl
 ·rename_i hc;obtain⟨xs⟩:=xs
  match xs,hc.1 with
  |[c0,c1,c2],_=>
   simp only[List.mapM_cons,List.mapM_nil,o1,o2,o3,t1,t2,t3,vU,vT,EH,List.drop_succ_cons,List.take_succ_cons,List.take_zero] at hl;unfold Program.keyLits at hl;simp only[Tryz.underlying3,Tryz.underlying4] at hl;obtain⟨k1,i1,rfl⟩:∃k1 i1,c0=.int k1 i1:=by
    cases c0<;>first|exact⟨_,_,rfl⟩|(exfalso;simp at hl;done)
   obtain⟨k2,i2,rfl⟩:∃k2 i2,c1=.int k2 i2:=by
    cases c1<;>first|exact⟨_,_,rfl⟩|(exfalso;simp at hl;done)
   obtain⟨b3,rfl⟩:∃b3,c2=.bool b3:=by
    cases c2<;>first|exact⟨_,rfl⟩|(exfalso;simp at hl;done)
   by_cases e1:k1=.i64/\(Lit.int .i64 i1).wf=true
   ·by_cases e2:k2=.i64/\(Lit.int .i64 i2).wf=true
    ·obtain⟨rfl,w1⟩:=e1;obtain⟨rfl,w2⟩:=e2;refine⟨(i1,i2,b3),rfl,⟨w1,w2⟩,?_⟩;simp[w1,w2] at hl;rw[<- hl];rfl
    ·simp[e2] at hl
   ·simp[e1] at hl
 ·cases hl
theorem pW{a b:NK}(ha:okK a)(hb:okK b)(h:kl a=kl b):a=b:=by
 have h1:=kX a ha;have h2:=kX b hb;rw[h] at h1;have:=jZ.inj h1 h2;simp only[kv,Value.agg.injEq] at this;obtain⟨a1,a2,a3⟩:=a;obtain⟨b1,b2,b3⟩:=b;simp at this;obtain⟨rfl,rfl,rfl⟩:=this;rfl
def aV(w:World)(B n:Nat)(f:NK->Option Str):Prop:=
 ∃D:DataW Unit,w.ownsMap PP TW (plainElem PP TS) B n D/\(∀l,has D l=true->∃k,okK k/\l=kl k/\(f k).isSome=true) /\
  ∀k s,f k=some s->okK k/\has D (kl k)=true/\∀zd,D.atKey (kl k) zd=.lit (.string s)
theorem aV.kept{w w':World}{B n:Nat}{f:NK->Option Str}{row:Option Nat}(h:aV w B n f)(hg:w.grownBy w' row)(hne:some B≠row):aV w' B n f:=by
 obtain⟨D,h1,h2⟩:=h;exact⟨D,h1.kept hg hne,h2⟩
theorem aV.same{w w':World}{B n:Nat}{f:NK->Option Str}(h:aV w B n f)(hg:w'.heap[B]?=w.heap[B]?):aV w' B n f:=by
 obtain⟨D,⟨es,c,hb,r⟩,h2⟩:=h;exact⟨D,⟨es,c,hg.trans hb,r⟩,h2⟩
theorem aV.lt{w:World}{B n:Nat}{f:NK->Option Str}(h:aV w B n f):B<w.heap.size:=by
 obtain⟨D,h1,_⟩:=h;exact h1.lt
theorem aV.made(w:World):aV (w.alloc (.map #[] 0)) w.heap.size 0 (fun _=>none):=
 ⟨.map [],World.ownsMap_made _ _ _ _,fun _ h=>absurd h (by simp[has]),fun _ _ h=>absurd h (by simp)⟩
theorem Ad{w:World}{B n:Nat}{D:DataW Unit}(h:w.ownsMap PP TW (plainElem PP TS) B n D):IsMap D:=by
 obtain⟨es,c,_,_,_,rfl⟩:=h;exact⟨_,rfl⟩
theorem uu(k:NK):WideAt.IsKeyLit (kl k):=trivial
theorem yL{D:DataW Unit}{f:NK->Option Str}(hD:IsMap D)(h1:∀l,has D l=true->∃k,okK k/\l=kl k/\(f k).isSome=true)
  (h2:∀k s,f k=some s->okK k/\has D (kl k)=true/\∀zd,D.atKey (kl k) zd=.lit (.string s)) (k:NK) (s:Str) (hk:okK k) :
  (∀l,has (D.put (kl k) (.lit (.string s))) l=true->∃j,okK j/\l=kl j/\((fun x=>if x=k then some s else f x) j).isSome=true) /\
  ∀j r,(fun x=>if x=k then some s else f x) j=some r->okK j/\has (D.put (kl k) (.lit (.string s))) (kl j)=true/\∀zd,(D.put (kl k) (.lit (.string s))).atKey (kl j) zd=.lit (.string r):=by
 refine⟨fun l hl=>?_,fun j r hj=>?_⟩
 ·by_cases e:l=kl k
  ·exact⟨k,hk,e,by simp⟩
  ·rw[has_put_other e] at hl;obtain⟨j,hj,rfl,hf⟩:=h1 l hl;refine⟨j,hj,rfl,?_⟩;show(if j=k then some s else f j).isSome=true;split
   ·rfl
   ·exact hf
 ·by_cases e:j=k
  ·subst e;simp at hj;subst hj;exact⟨hk,has_put_same hD (uu _) _,fun zd=>atKey_put_same hD (uu _) _ _⟩
  ·simp only[e,if_false] at hj;obtain⟨a1,a2,a3⟩:=h2 j r hj;have hne:kl j≠kl k:=fun e'=>e (pW a1 hk e')
   exact⟨a1,by rw[has_put_other hne];exact a2,fun zd=>by rw[atKey_put_other hne];exact a3 zd⟩
theorem qW:PP.underlying TM=some (.map TW TS):=Tryz.underlying230
theorem qX:PP.underlying TS=some .string:=Tryz.underlying9
theorem aV.put{w:World}{B n:Nat}{f:NK->Option Str}(h:aV w B n f)(hn:n<1000000)(k:NK)(s:Str)(hk:okK k)(hs:s.length<=1000000) :
  ∃w',(Instr.mapUpdate TM (.map (some B)) (kv k) (.string (mkS s))).run PP w=.ok () w'/\aV w' B (n+1) (fun x=>if x=k then some s else f x)/\w.grownBy w' (some B):=by
 obtain⟨D,h1,h2,h3⟩:=h;obtain⟨w',hr,ho,hg⟩:=h1.update jZ qW (by unfold maxLen;omega) (kX k hk) (plainElem_string qX (s:=mkS s) (by show s.length<=maxLen;unfold maxLen;omega));obtain⟨p1,p2⟩:=yL (Ad h1) h2 h3 k s hk;exact⟨w',hr,⟨_,ho,p1,p2⟩,hg⟩
theorem oH{v:Value}{z:DataW Unit×List MemPlace}(h:plainElem PP TS v=some z):∃s:Str,v=.string (mkS s)/\z.1=.lit (.string s):=by
 unfold plainElem at h;rw[qX] at h;cases v<;>simp at h;rename_i s;exact⟨s.data.toList,by simp[mkS],by rw[<- h.2]⟩
theorem aV.look{w:World}{B n:Nat}{f:NK->Option Str}(h:aV w B n f)(k:NK)(hk:okK k) :
  (Instr.lookup TM (.map (some B)) (kv k) false).run PP w=.ok (.string (mkS ((f k).getD []))) w:=by
 obtain⟨D,h1,h2,h3⟩:=h;have hz:(zeroValue TS).run PP w=.ok (.string (mkS [])) w:=by kernel_rfl
 obtain⟨v,ps,hr,hv⟩:=h1.lookup jZ qW hz (plainElem_string qX (s:=mkS []) (by decide)) (kX k hk);obtain⟨s,rfl,hs⟩:=oH hv;rw[hr];have:s=(f k).getD []:=by
  simp only at hs;cases hf:f k with
  |some r=>
   have:=(h3 k r hf).2.2 (.lit (.string (mkS []).data.toList));rw[this] at hs;simpa using hs.symm
  |none=>
   have hn:has D (kl k)=false:=by
    cases hh:has D (kl k);·rfl
    ·obtain⟨j,hj,e,hf'⟩:=h2 _ hh;rw[<- pW hk hj e,hf] at hf';cases hf'
   rw[atKey_of_not_has hn] at hs;have:=DataW.lit.inj hs;exact(Lit.string.inj this).symm
 rw[this]
end
end Rv
namespace Rv
open Go Go.RowKit Go.Proofs Go.Maps
noncomputable section
set_option maxRecDepth 1000000
theorem qZ{P:Program}{ops:Array Oper}{Q:Exit->Act->World->Prop}(htext:qi 0 ops.toList=true)(Inv:(Nat->Bool)->Act->World->Prop)
  (hstep:∀b a w i o,Inv b a w->i<ops.size->ops[i]?=some o->b i=false->(∀e,e∈o.after.toList->Region.binds .any e=true->b e.on=true)->wpOp P ops Q i (Inv (fun k=>b k||decide (k=i))) a w)
  (hend:∀b a w,Inv b a w->(∀i,i<ops.size->b i=true)->Q .normal a w) :
  ∀(fuel:Nat) (listed:Array Bool) (a:Act) (w:World),listed.size=ops.size->((List.range ops.size).filter fun i=>!listed.getD i false).length<=fuel->Inv (fun k=>listed.getD k false) a w->wpAny P .any ops Q fuel listed a w:=by
 have none_ready:∀(listed:Array Bool),listed.size=ops.size->Region.ready .any ops listed=[]->∀i,i<ops.size->listed.getD i false=true:=by
  intro listed hsz hr i hi;by_cases h:listed.getD i false=true;·exact h
  ·obtain⟨j,hj,hp,hmin⟩:=least (n:=ops.size) (p:=fun i=>¬listed.getD i false=true) ⟨i,hi,h⟩;exfalso;have ho:ops[j]?=some ops[j]:=by simp[hj]
   have:j∈Region.ready .any ops listed:=by
    unfold Region.ready;refine Ev.2 ⟨by simpa using hj,?_⟩;have hjl:j<listed.size:=by omega
    simp only[DW,Bool.not_eq_true'];refine⟨?_,?_⟩;·rw[iQ hjl];simpa using hp
    ·rw[ho];simp only[EA,Option.getD_some];rw[Array.all_eq_true'];intro e he;by_cases hb:Region.binds .any e=true
     ·have hlt:=jN htext j ops[j] (by simpa using ho) e (by simpa using he) hb;have:=hmin e.on (by omega);simp only[Decidable.not_not] at this;simp[this]
     ·simp only[Bool.not_eq_true] at hb;simp[hb]
   rw[hr] at this;simp at this
 intro fuel
 induction fuel with
 |zero=>
  intro listed a w hsz hcnt hI;have hall:∀i,i<ops.size->listed.getD i false=true:=fun i hi=>by
   by_cases h:listed.getD i false=true;·exact h
   ·have:i∈(List.range ops.size).filter fun i=>!listed.getD i false:=Ev.2 ⟨by simpa using hi,by simpa using h⟩
    have h0:=List.length_pos_of_mem this;omega
  refine⟨?_,hend _ a w hI hall⟩;unfold Region.ready;refine List.filter_eq_nil_iff.2 fun i hi=>?_
  have hi':i<ops.size:=by simpa using hi
  have:=hall i hi';rw[iQ (by omega:i<listed.size),this];simp
 |succ fuel ih=>
  intro listed a w hsz hcnt hI;refine⟨fun hr=>hend _ a w hI (none_ready listed hsz hr),fun i hi=>?_⟩;unfold Region.ready at hi;obtain⟨hi1,hi2⟩:=Ev.1 hi;have hin:i<ops.size:=by simpa using hi1
  have hil:i<listed.size:=by omega
  simp only[DW,Bool.not_eq_true'] at hi2;obtain⟨hi2,hi3⟩:=hi2;have hoff:listed.getD i false=false:=by rw[<- iQ hil];exact hi2
  have ho:ops[i]?=some ops[i]:=by simp[hin]
  rw[ho] at hi3;simp only[EA,Option.getD_some] at hi3;rw[Array.all_eq_true'] at hi3;have hset:∀k,(listed.setIfInBounds i true).getD k false=(listed.getD k false||decide (k=i)):=fun k=>by
   simp only[Array.getD_eq_getD_getElem?,Array.getElem?_setIfInBounds];by_cases h:i=k;·subst h;simp[hil]
   ·have h':¬k=i:=fun e=>h e.symm
    simp[h,h']
  refine wpOp_mono ?_ (hstep _ a w i ops[i] hI hin ho hoff fun e he hb=>by
   have:=hi3 e (by simpa using he);simpa[hb] using this)
  intro a' w' hI';refine ih _ a' w' (by simpa using hsz) ?_ ?_
  ·have hlt:((List.range ops.size).filter fun k=>!(listed.setIfInBounds i true).getD k false).length<((List.range ops.size).filter fun k=>!listed.getD k false).length:=by
    have e:((List.range ops.size).filter fun k=>!(listed.setIfInBounds i true).getD k false)=(((List.range ops.size).filter fun k=>!listed.getD k false).filter fun k=>decide (k≠i)):=by
     rw[List.filter_filter];refine List.filter_congr fun k _=>?_
     rw[hset];by_cases h:k=i<;>simp[h]
    rw[e];refine List.length_filter_lt_length_iff_exists.2 ⟨i,Ev.2 ⟨by simpa using hin,by simp only[hoff];rfl⟩,by simp⟩
   omega
  ·have:(fun k=>(listed.setIfInBounds i true).getD k false)=fun k=>listed.getD k false||decide (k=i):=by funext k;exact hset k
   rw[this];exact hI'
theorem av{P:Program}{ops:Array Oper}{Q:Exit->Act->World->Prop}{K:Act->World->Prop}{a:Act}{w:World}{i:Nat}{o:Oper}(ho:ops[i]?=some o)(hg:o.guard=none)(h:o.wp P a w K Q):wpOp P ops Q i K a w:=by
 unfold wpOp;rw[ho];have:Region.wanted o (yielded ops a.tmps)=true:=by simp[Region.wanted,hg]
 simp only[this,if_true];exact Or.inl h
def aZ{ι:Type}(ins:List (ι×NK×Str))(b:ι->Bool)(x:NK):Option Str:=ins.findSome? fun e=>if e.2.1=x/\b e.1=true then some e.2.2 else none
theorem kY{ι:Type}[DecidableEq ι]{ins:List (ι×NK×Str)}{b:ι->Bool}{i:ι}(h:∀e∈ins,e.1≠i)(x:NK):aZ ins (fun k=>b k||decide (k=i)) x=aZ ins b x:=by
 unfold aZ
 induction ins with
 |nil=>rfl
 |cons e l ih=>
  have h0:=h e (by simp);simp only[List.findSome?_cons,h0,decide_false,Bool.or_false];rw[ih fun e he=>h e (by simp[he])]
theorem rM{ι:Type}[DecidableEq ι]{ins:List (ι×NK×Str)}(hk:ins.Pairwise fun a b=>a.2.1≠b.2.1)(hi:ins.Pairwise fun a b=>a.1≠b.1){b:ι->Bool}{e:ι×NK×Str}(he:e∈ins)(x:NK) :
  aZ ins (fun k=>b k||decide (k=e.1)) x=if x=e.2.1 then some e.2.2 else aZ ins b x:=by
 induction ins with
 |nil=>simp at he
 |cons d l ih=>
  obtain⟨k1,k2⟩:=List.pairwise_cons.1 hk;obtain⟨i1,i2⟩:=List.pairwise_cons.1 hi;have c:∀b',aZ (d::l) b' x=if d.2.1=x/\b' d.1=true then some d.2.2 else aZ l b' x:=fun b'=>by
   unfold aZ;rw[List.findSome?_cons];by_cases h:d.2.1=x/\b' d.1=true<;>simp[h]
  rw[c,c];rcases D8.1 he with rfl|hl
  ·by_cases hx:x=e.2.1
   ·subst hx;simp
   ·have hx':¬e.2.1=x:=fun h=>hx h.symm
    simp only[hx,hx',false_and,if_false];exact kY (fun d hd=>(i1 d hd).symm) x
  ·have hne:d.1≠e.1:=i1 e hl;have hke:d.2.1≠e.2.1:=k1 e hl;rw[ih k2 i2 hl];simp only[hne,decide_false,Bool.or_false];by_cases hd:d.2.1=x/\b d.1=true
   ·have:¬x=e.2.1:=fun h=>hke (hd.1.trans h)
    rw[if_pos hd,if_neg this,if_pos hd]
   ·rw[if_neg hd,if_neg hd]
theorem iq{ι:Type}{ins:List (ι×NK×Str)}{b b':ι->Bool}(h:∀e∈ins,b e.1=b' e.1)(x:NK):aZ ins b x=aZ ins b' x:=by
 unfold aZ
 induction ins with
 |nil=>rfl
 |cons e l ih=>
  rw[List.findSome?_cons,List.findSome?_cons,ih fun e he=>h e (by simp[he]),h e (by simp)]
theorem pG{b:Nat->Bool}{i:Nat}(h:b i=false):∀{l:List Nat},l.Nodup->i∈l->l.countP b+1<=l.countP (fun k=>b k||decide (k=i))
 |[],_,hi=>by simp at hi
 |k::l,hn,hi=>by
  obtain⟨h1,h2⟩:=List.nodup_cons.1 hn;by_cases e:k=i
  ·subst e;have:l.countP b<=l.countP (fun j=>b j||decide (j=k)):=List.countP_mono_left fun j _ hj=>by simp[hj]
   simp only[List.countP_cons,h,decide_true,Bool.or_true,if_true];simp only[Bool.false_eq_true,if_false];omega
  ·have hil:i∈l:=by
    rcases D8.1 hi with e'|h';·exact absurd e'.symm e
    ·exact h'
   have:=pG h h2 hil;simp only[List.countP_cons,e,decide_false,Bool.or_false];omega
def aB(k:NK):Str:=((L.nameRows.find? fun e=>e.1 == k).map (·.2)).getD []
def ins:List (Nat×NK×Str):=[(2,(1,0,false),aB (1,0,false)),(4,(1,0,true),aB (1,0,true)),(6,(1,8,true),aB (1,8,true)),(8,(3,0,false),aB (3,0,false)),(10,(4,0,false),aB (4,0,false)),
 (12,(5,0,false),aB (5,0,false)),(17,(7,0,false),aB (7,0,false)),(22,(7,0,true),aB (7,0,true)),(24,(8,0,false),aB (8,0,false)),(26,(9,0,false),aB (9,0,false)),(28,(10,0,false),aB (10,0,false))]
def conds:Str:=[77,73,32,69,81,32,67,83,32,86,83,32,76,83,32,76,84,32,76,69,32,46,32,80,76,32,78,69,32,67,67,32,86,67,32,72,73,32,71,69,32,71,84,32,78,86]
noncomputable def mid:List (Nat×Nat×Value):=[(1,3,kv (1,0,false)),(3,4,kv (1,0,true)),(5,5,kv (1,8,true)),(7,6,kv (3,0,false)),(9,7,kv (4,0,false)),(11,8,kv (5,0,false)),(13,9,kv (7,0,false)),
 (14,10,.string (mkS conds)),(15,11,.string (mkS ((aB (7,0,false)).drop 1))),(16,12,.string (mkS (aB (7,0,false)))),(18,13,kv (7,0,true)),(19,14,.string (mkS conds)),(20,15,.string (mkS ((aB (7,0,true)).drop 2))),(21,16,.string (mkS (aB (7,0,true)))),
 (23,17,kv (8,0,false)),(25,18,kv (9,0,false)),(27,19,kv (10,0,false))]
noncomputable def slots(B:Nat):List (Nat×Nat×Value):=(0,2,.map (some B))::(mid++[(29,20,.map (some B)),(30,0,.map (some B))])
def zP:List Nat:=[2,4,6,8,10,12,17,22,24,26,28,29,30]
structure RInv (w:World) (a0:Act) (b:Nat->Bool) (a:Act) (w':World):Prop where
 act:∃ts,a={ a0 with tmps:=ts }/\ts.size=21
 cnd:a.eval (.tmp 1)=.string (mkS conds)
 below:Below w.heap.size w w'
 early:∀i∈zP,b i=true->b 0=true
 map:∃B,(b 0=true->w.heap.size<=B/\∃n f,n<=(List.range 31).countP b/\aV w' B n f/\∀x,f x=aZ ins b x)/\∀i d v,(i,d,v)∈slots B->b i=true->a.eval (.tmp d)=v
variable{w w':World}{a0 a:Act}{b:Nat->Bool}
theorem eval_put{a:Act}{d:Nat}{v:Value}(h:d<a.tmps.size)(t:Nat):(a.put (some d) v).eval (.tmp t)=if t=d then v else a.eval (.tmp t):=by
 show(a.tmps.setIfInBounds d v).getD t undef=_;by_cases e:t=d;·subst e;simp[Array.getD_eq_getD_getElem?,Array.getElem?_setIfInBounds,h]
 ·have e':¬d=t:=fun x=>e x.symm
  rw[if_neg e];show _=a.tmps.getD t undef;simp[Array.getD_eq_getD_getElem?,Array.getElem?_setIfInBounds,e']
theorem Cg:(List.range 31).Nodup:=by decide
theorem jV{α:Type}{f:α->Nat}:∀{l:List α},(l.map f).Nodup->∀x∈l,∀y∈l,f x=f y->x=y
 |[],_,_,hx,_,_,_=>by simp at hx
 |c::l,h,x,hx,y,hy,e=>by
  rw[Ea,List.nodup_cons] at h;rcases D8.1 hx with ex|hx'
  ·rcases D8.1 hy with ey|hy'
   ·rw[ex,ey]
   ·exact absurd (Eb.2 ⟨y,hy',by rw[<- e,ex]⟩) h.1
  ·rcases D8.1 hy with ey|hy'
   ·exact absurd (Eb.2 ⟨x,hx',by rw[e,ey]⟩) h.1
   ·exact jV h.2 x hx' y hy' e
theorem rZ(B:Nat):∀x∈slots B,∀y∈slots B,x.2.1=y.2.1->x=y:=
 jV (f:=fun x:Nat×Nat×Value=>x.2.1) (by
  have:(slots B).map (fun x:Nat×Nat×Value=>x.2.1)=[2,3,4,5,6,7,8,9,10,11,12,13,14,15,16,17,18,19,20,0]:=rfl;rw[this];decide)
theorem r9(B:Nat):∀x∈slots B,∀y∈slots B,x.1=y.1->x=y:=
 jV (f:=fun x:Nat×Nat×Value=>x.1) (by
  have:(slots B).map (fun x:Nat×Nat×Value=>x.1)=[0,1,3,5,7,9,11,13,14,15,16,18,19,20,21,23,25,27,29,30]:=rfl;rw[this];decide)
theorem xK(B:Nat):∀x∈slots B,x.2.1≠1/\x.2.1<21:=by
 have h:(slots B).map (fun x:Nat×Nat×Value=>x.2.1)=[2,3,4,5,6,7,8,9,10,11,12,13,14,15,16,17,18,19,20,0]:=rfl;intro x hx;have:x.2.1∈(slots B).map (fun x:Nat×Nat×Value=>x.2.1):=Eb.2 ⟨x,hx,rfl⟩;rw[h] at this;generalize x.2.1=n at this;revert n;decide
theorem RInv.pure(h:RInv w a0 b a w'){i d:Nat}{v:Value}(hv:∀B,(b 0=true->∀B',a.eval (.tmp 2)=.map (some B')->B=B')->(i,d,v)∈slots B)(hi0:i≠0)(hi:∀e∈ins,e.1≠i)(hb:b i=false)(he:i∈zP->b 0=true)
  {w'':World} (hm:∀B,B<w'.heap.size->w''.heap[B]?=w'.heap[B]?) (hbel:Below w.heap.size w' w''):RInv w a0 (fun k=>b k||decide (k=i)) (a.put (some d) v) w'':=by
 obtain⟨⟨ts,rfl,hts⟩,hc,hbw,hea,B,hB,hs⟩:=h;have hmem:=hv B fun h0 B' hB'=>by
  have:=hs 0 2 (.map (some B)) (by simp[slots]) h0;rw[this] at hB';simpa using hB'
 have hd:=xK B _ hmem;have hlt:d<({ a0 with tmps:=ts }:Act).tmps.size:=by show d<ts.size;have:=hd.2;simp only at this;omega
 refine⟨⟨ts.setIfInBounds d v,rfl,by simpa using hts⟩,?_,hbw.trans hbel,?_,B,fun h0=>?_,fun j e u hm' hj=>?_⟩;·rw[eval_put hlt,if_neg (fun e=>hd.1 e.symm)];exact hc
 ·intro j hj h;simp only[Bool.or_eq_true,D6] at h⊢;rcases h with h|h
  ·exact Or.inl (hea j hj h)
  ·exact Or.inl (he (h ▸ hj))
 ·have h0':b 0=true:=by
   simp only[Bool.or_eq_true,D6] at h0;rcases h0 with h|h;·exact h
   ·exact absurd h.symm hi0
  obtain⟨h1,n,f,hn,hM,hf⟩:=hB h0';refine⟨h1,n,f,Eg hn ?_,hM.same (hm B hM.lt),fun x=>by rw[hf,kY hi]⟩;exact List.countP_mono_left fun k _ hk=>by simp[hk]
 ·rw[eval_put hlt];by_cases hed:e=d
  ·have:=rZ B _ hm' _ hmem hed;rw[if_pos hed];simp only[DT] at this;exact this.2.2.symm
  ·rw[if_neg hed];refine hs j e u hm' ?_;simp only[Bool.or_eq_true,D6] at hj;rcases hj with h|h
   ·exact h
   ·subst h;have:=r9 B _ hm' _ hmem rfl;simp only[DT] at this;exact absurd this.2.1 hed
theorem yV{B j e:Nat}{u:Value}(h:(j,e,u)∈slots B):j=0\/j=29\/j=30\/∀B',(j,e,u)∈slots B':=by
 rcases D8.1 h with h|h;·simp only[DT] at h;exact Or.inl h.1
 ·rcases D9.1 h with h|h
  ·exact Or.inr (Or.inr (Or.inr fun B'=>D5 _ (List.mem_append_left _ h)))
  ·rcases D8.1 h with h|h
   ·simp only[DT] at h;exact Or.inr (Or.inl h.1)
   ·rcases D8.1 h with h|h
    ·simp only[DT] at h;exact Or.inr (Or.inr (Or.inl h.1))
    ·simp at h
theorem RInv.make(h:RInv w a0 b a w')(hb:b 0=false):RInv w a0 (fun k=>b k||decide (k=0)) (a.put (some 2) (.map (some w'.heap.size))) (w'.alloc (.map #[] 0)):=by
 obtain⟨⟨ts,rfl,hts⟩,hc,hbw,hea,B,hB,hs⟩:=h;have hlt:2<({ a0 with tmps:=ts }:Act).tmps.size:=by show 2<ts.size;omega
 have hsz:=hbw.size;refine⟨⟨ts.setIfInBounds 2 (.map (some w'.heap.size)),rfl,by simpa using hts⟩,?_,hbw.alloc hsz _,fun _ _ _=>by simp,w'.heap.size,fun _=>⟨hsz,0,_,Nat.zero_le _,aV.made w',fun x=>?_⟩,fun j e u hm' hj=>?_⟩;·rw[eval_put hlt,if_neg (by decide)];exact hc
 ·rw[kY (by decide)];unfold aZ;refine(List.findSome?_eq_none_iff.2 fun e he=>?_).symm;have:¬b e.1=true:=fun h=>by
   have:=hea e.1 ((by decide:∀e∈ins,e.1∈zP) e he) h;rw[hb] at this;cases this
  simp[this]
 ·rw[eval_put hlt];by_cases hed:e=2
  ·have:=rZ _ _ hm' (0,2,.map (some w'.heap.size)) (by simp[slots]) hed;rw[if_pos hed];simp only[DT] at this;exact this.2.2.symm
  ·rw[if_neg hed];simp only[Bool.or_eq_true,D6] at hj;have hj0:j≠0:=fun e0=>by
    subst e0;have:=r9 _ _ hm' (0,2,.map (some w'.heap.size)) (by simp[slots]) rfl;simp only[DT] at this;exact hed this.2.1
   have hbj:b j=true:=hj.resolve_right hj0;rcases yV hm' with h|h|h|h;·exact absurd h hj0
   ·have:=hea 29 (by decide) (h ▸ hbj);rw[hb] at this;cases this
   ·have:=hea 30 (by decide) (h ▸ hbj);rw[hb] at this;cases this
   ·exact hs j e u (h B) hbj
theorem RInv.lay(h:RInv w a0 b a w'){e:Nat×NK×Str}(he:e∈ins)(hb:b e.1=false)(h0:b 0=true){o:Oper}{K:Act->World->Prop}{Q:Exit->Act->World->Prop}{s:Nat}{x:Value}
  (hop:o.op=.insert TM (.tmp 2) (.tmp s) (.const x)\/∃u,o.op=.insert TM (.tmp 2) (.tmp s) (.tmp u)/\a.eval (.tmp u)=x) (hd:o.dst=none) (hk:a.eval (.tmp s)=kv e.2.1) (hx:x=.string (mkS e.2.2))
  (hok:∀e∈ins,okK e.2.1/\e.2.2.length<=1000000) (hK:∀w'',RInv w a0 (fun k=>b k||decide (k=e.1)) a w''->K a w''):o.wp PP a w' K Q:=by
 obtain⟨ha,hc,hbw,hea,B,hB,hs⟩:=h;obtain⟨hle,n,f,hn,hM,hf⟩:=hB h0;have hc31:(List.range 31).countP b<=31:=by simpa using(List.countP_le_length (l:=List.range 31) (p:=b))
 obtain⟨w'',hrun,hM',hg⟩:=hM.put (by omega) e.2.1 e.2.2 (hok e he).1 (hok e he).2;have h2:a.eval (.tmp 2)=.map (some B):=hs 0 2 _ (by simp[slots]) h0;have hfin:RInv w a0 (fun k=>b k||decide (k=e.1)) a w'':=by
  refine⟨ha,hc,hbw.grown hg (by have:=hbw.size;omega) (fun j hj=>by cases hj;exact hle),fun j hj h=>?_,B,fun _=>⟨hle,n+1,_,?_,hM',fun x=>?_⟩,fun j d v hm hj=>?_⟩
  ·simp[h0]
  ·have:=pG (b:=b) (i:=e.1) hb Cg ((by decide:∀e∈ins,e.1∈List.range 31) e he);omega
  ·rw[rM (by decide) (by decide) he,hf]
  ·refine hs j d v hm ?_;simp only[Bool.or_eq_true,D6] at hj;rcases hj with h|h
   ·exact h
   ·exfalso;have h1:(slots B).map (fun x:Nat×Nat×Value=>x.1)=[0,1,3,5,7,9,11,13,14,15,16,18,19,20,21,23,25,27,29,30]:=rfl;have h2:e.1∈(slots B).map (fun x:Nat×Nat×Value=>x.1):=Eb.2 ⟨_,hm,h⟩;rw[h1] at h2;exact(by decide:∀e∈ins,e.1 ∉ [0,1,3,5,7,9,11,13,14,15,16,18,19,20,21,23,25,27,29,30]) e he h2
 have hput:a.put o.dst undef=a:=by rw[hd];rfl
 subst hx;have hcv:∀v,a.eval (.const v)=v:=fun _=>rfl
 unfold Oper.wp;rcases hop with hop|⟨u,hop,hu⟩;·simp[execOp,hop,h2,hk,hcv,hrun,Result.andThen];rw[Oper.upon_skip,hput];exact hK _ hfin
 ·simp[execOp,hop,h2,hk,hu,hrun,Result.andThen];rw[Oper.upon_skip,hput];exact hK _ hfin
theorem jB:(Lib.countB (mkS conds) ⟨#[32]⟩≠0)/\(mkS conds).size+Lib.countB (mkS conds) ⟨#[32]⟩*3<=140737488355328:=by
 have h:Lib.countB (mkS conds) ⟨#[32]⟩=15:=by decide +kernel
 rw[h];exact⟨by decide,by decide⟩
theorem Dp:Lib.replaceK [32] [32,66] (Lib.replaceNum conds [32] (-1)) conds=(aB (7,0,false)).drop 1:=by decide +kernel
theorem CY:Lib.replaceK [32] [32,66,76] (Lib.replaceNum conds [32] (-1)) conds=(aB (7,0,true)).drop 2:=by decide +kernel
theorem fw:∀e∈ins,okK e.2.1/\e.2.2.length<=1000000:=by
 unfold okK;decide +kernel
def lI(x:NK):Option Str:=(L.nameRows.find? fun e=>e.1 == x).map (·.2)
theorem DF{i:Nat}(h:i<31):i=0\/i=1\/i=2\/i=3\/i=4\/i=5\/i=6\/i=7\/i=8\/i=9\/i=10\/i=11\/i=12\/i=13\/i=14\/i=15\/i=16\/i=17\/i=18\/i=19\/i=20\/i=21\/i=22\/i=23\/i=24\/i=25\/i=26\/i=27\/i=28\/i=29\/i=30:=by omega
theorem gD(n k:Nat):(Array.replicate n false).getD k false=false:=by
 simp only[Array.getD_eq_getD_getElem?,Array.getElem?_replicate];split<;>rfl
theorem aQ{o:Oper}{K:Act->World->Prop}{Q:Exit->Act->World->Prop}{v:Value}{w1 w2:World}(h:(execOp a.eval o).run PP w1=.ok (.value v) w2)(hK:K (a.put o.dst v) w2):o.wp PP a w1 K Q:=by
 unfold Oper.wp;rw[h];exact hK
theorem nI{o:Oper}{K:Act->World->Prop}{Q:Exit->Act->World->Prop}{f:FuncId}{args:Array Value}{w1:World}(h:(execOp a.eval o).run PP w1=.ok (.enter f args) w1)
  (hC:Calls PP f args w1 fun e w2=>∃v,e=.returned v/\K (a.put o.dst v) w2):o.wp PP a w1 K Q:=by
 unfold Oper.wp;rw[h];exact hC.mono fun e w2 ⟨v,he,hk⟩=>by subst he;exact hk
theorem bg{B:Nat}{x:Nat×Nat×Value}(h:x∈mid):x∈slots B:=D5 _ (List.mem_append_left _ h)
theorem RInv.slot(h:RInv w a0 b a w'){i d:Nat}{v:Value}(hm:(i,d,v)∈mid)(hb:b i=true):a.eval (.tmp d)=v:=by
 obtain⟨B,_,hs⟩:=h.map;exact hs i d v (bg hm) hb
theorem ru:∀args w,(callFunc 259 args).run PP w=.ok (.enter 259 args) w:=enters_of Tryz.func259 (by kernel_rfl) rfl
theorem Bo(a:Act)(w:World):(execOp a.eval { dst:=some 3,op:=Op.build TW #[(0,Operand.const (Value.int IntKind.i64 1)),(1,Operand.const (Value.int IntKind.i64 0)),(2,Operand.const (Value.bool false))],type:=TW,pos := "name.go:53",after:=#[],guard:=none }).run PP w=.ok (.value (kv (1,0,false))) w:=by kernel_rfl
theorem Bp(a:Act)(w:World):(execOp a.eval { dst:=some 4,op:=Op.build TW #[(0,Operand.const (Value.int IntKind.i64 1)),(1,Operand.const (Value.int IntKind.i64 0)),(2,Operand.const (Value.bool true))],type:=TW,pos := "name.go:53",after:=#[],guard:=none }).run PP w=.ok (.value (kv (1,0,true))) w:=by kernel_rfl
theorem Bq(a:Act)(w:World):(execOp a.eval { dst:=some 5,op:=Op.build TW #[(0,Operand.const (Value.int IntKind.i64 1)),(1,Operand.const (Value.int IntKind.i64 8)),(2,Operand.const (Value.bool true))],type:=TW,pos := "name.go:53",after:=#[],guard:=none }).run PP w=.ok (.value (kv (1,8,true))) w:=by kernel_rfl
theorem Bt(a:Act)(w:World):(execOp a.eval { dst:=some 6,op:=Op.build TW #[(0,Operand.const (Value.int IntKind.i64 3)),(1,Operand.const (Value.int IntKind.i64 0)),(2,Operand.const (Value.bool false))],type:=TW,pos := "name.go:53",after:=#[],guard:=none }).run PP w=.ok (.value (kv (3,0,false))) w:=by kernel_rfl
theorem Bu(a:Act)(w:World):(execOp a.eval { dst:=some 7,op:=Op.build TW #[(0,Operand.const (Value.int IntKind.i64 4)),(1,Operand.const (Value.int IntKind.i64 0)),(2,Operand.const (Value.bool false))],type:=TW,pos := "name.go:53",after:=#[],guard:=none }).run PP w=.ok (.value (kv (4,0,false))) w:=by kernel_rfl
theorem zy(a:Act)(w:World):(execOp a.eval { dst:=some 8,op:=Op.build TW #[(0,Operand.const (Value.int IntKind.i64 5)),(1,Operand.const (Value.int IntKind.i64 0)),(2,Operand.const (Value.bool false))],type:=TW,pos := "name.go:53",after:=#[],guard:=none }).run PP w=.ok (.value (kv (5,0,false))) w:=by kernel_rfl
theorem zA(a:Act)(w:World):(execOp a.eval { dst:=some 9,op:=Op.build TW #[(0,Operand.const (Value.int IntKind.i64 7)),(1,Operand.const (Value.int IntKind.i64 0)),(2,Operand.const (Value.bool false))],type:=TW,pos := "name.go:53",after:=#[],guard:=none }).run PP w=.ok (.value (kv (7,0,false))) w:=by kernel_rfl
theorem zB(a:Act)(w:World):(execOp a.eval { dst:=some 13,op:=Op.build TW #[(0,Operand.const (Value.int IntKind.i64 7)),(1,Operand.const (Value.int IntKind.i64 0)),(2,Operand.const (Value.bool true))],type:=TW,pos := "name.go:53",after:=#[],guard:=none }).run PP w=.ok (.value (kv (7,0,true))) w:=by kernel_rfl
theorem zC(a:Act)(w:World):(execOp a.eval { dst:=some 17,op:=Op.build TW #[(0,Operand.const (Value.int IntKind.i64 8)),(1,Operand.const (Value.int IntKind.i64 0)),(2,Operand.const (Value.bool false))],type:=TW,pos := "name.go:53",after:=#[],guard:=none }).run PP w=.ok (.value (kv (8,0,false))) w:=by kernel_rfl
theorem zD(a:Act)(w:World):(execOp a.eval { dst:=some 18,op:=Op.build TW #[(0,Operand.const (Value.int IntKind.i64 9)),(1,Operand.const (Value.int IntKind.i64 0)),(2,Operand.const (Value.bool false))],type:=TW,pos := "name.go:53",after:=#[],guard:=none }).run PP w=.ok (.value (kv (9,0,false))) w:=by kernel_rfl
theorem zF(a:Act)(w:World):(execOp a.eval { dst:=some 19,op:=Op.build TW #[(0,Operand.const (Value.int IntKind.i64 10)),(1,Operand.const (Value.int IntKind.i64 0)),(2,Operand.const (Value.bool false))],type:=TW,pos := "name.go:53",after:=#[],guard:=none }).run PP w=.ok (.value (kv (10,0,false))) w:=by kernel_rfl
theorem Cw(a:Act)(h:a.eval (.tmp 11)=.string (mkS ((aB (7,0,false)).drop 1)))(w:World):(execOp a.eval { dst:=some 12,op:=Op.binOp BinOp.add TS (Operand.const (Value.string ⟨#[66]⟩)) (Operand.tmp 11) TS,type:=TS,pos := "name.go:53",after:=#[{ on:=15,ground:=Ground.data }],guard:=none }).run PP w=.ok (.value (.string (mkS (aB (7,0,false))))) w:=by
 have hc:a.eval (.const (.string ⟨#[66]⟩))=.string ⟨#[66]⟩:=rfl;have ha:(⟨#[66]⟩:ByteArray)++mkS ((aB (7,0,false)).drop 1)=mkS (aB (7,0,false)):=ByteArray.ext (by rw[ByteArray.data_append];decide +kernel);simp only[execOp,h,hc];rw[<- ha];rfl
theorem Cx(a:Act)(h:a.eval (.tmp 15)=.string (mkS ((aB (7,0,true)).drop 2)))(w:World):(execOp a.eval { dst:=some 16,op:=Op.binOp BinOp.add TS (Operand.const (Value.string ⟨#[66,76]⟩)) (Operand.tmp 15) TS,type:=TS,pos := "name.go:53",after:=#[{ on:=20,ground:=Ground.data }],guard:=none }).run PP w=.ok (.value (.string (mkS (aB (7,0,true))))) w:=by
 have hc:a.eval (.const (.string ⟨#[66,76]⟩))=.string ⟨#[66,76]⟩:=rfl;have ha:(⟨#[66,76]⟩:ByteArray)++mkS ((aB (7,0,true)).drop 2)=mkS (aB (7,0,true)):=ByteArray.ext (by rw[ByteArray.data_append];decide +kernel);simp only[execOp,h,hc];rw[<- ha];rfl
theorem Bw(a:Act)(h:a.eval (.tmp 10)=.string (mkS conds))(w:World):(execOp a.eval { dst:=some 11,op:=Op.call { callee:=Callee.value (Operand.func 259),args:=#[Operand.tmp 10,Operand.const (Value.string ⟨#[32]⟩),Operand.const (Value.string ⟨#[32,66]⟩)],argTypes:=#[TS,TS,TS] },type:=TS,pos := "name.go:60",after:=#[{ on:=14,ground:=Ground.data }],guard:=none }).run PP w=.ok (.enter 259 #[.string (mkS conds),.string ⟨#[32]⟩,.string ⟨#[32,66]⟩]) w:=by
 have hf:a.eval (.func 259)=.func (.func 259) #[] #[]:=rfl;have hc:∀v,a.eval (.const v)=v:=fun _=>rfl
 simp[execOp,resolve,Deferred.ofValue,invoke,h,hf,hc,ru]
theorem Bz(a:Act)(h:a.eval (.tmp 14)=.string (mkS conds))(w:World):(execOp a.eval { dst:=some 15,op:=Op.call { callee:=Callee.value (Operand.func 259),args:=#[Operand.tmp 14,Operand.const (Value.string ⟨#[32]⟩),Operand.const (Value.string ⟨#[32,66,76]⟩)],argTypes:=#[TS,TS,TS] },type:=TS,pos := "name.go:61",after:=#[{ on:=19,ground:=Ground.data },{ on:=15,ground:=Ground.chain }],guard:=none }).run PP w=.ok (.enter 259 #[.string (mkS conds),.string ⟨#[32]⟩,.string ⟨#[32,66,76]⟩]) w:=by
 have hf:a.eval (.func 259)=.func (.func 259) #[] #[]:=rfl;have hc:∀v,a.eval (.const v)=v:=fun _=>rfl
 simp[execOp,resolve,Deferred.ofValue,invoke,h,hf,hc,ru]
theorem AL{b:Nat->Bool}(hb:∀e∈ins,b e.1=true)(x:NK):aZ ins b x=lI x:=by
 have h1:aZ ins b x=ins.findSome? fun e=>if e.2.1=x then some e.2.2 else none:=by
  unfold aZ;revert hb;generalize ins=l;intro hb
  induction l with
  |nil=>rfl
  |cons e l ih=>
   rw[List.findSome?_cons,List.findSome?_cons,ih fun e he=>hb e (by simp[he])];simp[hb e (by simp)]
 have h2:lI x=(ins.map fun e=>(e.2.1,e.2.2)).findSome? fun e=>if e.1=x then some e.2 else none:=by
  have e:(ins.map fun e=>(e.2.1,e.2.2))=L.nameRows:=by decide +kernel
  rw[e];unfold lI;generalize L.nameRows=l
  induction l with
  |nil=>rfl
  |cons e l ih=>
   rw[List.find?_cons,List.findSome?_cons];by_cases h:e.1=x;·simp[h]
   ·have:(e.1 == x)=false:=by simpa using h
    simp only[this,h,if_false];exact ih
 rw[h1,h2,List.findSome?_map];rfl
set_option maxHeartbeats 8000000 in
theorem yQ(m:Int)(w:World)(hm:w.cell? ⟨0,0,none⟩=some (.int .i64 m)) :
  Calls PP 224 #[] w fun e w'=>∃B,e=.returned (.map (some B))/\w.heap.size<=B/\aV w' B 31 lI/\Below w.heap.size w w':=by
 go_enter Tryz.func224,Tryz.ntmps224
 go_wp2
 refine wp_region_any (by kernel_rfl) ?_;change wpAny _ _ _ _ _ _ _ (World.drew _);refine qZ (by kernel_rfl) (RInv w ⟨#[],[]⟩) ?_ ?_ _ _ _ _ (by simp) (by decide) ?_
 ·
  intro b a w' i o hI hi ho hb hdep;rcases DF (by simpa using hi) with rfl|rfl|rfl|rfl|rfl|rfl|rfl|rfl|rfl|rfl|rfl|rfl|rfl|rfl|rfl|rfl|rfl|rfl|rfl|rfl|rfl|rfl|rfl|rfl|rfl|rfl|rfl|rfl|rfl|rfl|rfl
  ·
   obtain rfl:=DN (ho.symm.trans (rfl:_=some _));refine av ho rfl ?_;unfold Oper.wp;exact hI.make hb
  ·
   obtain rfl:=DN (ho.symm.trans (rfl:_=some _));refine av ho rfl ?_;exact aQ (Bo a w') (hI.pure (fun B _=>bg (by simp[mid])) (by decide) (by decide) hb (fun h=>absurd h (by decide)) (fun _ _=>rfl) (Below.refl _ _))
  ·
   obtain rfl:=DN (ho.symm.trans (rfl:_=some _));refine av ho rfl ?_;have h0:b 0=true:=hdep ⟨0,.data⟩ (by simp) rfl;have hk:b 1=true:=hdep ⟨1,.data⟩ (by simp) rfl;exact hI.lay (e:=(2,(1,0,false),aB (1,0,false))) (by simp[ins]) hb h0 (Or.inl rfl) rfl (hI.slot (i:=1) (by simp[mid]) hk) rfl fw (fun _ h=>h)
  ·
   obtain rfl:=DN (ho.symm.trans (rfl:_=some _));refine av ho rfl ?_;exact aQ (Bp a w') (hI.pure (fun B _=>bg (by simp[mid])) (by decide) (by decide) hb (fun h=>absurd h (by decide)) (fun _ _=>rfl) (Below.refl _ _))
  ·
   obtain rfl:=DN (ho.symm.trans (rfl:_=some _));refine av ho rfl ?_;have h0:b 0=true:=hdep ⟨0,.data⟩ (by simp) rfl;have hk:b 3=true:=hdep ⟨3,.data⟩ (by simp) rfl;exact hI.lay (e:=(4,(1,0,true),aB (1,0,true))) (by simp[ins]) hb h0 (Or.inl rfl) rfl (hI.slot (i:=3) (by simp[mid]) hk) rfl fw (fun _ h=>h)
  ·
   obtain rfl:=DN (ho.symm.trans (rfl:_=some _));refine av ho rfl ?_;exact aQ (Bq a w') (hI.pure (fun B _=>bg (by simp[mid])) (by decide) (by decide) hb (fun h=>absurd h (by decide)) (fun _ _=>rfl) (Below.refl _ _))
  ·
   obtain rfl:=DN (ho.symm.trans (rfl:_=some _));refine av ho rfl ?_;have h0:b 0=true:=hdep ⟨0,.data⟩ (by simp) rfl;have hk:b 5=true:=hdep ⟨5,.data⟩ (by simp) rfl;exact hI.lay (e:=(6,(1,8,true),aB (1,8,true))) (by simp[ins]) hb h0 (Or.inl rfl) rfl (hI.slot (i:=5) (by simp[mid]) hk) rfl fw (fun _ h=>h)
  ·
   obtain rfl:=DN (ho.symm.trans (rfl:_=some _));refine av ho rfl ?_;exact aQ (Bt a w') (hI.pure (fun B _=>bg (by simp[mid])) (by decide) (by decide) hb (fun h=>absurd h (by decide)) (fun _ _=>rfl) (Below.refl _ _))
  ·
   obtain rfl:=DN (ho.symm.trans (rfl:_=some _));refine av ho rfl ?_;have h0:b 0=true:=hdep ⟨0,.data⟩ (by simp) rfl;have hk:b 7=true:=hdep ⟨7,.data⟩ (by simp) rfl;exact hI.lay (e:=(8,(3,0,false),aB (3,0,false))) (by simp[ins]) hb h0 (Or.inl rfl) rfl (hI.slot (i:=7) (by simp[mid]) hk) rfl fw (fun _ h=>h)
  ·
   obtain rfl:=DN (ho.symm.trans (rfl:_=some _));refine av ho rfl ?_;exact aQ (Bu a w') (hI.pure (fun B _=>bg (by simp[mid])) (by decide) (by decide) hb (fun h=>absurd h (by decide)) (fun _ _=>rfl) (Below.refl _ _))
  ·
   obtain rfl:=DN (ho.symm.trans (rfl:_=some _));refine av ho rfl ?_;have h0:b 0=true:=hdep ⟨0,.data⟩ (by simp) rfl;have hk:b 9=true:=hdep ⟨9,.data⟩ (by simp) rfl;exact hI.lay (e:=(10,(4,0,false),aB (4,0,false))) (by simp[ins]) hb h0 (Or.inl rfl) rfl (hI.slot (i:=9) (by simp[mid]) hk) rfl fw (fun _ h=>h)
  ·
   obtain rfl:=DN (ho.symm.trans (rfl:_=some _));refine av ho rfl ?_;exact aQ (zy a w') (hI.pure (fun B _=>bg (by simp[mid])) (by decide) (by decide) hb (fun h=>absurd h (by decide)) (fun _ _=>rfl) (Below.refl _ _))
  ·
   obtain rfl:=DN (ho.symm.trans (rfl:_=some _));refine av ho rfl ?_;have h0:b 0=true:=hdep ⟨0,.data⟩ (by simp) rfl;have hk:b 11=true:=hdep ⟨11,.data⟩ (by simp) rfl;exact hI.lay (e:=(12,(5,0,false),aB (5,0,false))) (by simp[ins]) hb h0 (Or.inl rfl) rfl (hI.slot (i:=11) (by simp[mid]) hk) rfl fw (fun _ h=>h)
  ·
   obtain rfl:=DN (ho.symm.trans (rfl:_=some _));refine av ho rfl ?_;exact aQ (zA a w') (hI.pure (fun B _=>bg (by simp[mid])) (by decide) (by decide) hb (fun h=>absurd h (by decide)) (fun _ _=>rfl) (Below.refl _ _))
  ·
   obtain rfl:=DN (ho.symm.trans (rfl:_=some _));refine av ho rfl ?_;unfold Oper.wp;show Oper.upon PP _ a _ _ (.ok (.value (a.eval (.tmp 1))) w');rw[hI.cnd];exact hI.pure (fun B _=>bg (by simp[mid])) (by decide) (by decide) hb (fun h=>absurd h (by decide)) (fun _ _=>rfl) (Below.refl _ _)
  ·
   obtain rfl:=DN (ho.symm.trans (rfl:_=some _));refine av ho rfl ?_;have hu:b 14=true:=hdep ⟨14,.data⟩ (by simp) rfl;have hs:=hI.slot (i:=14) (d:=10) (v:=.string (mkS conds)) (by simp[mid]) hu;have hm':w'.cell? ⟨0,0,none⟩=some (.int .i64 m):=by rw[hI.below.cell (World.block_lt_of_cell? _ _ hm)];exact hm
   refine nI (Bw a hs w') ?_;refine(nu (mkS conds) ⟨#[32]⟩ ⟨#[32,66]⟩ m w' (by decide) hm' (by decide) (fun h=>absurd (congrArg ByteArray.size h) (by decide)) jB.1 (Eg (Nat.add_le_add_left (Nat.mul_le_mul_left _ (by decide)) _) jB.2)).mono ?_;rintro e w'' ⟨rfl,hbw⟩;have hv:(⟨(Lib.replaceK _ _ (Lib.replaceNum (mkS conds).data.toList _ (-1)) (mkS conds).data.toList).toArray⟩:ByteArray)=mkS ((aB (7,0,false)).drop 1):=congrArg mkS Dp;exact⟨_,congrArg (fun x=>Ending.returned (Value.string x)) hv,hI.pure (fun B _=>bg (by simp[mid])) (by decide) (by decide) hb (fun h=>absurd h (by decide)) (fun B hB=>hbw.block B hB) (hbw.mono hI.below.size)⟩
  ·
   obtain rfl:=DN (ho.symm.trans (rfl:_=some _));refine av ho rfl ?_;have hu:b 15=true:=hdep ⟨15,.data⟩ (by simp) rfl;have hs:=hI.slot (i:=15) (d:=11) (v:=.string (mkS ((aB (7,0,false)).drop 1))) (by simp[mid]) hu;exact aQ (Cw a hs w') (hI.pure (fun B _=>bg (by simp[mid])) (by decide) (by decide) hb (fun h=>absurd h (by decide)) (fun _ _=>rfl) (Below.refl _ _))
  ·
   obtain rfl:=DN (ho.symm.trans (rfl:_=some _));refine av ho rfl ?_;have h0:b 0=true:=hdep ⟨0,.data⟩ (by simp) rfl;have hk:b 13=true:=hdep ⟨13,.data⟩ (by simp) rfl;have hu:b 16=true:=hdep ⟨16,.data⟩ (by simp) rfl;exact hI.lay (e:=(17,(7,0,false),aB (7,0,false))) (by simp[ins]) hb h0 (Or.inr ⟨12,rfl,hI.slot (i:=16) (by simp[mid]) hu⟩) rfl (hI.slot (i:=13) (by simp[mid]) hk) rfl fw (fun _ h=>h)
  ·
   obtain rfl:=DN (ho.symm.trans (rfl:_=some _));refine av ho rfl ?_;exact aQ (zB a w') (hI.pure (fun B _=>bg (by simp[mid])) (by decide) (by decide) hb (fun h=>absurd h (by decide)) (fun _ _=>rfl) (Below.refl _ _))
  ·
   obtain rfl:=DN (ho.symm.trans (rfl:_=some _));refine av ho rfl ?_;unfold Oper.wp;show Oper.upon PP _ a _ _ (.ok (.value (a.eval (.tmp 1))) w');rw[hI.cnd];exact hI.pure (fun B _=>bg (by simp[mid])) (by decide) (by decide) hb (fun h=>absurd h (by decide)) (fun _ _=>rfl) (Below.refl _ _)
  ·
   obtain rfl:=DN (ho.symm.trans (rfl:_=some _));refine av ho rfl ?_;have hu:b 19=true:=hdep ⟨19,.data⟩ (by simp) rfl;have hs:=hI.slot (i:=19) (d:=14) (v:=.string (mkS conds)) (by simp[mid]) hu;have hm':w'.cell? ⟨0,0,none⟩=some (.int .i64 m):=by rw[hI.below.cell (World.block_lt_of_cell? _ _ hm)];exact hm
   refine nI (Bz a hs w') ?_;refine(nu (mkS conds) ⟨#[32]⟩ ⟨#[32,66,76]⟩ m w' (by decide) hm' (by decide) (fun h=>absurd (congrArg ByteArray.size h) (by decide)) jB.1 (Eg (Nat.add_le_add_left (Nat.mul_le_mul_left _ (by decide)) _) jB.2)).mono ?_;rintro e w'' ⟨rfl,hbw⟩;have hv:(⟨(Lib.replaceK _ _ (Lib.replaceNum (mkS conds).data.toList _ (-1)) (mkS conds).data.toList).toArray⟩:ByteArray)=mkS ((aB (7,0,true)).drop 2):=congrArg mkS CY;exact⟨_,congrArg (fun x=>Ending.returned (Value.string x)) hv,hI.pure (fun B _=>bg (by simp[mid])) (by decide) (by decide) hb (fun h=>absurd h (by decide)) (fun B hB=>hbw.block B hB) (hbw.mono hI.below.size)⟩
  ·
   obtain rfl:=DN (ho.symm.trans (rfl:_=some _));refine av ho rfl ?_;have hu:b 20=true:=hdep ⟨20,.data⟩ (by simp) rfl;have hs:=hI.slot (i:=20) (d:=15) (v:=.string (mkS ((aB (7,0,true)).drop 2))) (by simp[mid]) hu;exact aQ (Cx a hs w') (hI.pure (fun B _=>bg (by simp[mid])) (by decide) (by decide) hb (fun h=>absurd h (by decide)) (fun _ _=>rfl) (Below.refl _ _))
  ·
   obtain rfl:=DN (ho.symm.trans (rfl:_=some _));refine av ho rfl ?_;have h0:b 0=true:=hdep ⟨0,.data⟩ (by simp) rfl;have hk:b 18=true:=hdep ⟨18,.data⟩ (by simp) rfl;have hu:b 21=true:=hdep ⟨21,.data⟩ (by simp) rfl;exact hI.lay (e:=(22,(7,0,true),aB (7,0,true))) (by simp[ins]) hb h0 (Or.inr ⟨16,rfl,hI.slot (i:=21) (by simp[mid]) hu⟩) rfl (hI.slot (i:=18) (by simp[mid]) hk) rfl fw (fun _ h=>h)
  ·
   obtain rfl:=DN (ho.symm.trans (rfl:_=some _));refine av ho rfl ?_;exact aQ (zC a w') (hI.pure (fun B _=>bg (by simp[mid])) (by decide) (by decide) hb (fun h=>absurd h (by decide)) (fun _ _=>rfl) (Below.refl _ _))
  ·
   obtain rfl:=DN (ho.symm.trans (rfl:_=some _));refine av ho rfl ?_;have h0:b 0=true:=hdep ⟨0,.data⟩ (by simp) rfl;have hk:b 23=true:=hdep ⟨23,.data⟩ (by simp) rfl;exact hI.lay (e:=(24,(8,0,false),aB (8,0,false))) (by simp[ins]) hb h0 (Or.inl rfl) rfl (hI.slot (i:=23) (by simp[mid]) hk) rfl fw (fun _ h=>h)
  ·
   obtain rfl:=DN (ho.symm.trans (rfl:_=some _));refine av ho rfl ?_;exact aQ (zD a w') (hI.pure (fun B _=>bg (by simp[mid])) (by decide) (by decide) hb (fun h=>absurd h (by decide)) (fun _ _=>rfl) (Below.refl _ _))
  ·
   obtain rfl:=DN (ho.symm.trans (rfl:_=some _));refine av ho rfl ?_;have h0:b 0=true:=hdep ⟨0,.data⟩ (by simp) rfl;have hk:b 25=true:=hdep ⟨25,.data⟩ (by simp) rfl;exact hI.lay (e:=(26,(9,0,false),aB (9,0,false))) (by simp[ins]) hb h0 (Or.inl rfl) rfl (hI.slot (i:=25) (by simp[mid]) hk) rfl fw (fun _ h=>h)
  ·
   obtain rfl:=DN (ho.symm.trans (rfl:_=some _));refine av ho rfl ?_;exact aQ (zF a w') (hI.pure (fun B _=>bg (by simp[mid])) (by decide) (by decide) hb (fun h=>absurd h (by decide)) (fun _ _=>rfl) (Below.refl _ _))
  ·
   obtain rfl:=DN (ho.symm.trans (rfl:_=some _));refine av ho rfl ?_;have h0:b 0=true:=hdep ⟨0,.data⟩ (by simp) rfl;have hk:b 27=true:=hdep ⟨27,.data⟩ (by simp) rfl;exact hI.lay (e:=(28,(10,0,false),aB (10,0,false))) (by simp[ins]) hb h0 (Or.inl rfl) rfl (hI.slot (i:=27) (by simp[mid]) hk) rfl fw (fun _ h=>h)
  ·
   obtain rfl:=DN (ho.symm.trans (rfl:_=some _));refine av ho rfl ?_;have h0:b 0=true:=hdep ⟨0,.data⟩ (by simp) rfl;obtain⟨B,hB,hs⟩:=hI.map;have h2:a.eval (.tmp 2)=.map (some B):=hs 0 2 _ (by simp[slots]) h0;unfold Oper.wp;show Oper.upon PP _ a _ _ (.ok (.value (a.eval (.tmp 2))) w');rw[h2];exact hI.pure (fun B' h=>by rw[h h0 B h2];simp[slots]) (by decide) (by decide) hb (fun _=>h0) (fun _ _=>rfl) (Below.refl _ _)
  ·
   obtain rfl:=DN (ho.symm.trans (rfl:_=some _));refine av ho rfl ?_;have h29:b 29=true:=hdep ⟨29,.data⟩ (by simp) rfl;have h0:b 0=true:=hI.early 29 (by decide) h29;obtain⟨B,hB,hs⟩:=hI.map;have h2:a.eval (.tmp 2)=.map (some B):=hs 0 2 _ (by simp[slots]) h0;have h20:a.eval (.tmp 20)=.map (some B):=hs 29 20 _ (by simp[slots]) h29;unfold Oper.wp;show Oper.upon PP _ a _ _ (.ok (.value (a.eval (.tmp 20))) w');rw[h20];exact hI.pure (fun B' h=>by rw[h h0 B h2];simp[slots]) (by decide) (by decide) hb (fun _=>h0) (fun _ _=>rfl) (Below.refl _ _)
 ·
  intro b a w' hI hall;obtain⟨⟨ts,rfl,hts⟩,hc,hbw,hea,B,hB,hs⟩:=hI;have h30:ts.getD 0 undef=.map (some B):=hs 30 0 (.map (some B)) (by simp[slots]) (hall 30 (by decide));obtain⟨hle,n,f,hn,hM,hf⟩:=hB (hall 0 (by decide));have hn31:n<=31:=Eg hn (by simpa using(List.countP_le_length (l:=List.range 31) (p:=b)));have hf':f=lI:=by
   funext x;rw[hf];have hb':∀e∈ins,b e.1=true:=fun e he=>hall e.1 (by have:=(by decide:∀e∈ins,e.1<31) e he;simpa using this)
   exact AL hb' x
  subst hf';obtain⟨ts⟩:=ts
  match ts,hts with
  |[t0,t1,t2,t3,t4,t5,t6,t7,t8,t9,t10,t11,t12,t13,t14,t15,t16,t17,t18,t19,t20],_=>
   have h30':t0=.map (some B):=h30;subst h30';have hM':aV w' B 31 lI:=by
    obtain⟨D,h1,h2⟩:=hM;exact⟨D,h1.mono hn31,h2⟩
   go_wp2
   go_ret
   exact⟨B,rfl,hle,hM',hbw⟩
 ·
  refine⟨⟨_,rfl,rfl⟩,rfl,(Below.refl _ _).drew,fun i hi h=>?_,0,fun h=>?_,fun i d v _ h=>?_⟩;·rw[gD] at h;cases h
  ·rw[gD] at h;cases h
  ·rw[gD] at h;cases h
end
end Rv
namespace Rv
open Go Go.RowKit Go.Proofs Go.Maps
noncomputable section
set_option maxRecDepth 1000000
theorem xC:∀e∈L.nameRows,e.2.all (fun c=>c.toNat<128)=true/\(Lib.fields e.2).length<=16/\e.2.length<100:=by decide +kernel
def rowOk(e:NK×Str):Bool:=(List.range (Lib.fields e.2).length).all fun i=>L.nameTbl.any fun t=>t == ((e.1,i),(e.1.1,e.1.2.1+i,e.1.2.2),Lib.trimSuffix ((Lib.fields e.2).getD i []) [46])
theorem rows_ok:∀e∈L.nameRows,rowOk e=true:=by decide +kernel
theorem AO:∀e∈L.nameRows,∀t∈L.nameTbl,t.1.1=e.1->t.1.2<(Lib.fields e.2).length:=by decide +kernel
theorem uY:∀t∈L.nameTbl,(∃e∈L.nameRows,e.1=t.1.1)/\t.2.2.length<=10:=by decide +kernel
theorem AZ:L.nameTbl.Pairwise fun a b=>a.2.1≠b.2.1:=by decide +kernel
theorem Cr:L.nameTbl.Pairwise fun a b=>a.1≠b.1:=by decide +kernel
theorem xD:∀e∈L.nameRows,0<=e.1.1/\e.1.1<=10/\0<=e.1.2.1/\e.1.2.1<=8:=by decide +kernel
theorem AJ{x:NK}{s:Str}(h:lI x=some s):(x,s)∈L.nameRows:=by
 unfold lI at h;obtain⟨e,he,hs⟩:=Option.map_eq_some_iff.1 h;have h1:=List.mem_of_find?_eq_some he;have h2:=List.find?_some he;have h3:e.1=x:=by simpa using h2
 rw[<- h3,<- hs];exact h1
def uX(x:NK):Option Str:=aZ L.nameTbl (fun _=>true) x
theorem Aw{w:World}{B n:Nat}{D:DataW Unit}(h:w.ownsMap PP TW (plainElem PP TS) B n D):Maps.size D<=n:=by
 obtain⟨es,c,_,_,hs,rfl⟩:=h;simpa[Maps.size,length_sorted] using hs
structure KB where
 k:NK
theorem Dh:∀key l,keyOf PP TW key=some l->∃x:KB,key=kv x.k:=fun key l h=>by obtain⟨k,e,_⟩:=rJ h;exact⟨⟨k⟩,e⟩
theorem ut{x:NK}{l:Lit}(h:keyOf PP TW (kv x)=some l):okK x/\l=kl x:=by
 obtain⟨k,e,hok,hl⟩:=rJ h;have:x=k:=by
  obtain⟨a1,a2,a3⟩:=x;obtain⟨b1,b2,b3⟩:=k;simp[kv] at e;obtain⟨rfl,rfl,rfl⟩:=e;rfl
 subst this;exact⟨hok,hl⟩
theorem Di:∀v y,plainElem (H:=Unit) PP TS v=some y->∃s:Str,v=.string (mkS s):=fun v y h=>by obtain⟨s,e,_⟩:=oH h;exact⟨s,e⟩
def oU(left:Lit->Bool)(e:NK×Nat):Bool:=!left (kl e.1)
def pIn(left:Lit->Bool)(cur:NK)(i:Nat)(e:NK×Nat):Bool:=if e.1=cur then decide (e.2<i) else !left (kl e.1)
theorem CO(W:World)(b o:Nat)(n:Int)(h:W.cell? ⟨b,o,none⟩=some (.int .i64 n)):(Instr.loadAt 3 (.pointer (some ⟨b,o,none⟩))).run PP W=.ok (.int .i64 n) W:=by go_simp
theorem DD(W:World)(b o:Nat)(n:Bool)(h:W.cell? ⟨b,o,none⟩=some (.bool n)):(Instr.loadAt 4 (.pointer (some ⟨b,o,none⟩))).run PP W=.ok (.bool n) W:=by go_simp
theorem Dw(W:World)(b:Nat):(Instr.fieldAt TW (.pointer (some ⟨b,0,none⟩)) 0).run PP W=.ok (.pointer (some ⟨b,0,none⟩)) W:=by go_simp
theorem Dx(W:World)(b:Nat):(Instr.fieldAt TW (.pointer (some ⟨b,0,none⟩)) 1).run PP W=.ok (.pointer (some ⟨b,1,none⟩)) W:=by go_simp
theorem Dy(W:World)(b:Nat):(Instr.fieldAt TW (.pointer (some ⟨b,0,none⟩)) 2).run PP W=.ok (.pointer (some ⟨b,2,none⟩)) W:=by go_simp
theorem Du(W:World)(k:NK):(Instr.build TW #[(0,.int .i64 k.1),(1,.int .i64 k.2.1),(2,.bool k.2.2)]).run PP W=.ok (kv k) W:=by kernel_rfl
theorem Dt(W:World)(x y:Int)(c d:Operand)(h:-9223372036854775808<=x+y/\x+y<=9223372036854775807):(do eqGuard .add 3 c d (.int .i64 x) (.int .i64 y);binOp .add 3 (.int .i64 x) (.int .i64 y):Sem Value).run PP W=.ok (.int .i64 (x+y)) W:=by
 go_simp
 rw[IntKind.wrap_i64];omega
structure kE (w1:World) (t0:Array Value) (sl:List (Nat×Nat×Value)) (Fin:World->Prop) (b:Nat->Bool) (a:Act) (w':World):Prop where
 act:∃ts,a=⟨ts,[]⟩/\ts.size=36
 same:∀t:Nat,t<22\/33<t->a.eval (.tmp t)=t0.getD t undef
 slot:∀j d v,(j,d,v)∈sl->b j=true->a.eval (.tmp d)=v
 cl:b 12=true->∀j,j<12->b j=true
 wld:(b 12=true->Fin w')/\(b 12=false->w'=w1)
structure zm (sl:List (Nat×Nat×Value)):Prop where
 one:sl.map (fun x=>x.1)=[0,1,2,3,4,5,6,7,8,9,10,11]
 two:sl.map (fun x=>x.2.1)=[22,23,24,25,26,27,28,29,30,31,32,33]
theorem kE.pure{w1 w':World}{t0:Array Value}{a:Act}{sl:List (Nat×Nat×Value)}{Fin:World->Prop}{b:Nat->Bool}(h:kE w1 t0 sl Fin b a w')(ok:zm sl){i d:Nat}{v:Value}(hm:(i,d,v)∈sl)(hi:i<12)(hb:b i=false) :
  kE w1 t0 sl Fin (fun k=>b k||decide (k=i)) (a.put (some d) v) w':=by
 obtain⟨⟨ts,rfl,hts⟩,hsm,hs,hc,hw⟩:=h;have hd:22<=d/\d<=33:=by
  have h1:d∈sl.map (fun x=>x.2.1):=Eb.2 ⟨_,hm,rfl⟩;rw[ok.two] at h1;exact(by decide:∀d∈[22,23,24,25,26,27,28,29,30,31,32,33],22<=d/\d<=33) d h1
 have hlt:d<(⟨ts,[]⟩:Act).tmps.size:=by show d<ts.size;omega
 have h12:b 12=false:=by
  cases e:b 12;·rfl
  ·rw[hc e i hi] at hb;cases hb
 have h12':(b 12||decide (12=i))=false:=by
  have:¬12=i:=by omega
  simp[h12,this]
 refine⟨⟨ts.setIfInBounds d v,rfl,by simpa using hts⟩,fun t ht=>?_,fun j e u hj hbj=>?_,fun e=>?_,fun e=>?_,fun _=>hw.2 h12⟩
 ·have hne:t≠d:=by omega
  rw[eval_put hlt,if_neg hne];exact hsm t ht
 ·rw[eval_put hlt];by_cases hed:e=d
  ·have:=jV (f:=fun x:Nat×Nat×Value=>x.2.1) (by rw[ok.two];decide) _ hj _ hm hed;rw[if_pos hed];simp only[DT] at this;exact this.2.2.symm
  ·rw[if_neg hed];refine hs j e u hj ?_;simp only[Bool.or_eq_true,D6] at hbj;rcases hbj with h|h
   ·exact h
   ·subst h;have:=jV (f:=fun x:Nat×Nat×Value=>x.1) (by rw[ok.one];decide) _ hj _ hm rfl;simp only[DT] at this;exact absurd this.2.1 hed
 ·rw[h12'] at e;cases e
 ·rw[h12'] at e;cases e
theorem nJ{s:Sem Value}{v:Value}{W:World}(h:s.run PP W=.ok v W):(do pure (Next.value (<- s)):Sem Next).run PP W=.ok (.value v) W:=by
 simp[h,Result.andThen]
theorem kE.w12{w1 w':World}{t0:Array Value}{a:Act}{sl:List (Nat×Nat×Value)}{Fin:World->Prop}{b:Nat->Bool}(h:kE w1 t0 sl Fin b a w'){i:Nat}(hi:i<12)(hb:b i=false):w'=w1:=by
 refine h.wld.2 ?_;cases e:b 12;·rfl
 ·rw[h.cl e i hi] at hb;cases hb
theorem kE.lay{w1 w':World}{t0:Array Value}{a:Act}{sl:List (Nat×Nat×Value)}{B n:Nat}{f:NK->Option Str}{b:Nat->Bool}{k:NK}{s:Str}{K:Act->World->Prop}{Q:Exit->Act->World->Prop}{o:Oper}
  (h:kE w1 t0 sl (fun w'=>aV w' B (n+1) (fun z=>if z=k then some s else f z)/\w1.grownBy w' (some B)) b a w') (hb:b 12=false) (hall:∀j,j<12->b j=true) (hM:aV w1 B n f) (hn:n<1000000) (hk:okK k) (hs:s.length<=1000000)
  (hop:o.op=.mapUpdate TM (.tmp 22) (.tmp 31) (.tmp 33)) (hd:o.dst=none) (h22:a.eval (.tmp 22)=.map (some B)) (h31:a.eval (.tmp 31)=kv k) (h33:a.eval (.tmp 33)=.string (mkS s)) (ok:zm sl)
  (hK:∀w'',kE w1 t0 sl (fun w'=>aV w' B (n+1) (fun z=>if z=k then some s else f z)/\w1.grownBy w' (some B)) (fun k=>b k||decide (k=12)) a w''->K a w''):o.wp PP a w' K Q:=by
 obtain⟨ha,hsm,hsl,hc,hw⟩:=h;obtain rfl:=hw.2 hb;obtain⟨w'',hrun,hM',hg⟩:=hM.put hn k s hk hs;have hput:a.put o.dst undef=a:=by rw[hd];rfl
 have hfin:=hK w'' ⟨ha,hsm,fun j d v hj hbj=>by
  refine hsl j d v hj ?_;simp only[Bool.or_eq_true,D6] at hbj;rcases hbj with h|h;·exact h
  ·exfalso;have h2:j∈sl.map (fun x=>x.1):=Eb.2 ⟨_,hj,rfl⟩;rw[ok.one,h] at h2;exact absurd h2 (by decide),fun _ j hj=>by simp[hall j hj],fun _=>⟨hM',hg⟩,fun e=>by simp at e⟩
 unfold Oper.wp;simp[execOp,hop,h22,h31,h33,hrun,Result.andThen];rw[Oper.upon_skip,hput];exact hfin
theorem xY:∀args w,(callFunc 226 args).run PP w=.ok (.enter 226 args) w:=enters_of Tryz.func226 (by kernel_rfl) rfl
theorem zJ(a:Act){s:Str}(h:a.eval (.tmp 32)=.string (mkS s))(w:World):(execOp a.eval { dst:=some 33,op:=Op.call { callee:=Callee.value (Operand.func 226),args:=#[Operand.tmp 32,Operand.const (Value.string ⟨#[46]⟩)],argTypes:=#[TS,TS] },type:=TS,pos := "name.go:73",after:=#[{ on:=10,ground:=Ground.data }],guard:=none }).run PP w=.ok (.enter 226 #[.string (mkS s),.string ⟨#[46]⟩]) w:=by
 have hf:a.eval (.func 226)=.func (.func 226) #[] #[]:=rfl;have hc:∀v,a.eval (.const v)=v:=fun _=>rfl
 simp[execOp,resolve,Deferred.ofValue,invoke,h,hf,hc,xY]
theorem Df(a:Act){k:NK}(h1:a.eval (.tmp 24)=.int .i64 k.1)(h2:a.eval (.tmp 28)=.int .i64 k.2.1)(h3:a.eval (.tmp 30)=.bool k.2.2)(w:World):(execOp a.eval { dst:=some 31,op:=Op.build TW #[(0,Operand.tmp 24),(1,Operand.tmp 28),(2,Operand.tmp 30)],type:=TW,pos := "name.go:73",after:=#[{ on:=2,ground:=Ground.data },{ on:=6,ground:=Ground.data },{ on:=8,ground:=Ground.data }],guard:=none }).run PP w=.ok (.value (kv k)) w:=by
 simp only[execOp,List.map_toArray,Ea,List.map_nil];rw[h1,h2,h3];exact nJ (Du w k)
theorem Cj:∀e∈L.nameRows,∀s∈Lib.fields e.2,s.length<=20:=by decide +kernel
theorem CR{i:Nat}(h:i<13):i=0\/i=1\/i=2\/i=3\/i=4\/i=5\/i=6\/i=7\/i=8\/i=9\/i=10\/i=11\/i=12:=by omega
theorem cell_grown{w w':World}{row:Option Nat}(hg:w.grownBy w' row){p:Addr}{v:Value}(h:w.cell? p=some v)(hne:some p.block≠row):w'.cell? p=some v:=by
 have hlt:=World.block_lt_of_cell? _ _ h;rw[World.cell?_of_block (w:=w) (hg.block p.block hlt hne)];exact h
theorem wC:∀e∈L.nameRows,lI e.1=some e.2:=by decide +kernel
structure Cl (x:NK) (fs:List Str) (S:Nat) (w:World):Prop where
 c0:w.cell? ⟨S,0,none⟩=some (.int .i64 x.1)
 c1:w.cell? ⟨S,1,none⟩=some (.int .i64 x.2.1)
 c2:w.cell? ⟨S,2,none⟩=some (.bool x.2.2)
 fs:∀(j:Nat) s,fs[j]?=some s->w.cell? ⟨S+1,j,none⟩=some (.string (mkS s))
theorem Cl.kept{x:NK}{fs:List Str}{S B:Nat}{w w':World}(h:Cl x fs S w)(hg:w.grownBy w' (some B))(hB:B<S):Cl x fs S w':=
 ⟨cell_grown hg h.c0 (by simp;omega),cell_grown hg h.c1 (by simp;omega),cell_grown hg h.c2 (by simp;omega),fun j s hj=>cell_grown hg (h.fs j s hj) (by simp;omega)⟩
theorem Cl.made(x:NK)(fs:List Str){w:World}{S:Nat}(hS:w.heap.size=S):Cl x fs S ((w.alloc (.cells #[.int .i64 x.1,.int .i64 x.2.1,.bool x.2.2] TW)).alloc (.cells (fs.map fun l=>Value.string ⟨l.toArray⟩).toArray TS)):=by
 have h1:(w.alloc (.cells #[.int .i64 x.1,.int .i64 x.2.1,.bool x.2.2] TW)).heap.size=S+1:=by simp[hS]
 have hA:=(MapKept.heap_alloc w (.cells #[.int .i64 x.1,.int .i64 x.2.1,.bool x.2.2] TW)).1;have hB:=(MapKept.heap_alloc (w.alloc (.cells #[.int .i64 x.1,.int .i64 x.2.1,.bool x.2.2] TW)) (.cells (fs.map fun l=>Value.string ⟨l.toArray⟩).toArray TS))
 have hA':=hB.2 S (by rw[h1];omega);rw[<- hS] at hA';rw[hA] at hA';rw[hS] at hA';have hB':=hB.1;rw[h1] at hB';refine⟨?_,?_,?_,fun j s hj=>?_⟩;·rw[Lib.cell_of_heap hA'];rfl
 ·rw[Lib.cell_of_heap hA'];rfl
 ·rw[Lib.cell_of_heap hA'];rfl
 ·rw[Lib.cell_of_heap hB'];simp[hj,mkS]
set_option maxHeartbeats 8000000 in
theorem xL(m:Int)(w:World)(hm:w.cell? ⟨0,0,none⟩=some (.int .i64 m)) (htab:Lib.TabIs PP w "strings.asciiSpace" .u8 Lib.asciiSpaceTab) :
  Calls PP 179 #[] w fun e w'=>∃B,e=.returned (.map (some B))/\w.heap.size<=B/\aV w' B 100000 uX/\Below w.heap.size w w':=by
 have hmm:=@run_makeMap PP;have hm1:(w.alloc (.map #[] 0)).cell? ⟨0,0,none⟩=some (.int .i64 m):=by rw[((Below.refl w.heap.size w).alloc (DU _) _).cell (World.block_lt_of_cell? _ _ hm)];exact hm
 go_enter Tryz.func179,Tryz.ntmps179
 go_wp2_with (first
  |(go_at_call 224;refine(yQ m _ hm1).mono ?_;rintro e wa ⟨Br,rfl,hBr,hMr,hba⟩;obtain⟨D1,ho1,hD1,hD2⟩:=hMr)
  |(at_range;refine wpList_range_own _ rfl _ TM rfl TW TS jZ qW _ Br 31 _ rfl ho1 ?_;intro w0 hrg0 hg0 hs0)
  |go_in)
 go_frame
 have hsz1:(w.alloc (.map #[] 0)).heap.size=w.heap.size+1:=by simp
 rw[hsz1] at hBr hba;have hsa:=hba.size;rw[hsz1] at hsa;obtain⟨R,hR⟩:∃R,R=wa.heap.size:=⟨_,rfl⟩
 rw[<- hR] at hrg0 hs0 hsa⊢;have hbw0:Below w.heap.size w w0:=(((Below.refl _ _).alloc (DU _) _).trans (hba.mono (Nat.le_succ _))).grown hg0 (by rw[<- hR];omega) (fun j hj=>by cases hj);have hM0:aV w0 w.heap.size 0 (fun _=>none):=((aV.made w).same (hba.block _ (Nat.lt_succ_self _))).kept hg0 (by simp);have hsd:Maps.size D1<=31:=Aw ho1;clear hm1 ho1 hba hR hsz1
 go_loopw [2] (fun _ wr=>∃left cnt n f,wr.ranges PP TW (plainElem PP TS) Br R 31 D1 left cnt/\(∀l,left l=true->has D1 l=true)/\aV wr w.heap.size n f/\n+100*cnt<=3100/\(∀x,f x=aZ L.nameTbl (oU left) x)/\Below w.heap.size w wr)
  (fun _ wr=>wr.rangeLeft Br R)
 case atStart=>
  refine⟨_,_,0,_,hrg0,fun _ h=>h,hM0,by omega,fun x=>?_,hbw0⟩;unfold aZ;refine(List.findSome?_eq_none_iff.2 fun t ht=>?_).symm;obtain⟨⟨e,he,hek⟩,_⟩:=uY t ht;have h1:=(hD2 e.1 e.2 (wC e he)).2.1;rw[hek] at h1;simp[oU,h1]
 case round=>
  obtain⟨left,cnt,n,f,hrg,hld,hM,hn,hf,hbw⟩:=hrel
  go_wp2_with (first
   |(at_next;refine wpList_next_ranges _ rfl _ rfl TW jZ (plainElem PP TS) (fun x:KB=>kv x.k) (fun s:Str=>Value.string (mkS s)) Dh Di Br R 31 D1 left cnt rfl hrg ?_ ?_)
   |go_in)
  ·
   intro hc0 hl0
   go_wp2
   go_ret
   refine⟨_,rfl,DU _,?_,hbw⟩;have:f=uX:=by
    funext x;rw[hf];refine iq (fun e _=>?_) x;simp[oU,hl0]
   subst this;obtain⟨D,h1,h2⟩:=hM;exact⟨D,h1.mono (by omega),h2⟩
  ·
   intro⟨x⟩ c l ya yb w1 cnt1 hkx hlx hcv hat hrg1 hlt hg1 hs1 hen;obtain⟨hok,rfl⟩:=ut hkx;obtain⟨k',hok',hkl',hrf⟩:=hD1 _ (hld _ hlx);obtain rfl:=pW hok hok' hkl';obtain⟨r,hr⟩:=Option.isSome_iff_exists.1 hrf;obtain rfl:c=r:=by
    obtain⟨s,e1,e2⟩:=oH hcv;have e3:=(hD2 x r hr).2.2 (.lit (.bool false));rw[hat] at e3;have e4:s=r:=by
     have:=e2.symm.trans e3;simpa using this
    have e5:c=s:=by
     have:=congrArg (fun v=>match v with|Value.string b=>b.data.toList|_=>[]) e1;simpa[mkS] using this
    rw[e5,e4]
   simp only at hok hr hen hkx hlx;have hmem:=AJ hr;obtain⟨hasc,hfl,hcl⟩:=xC _ hmem;simp only at hasc hfl hcl;have hbw1:Below w.heap.size w w1:=hbw.grown hg1 hbw.size (fun j hj=>by cases hj;omega);have hen':(Instr.entry (.pointer (some ⟨R,0,none⟩))).run PP w1=.ok (.tuple #[.agg #[.int .i64 x.1,.int .i64 x.2.1,.bool x.2.2],.string (mkS c)]) w1:=hen;clear hen hcv hat hkx;have hbw2:=hbw1.alloc hbw1.size (.cells #[.int .i64 x.1,.int .i64 x.2.1,.bool x.2.2] TW)
   have htab1:Lib.TabIs PP (w1.alloc (.cells #[.int .i64 x.1,.int .i64 x.2.1,.bool x.2.2] TW)) "strings.asciiSpace" .u8 Lib.asciiSpaceTab:=qI htab htab fun g hg=>hbw2.block g hg
   have hF:=Tryz.strings_Fields_laid (mkS c) _ (by show c.length<_;omega) (ascii_of_all hasc) htab1;obtain⟨fs,hfs⟩:∃fs,Lib.fields c=fs:=⟨_,rfl⟩
   obtain⟨S,hS⟩:∃S,w1.heap.size=S:=⟨_,rfl⟩
   have hRS:R<S:=hS ▸ hrg1.lt;have hBS:Br<S:=hS ▸ hrg1.owns.lt;clear hs1;have hF':Calls PP 225 #[.string (mkS c)] (w1.alloc (.cells #[.int .i64 x.1,.int .i64 x.2.1,.bool x.2.2] TW)) fun e w'=>e=.returned (.slice (some ⟨S+1,0,none⟩) fs.length fs.length) /\
     w1.grownBy w' none/\S+2<=w'.heap.size/\Cl x fs S w':=by
    have e:(w1.alloc (.cells #[.int .i64 x.1,.int .i64 x.2.1,.bool x.2.2] TW)).heap.size=S+1:=by simp[hS]
    rw[show Lib.fields (mkS c).data.toList=fs from hfs,e] at hF;refine hF.mono ?_;rintro e' w' ⟨rfl,rfl⟩;exact⟨rfl,(World.grownBy_alloc _ _ none).andThen (World.grownBy_alloc _ _ none) (by simp),by simp[hS],Cl.made x fs hS⟩
   clear hF htab1
   go_wp2_with (first
    |(go_at_call 225;refine hF'.mono ?_;rintro e w3 ⟨rfl,hg3,hs3,hcl3⟩)
    |go_in)
   have hrg3:=hrg1.kept hg3 (by simp) (by simp);have hM3:=(hM.kept hg1 (fun e=>by have:=DN e;omega)).kept hg3 (by simp);have hbw3:=hbw1.grown hg3 hbw1.size (fun j hj=>by cases hj);rw[hfs] at hfl;have hpIn:∀z,aZ L.nameTbl (oU left) z=aZ L.nameTbl (pIn (fun z=>left z&&!z.sameKey (kl x)) x 0) z:=fun z=>iq (fun t ht=>by
    obtain⟨⟨e,he,hek⟩,_⟩:=uY t ht;unfold oU pIn;by_cases h:t.1.1=x;·simp[h,hlx]
    ·have hne:kl t.1.1≠kl x:=fun e'=>h (pW (hek ▸ (hD2 e.1 e.2 (wC e he)).1) hok e')
     simp[h,sameKey_ne hne]) z
   have hpEnd:∀z,aZ L.nameTbl (pIn (fun z=>left z&&!z.sameKey (kl x)) x fs.length) z=aZ L.nameTbl (oU (fun z=>left z&&!z.sameKey (kl x))) z:=fun z=>iq (fun t ht=>by
    unfold oU pIn;by_cases h:t.1.1=x;·have:=AO _ hmem t ht h;simp only at this;rw[hfs] at this;simp[h,this,WideAt.sameKey_self (uu x)]
    ·simp[h]) z
   obtain⟨left1,hl1⟩:∃left1,(fun z:Lit=>left z&&!z.sameKey (kl x))=left1:=⟨_,rfl⟩
   rw[hl1] at hrg3 hpIn hpEnd;have hld1:∀l,left1 l=true->has D1 l=true:=fun l h=>by
    rw[<- hl1] at h;simp only[DW] at h;exact hld l h.1
   clear hrg1 hg3 hg1 hF' hen' hbw2 hbw1 hS hl1
   go_loopw [17] (fun vi wx=>∃(i n':Nat) (f':NK->Option Str),vi=.int .i64 i/\i<=fs.length/\wx.ranges PP TW (plainElem PP TS) Br R 31 D1 left1 cnt1/\aV wx w.heap.size n' f'/\n'<=n+i/\(∀z,f' z=aZ L.nameTbl (pIn left1 x i) z)/\Below w.heap.size w wx/\Cl x fs S wx)
    (fun vi wx=>fs.length-(intOf vi).toNat)
   case atStart=>exact⟨0,n,f,rfl,Nat.zero_le _,hrg3,hM3,by omega,fun z=>by rw[hf,hpIn],hbw3,hcl3⟩
   case round=>
    obtain⟨i,n',f',rfl,hi,hrgx,hMx,hnx,hfx,hbx,hclx⟩:=hrel;by_cases hlt':i<fs.length
    ·have hci:(i:Int)<(fs.length:Int):=by omega
     obtain⟨s,hsi⟩:∃s,fs[i]?=some s:=⟨fs[i],by simp[hlt']⟩
     have hcf:=hclx.fs i s hsi;have hrow:=rows_ok _ hmem;have hent:((x,i),(x.1,x.2.1+i,x.2.2),Lib.trimSuffix s [46])∈L.nameTbl:=by
      unfold rowOk at hrow;rw[El] at hrow;have:=hrow i (by simp only[hfs];simpa using hlt');obtain⟨t,ht,e⟩:=List.any_eq_true.1 this;have e':=eq_of_beq e;simp only[hfs] at e';have hg:fs.getD i []=s:=by simp[List.getD,hsi]
      rw[hg] at e';rw[<- e'];exact ht
     have hsmall:=xD _ hmem;simp only at hsmall;have hkn:okK (x.1,x.2.1+i,x.2.2):=⟨hok.1,by show(Lit.int .i64 (x.2.1+i)).wf=true;exact WalkArith.wf_i64 (by omega)⟩
     have hvl:=(uY _ hent).2;simp only at hvl;have hsl:s.length<=9223372036854775807:=Eg (Cj _ hmem s (hfs ▸ List.mem_of_getElem? hsi)) (by decide)
     go_wp2
     refine wp_region_any (by kernel_rfl) ?_;change wpAny _ _ _ _ _ _ _ (World.drew _);obtain⟨sl,hsl0⟩:∃sl:List (Nat×Nat×Value),sl=[(0,22,.map (some w.heap.size)),(1,23,.pointer (some ⟨S,0,none⟩)),(2,24,.int .i64 x.1),(3,25,.pointer (some ⟨S,1,none⟩)),(4,26,.int .i64 x.2.1),(5,27,.int .i64 i),(6,28,.int .i64 (x.2.1+i)),
      (7,29,.pointer (some ⟨S,2,none⟩)),(8,30,.bool x.2.2),(9,31,kv (x.1,x.2.1+i,x.2.2)),(10,32,.string (mkS s)),(11,33,.string (mkS (Lib.trimSuffix s [46])))]:=⟨_,rfl⟩
     have ok:zm sl:=by rw[hsl0];exact⟨rfl,rfl⟩
     have c0:wr.drew.cell? ⟨S,0,none⟩=some (.int .i64 x.1):=hclx.c0;have c1:wr.drew.cell? ⟨S,1,none⟩=some (.int .i64 x.2.1):=hclx.c1;have c2:wr.drew.cell? ⟨S,2,none⟩=some (.bool x.2.2):=hclx.c2;refine qZ (by kernel_rfl) (kE wr.drew _ sl (fun w'=>aV w' w.heap.size (n'+1) (fun z=>if z=(x.1,x.2.1+i,x.2.2) then some (Lib.trimSuffix s [46]) else f' z)/\wr.drew.grownBy w' (some w.heap.size))) ?_ ?_ _ _ _ _ (by simp) (by decide)
      ⟨⟨_,rfl,rfl⟩,fun t _=>rfl,fun j d v _ h=>(by rw[gD] at h;cases h),fun h=>(by rw[gD] at h;cases h),fun h=>(by rw[gD] at h;cases h),fun _=>rfl⟩
     ·
      intro b a w' j o hI hj ho hb hdep;have e1:a.eval (.tmp 1)=.map (some w.heap.size):=hI.same 1 (Or.inl (by decide));have e2:a.eval (.tmp 2)=.pointer (some ⟨S,0,none⟩):=hI.same 2 (Or.inl (by decide));have e4:a.eval (.tmp 4)=.int .i64 i:=hI.same 4 (Or.inl (by decide));have e5:a.eval (.tmp 5)=.string (mkS s):=hI.same 5 (Or.inl (by decide));rcases CR (by simpa using hj) with rfl|rfl|rfl|rfl|rfl|rfl|rfl|rfl|rfl|rfl|rfl|rfl|rfl
      ·
       obtain rfl:=DN (ho.symm.trans (rfl:_=some _));refine av ho rfl ?_;obtain rfl:=hI.w12 (by decide) hb;refine aQ (v:=.map (some w.heap.size)) (w2:=wr.drew) ?_ (hI.pure ok (by simp[hsl0]) (by decide) hb);show Result.ok (Next.value (a.eval (.tmp 1))) _=_;rw[e1]
      ·
       obtain rfl:=DN (ho.symm.trans (rfl:_=some _));refine av ho rfl ?_;obtain rfl:=hI.w12 (by decide) hb;exact aQ (nJ (s:=Instr.fieldAt TW (a.eval (.tmp 2)) 0) (by rw[e2];exact Dw _ _)) (hI.pure ok (by simp[hsl0]) (by decide) hb)
      ·
       obtain rfl:=DN (ho.symm.trans (rfl:_=some _));refine av ho rfl ?_;have hd1:b 1=true:=hdep ⟨1,.data⟩ (by simp) rfl;have h23:a.eval (.tmp 23)=.pointer (some ⟨S,0,none⟩):=hI.slot 1 23 _ (by simp[hsl0]) hd1;obtain rfl:=hI.w12 (by decide) hb;exact aQ (nJ (s:=Instr.loadAt 3 (a.eval (.tmp 23))) (by rw[h23];exact CO _ _ _ _ c0)) (hI.pure ok (by simp[hsl0]) (by decide) hb)
      ·
       obtain rfl:=DN (ho.symm.trans (rfl:_=some _));refine av ho rfl ?_;obtain rfl:=hI.w12 (by decide) hb;exact aQ (nJ (s:=Instr.fieldAt TW (a.eval (.tmp 2)) 1) (by rw[e2];exact Dx _ _)) (hI.pure ok (by simp[hsl0]) (by decide) hb)
      ·
       obtain rfl:=DN (ho.symm.trans (rfl:_=some _));refine av ho rfl ?_;have hd3:b 3=true:=hdep ⟨3,.data⟩ (by simp) rfl;have h25:a.eval (.tmp 25)=.pointer (some ⟨S,1,none⟩):=hI.slot 3 25 _ (by simp[hsl0]) hd3;obtain rfl:=hI.w12 (by decide) hb;exact aQ (nJ (s:=Instr.loadAt 3 (a.eval (.tmp 25))) (by rw[h25];exact CO _ _ _ _ c1)) (hI.pure ok (by simp[hsl0]) (by decide) hb)
      ·
       obtain rfl:=DN (ho.symm.trans (rfl:_=some _));refine av ho rfl ?_;obtain rfl:=hI.w12 (by decide) hb;refine aQ (v:=.int .i64 i) (w2:=wr.drew) ?_ (hI.pure ok (by simp[hsl0]) (by decide) hb);show Result.ok (Next.value (a.eval (.tmp 4))) _=_;rw[e4]
      ·
       obtain rfl:=DN (ho.symm.trans (rfl:_=some _));refine av ho rfl ?_;have hd4:b 4=true:=hdep ⟨4,.data⟩ (by simp) rfl;have hd5:b 5=true:=hdep ⟨5,.data⟩ (by simp) rfl;have h26:a.eval (.tmp 26)=.int .i64 x.2.1:=hI.slot 4 26 _ (by simp[hsl0]) hd4;have h27:a.eval (.tmp 27)=.int .i64 i:=hI.slot 5 27 _ (by simp[hsl0]) hd5;obtain rfl:=hI.w12 (by decide) hb;exact aQ (nJ (s:=do eqGuard .add 3 (.tmp 26) (.tmp 27) (a.eval (.tmp 26)) (a.eval (.tmp 27));binOp .add 3 (a.eval (.tmp 26)) (a.eval (.tmp 27))) (by rw[h26,h27];exact Dt _ _ _ _ _ (by omega))) (hI.pure ok (by simp[hsl0]) (by decide) hb)
      ·
       obtain rfl:=DN (ho.symm.trans (rfl:_=some _));refine av ho rfl ?_;obtain rfl:=hI.w12 (by decide) hb;exact aQ (nJ (s:=Instr.fieldAt TW (a.eval (.tmp 2)) 2) (by rw[e2];exact Dy _ _)) (hI.pure ok (by simp[hsl0]) (by decide) hb)
      ·
       obtain rfl:=DN (ho.symm.trans (rfl:_=some _));refine av ho rfl ?_;have hd7:b 7=true:=hdep ⟨7,.data⟩ (by simp) rfl;have h29:a.eval (.tmp 29)=.pointer (some ⟨S,2,none⟩):=hI.slot 7 29 _ (by simp[hsl0]) hd7;obtain rfl:=hI.w12 (by decide) hb;exact aQ (nJ (s:=Instr.loadAt 4 (a.eval (.tmp 29))) (by rw[h29];exact DD _ _ _ _ c2)) (hI.pure ok (by simp[hsl0]) (by decide) hb)
      ·
       obtain rfl:=DN (ho.symm.trans (rfl:_=some _));refine av ho rfl ?_;have hd2:b 2=true:=hdep ⟨2,.data⟩ (by simp) rfl;have hd6:b 6=true:=hdep ⟨6,.data⟩ (by simp) rfl;have hd8:b 8=true:=hdep ⟨8,.data⟩ (by simp) rfl;have h24:a.eval (.tmp 24)=.int .i64 x.1:=hI.slot 2 24 _ (by simp[hsl0]) hd2;have h28:a.eval (.tmp 28)=.int .i64 (x.2.1+i):=hI.slot 6 28 _ (by simp[hsl0]) hd6;have h30:a.eval (.tmp 30)=.bool x.2.2:=hI.slot 8 30 _ (by simp[hsl0]) hd8;obtain rfl:=hI.w12 (by decide) hb;exact aQ (Df a (k:=(x.1,x.2.1+i,x.2.2)) h24 h28 h30 _) (hI.pure ok (by simp[hsl0]) (by decide) hb)
      ·
       obtain rfl:=DN (ho.symm.trans (rfl:_=some _));refine av ho rfl ?_;obtain rfl:=hI.w12 (by decide) hb;refine aQ (v:=.string (mkS s)) (w2:=wr.drew) ?_ (hI.pure ok (by simp[hsl0]) (by decide) hb);show Result.ok (Next.value (a.eval (.tmp 5))) _=_;rw[e5]
      ·
       obtain rfl:=DN (ho.symm.trans (rfl:_=some _));refine av ho rfl ?_;have hd10:b 10=true:=hdep ⟨10,.data⟩ (by simp) rfl;have h32:a.eval (.tmp 32)=.string (mkS s):=hI.slot 10 32 _ (by simp[hsl0]) hd10;obtain rfl:=hI.w12 (by decide) hb;refine nI (f:=226) (args:=#[.string (mkS s),.string ⟨#[46]⟩]) (zJ a h32 _) ?_;refine(Tryz.strings_TrimSuffix (mkS s) ⟨#[46]⟩ _ hsl).mono ?_;rintro e w'' ⟨rfl,rfl⟩;exact⟨.string (mkS (Lib.trimSuffix s [46])),rfl,hI.pure ok (by simp[hsl0]) (by decide) hb⟩
      ·
       obtain rfl:=DN (ho.symm.trans (rfl:_=some _));refine av ho rfl ?_;have hall:∀j,j<12->b j=true:=fun j hj=>by
        rcases CR (by omega:j<13) with rfl|rfl|rfl|rfl|rfl|rfl|rfl|rfl|rfl|rfl|rfl|rfl|rfl
        all_goals first|omega|exact hdep ⟨_,.phase⟩ (by simp) rfl
       have h22:a.eval (.tmp 22)=.map (some w.heap.size):=hI.slot 0 22 _ (by simp[hsl0]) (hall 0 (by decide));have h31:a.eval (.tmp 31)=kv (x.1,x.2.1+i,x.2.2):=hI.slot 9 31 _ (by simp[hsl0]) (hall 9 (by decide));have h33:a.eval (.tmp 33)=.string (mkS (Lib.trimSuffix s [46])):=hI.slot 11 33 _ (by simp[hsl0]) (hall 11 (by decide));exact hI.lay hb hall hMx (by omega) hkn (by omega) rfl rfl h22 h31 h33 ok (fun _ h=>h)
     ·
      intro b a w' hI hall;obtain⟨⟨ts,rfl,hts⟩,hsm,_,_,hw⟩:=hI;obtain⟨hMf,hgf⟩:=hw.1 (hall 12 (by decide));obtain⟨ts⟩:=ts
      match ts,hts with
      |t0::t1::t2::t3::t4::t5::t6::t7::t8::t9::t10::t11::t12::t13::t14::t15::t16::t17::t18::t19::t20::t21::t22::t23::t24::t25::t26::t27::t28::t29::t30::t31::t32::t33::t34::t35::[],_=>
       obtain rfl:t0=.map none:=hsm 0 (Or.inl (by decide));obtain rfl:t1=.map (some w.heap.size):=hsm 1 (Or.inl (by decide));obtain rfl:t2=.pointer (some ⟨S,0,none⟩):=hsm 2 (Or.inl (by decide));obtain rfl:t3=.string (mkS c):=hsm 3 (Or.inl (by decide));obtain rfl:t6=.map (some w.heap.size):=hsm 6 (Or.inl (by decide));obtain rfl:t7=.map (some Br):=hsm 7 (Or.inl (by decide));obtain rfl:t8=.pointer (some ⟨R,0,none⟩):=hsm 8 (Or.inl (by decide));obtain rfl:t9=.tuple #[.bool true,kv x,.string (mkS c)]:=hsm 9 (Or.inl (by decide));obtain rfl:t10=.bool true:=hsm 10 (Or.inl (by decide));obtain rfl:t11=.tuple #[.agg #[.int .i64 x.1,.int .i64 x.2.1,.bool x.2.2],.string (mkS c)]:=hsm 11 (Or.inl (by decide));obtain rfl:t12=.agg #[.int .i64 x.1,.int .i64 x.2.1,.bool x.2.2]:=hsm 12 (Or.inl (by decide));obtain rfl:t13=.string (mkS c):=hsm 13 (Or.inl (by decide));obtain rfl:t14=.string (mkS c):=hsm 14 (Or.inl (by decide));obtain rfl:t15=.slice (some ⟨S+1,0,none⟩) fs.length fs.length:=hsm 15 (Or.inl (by decide));obtain rfl:t16=.int .i64 fs.length:=hsm 16 (Or.inl (by decide));obtain rfl:t17=.int .i64 i:=hsm 17 (Or.inl (by decide));obtain rfl:t35=undef:=hsm 35 (Or.inr (by decide));have hrgd:wr.drew.ranges PP TW (plainElem PP TS) Br R 31 D1 left1 cnt1:=hrgx;have hrg4:=hrgd.kept hgf (fun e=>by have:=DN e;omega) (fun e=>by have:=DN e;omega);have hcld:Cl x fs S wr.drew:=⟨hclx.c0,hclx.c1,hclx.c2,hclx.fs⟩
       have hcl4:=hcld.kept hgf (by omega);have hb4:=hbx.drew.grown hgf hbx.drew.size (fun j hj=>by cases hj;exact DU _);clear hsm hw
       go_wp2
       go_roundw
       case rel=>
        refine⟨i+1,n'+1,_,by first|rfl|(simp;unfold wrap64;omega),by omega,hrg4,hMf,by omega,fun z=>?_,hb4,hcl4⟩;have e0:aZ L.nameTbl (pIn left1 x (i+1)) z=aZ L.nameTbl (fun k=>pIn left1 x i k||decide (k=(x,i))) z:=iq (fun t _=>by
         unfold pIn;by_cases h:t.1.1=x
         ·by_cases h2:t.1.2=i
          ·have:t.1=(x,i):=Prod.ext h h2;simp[this]
          ·have:¬t.1=(x,i):=fun e=>h2 (by rw[e])
           simp only[h,if_true,this,decide_false,Bool.or_false];exact decide_eq_decide.2 (by omega)
         ·have:¬t.1=(x,i):=fun e=>h (by rw[e])
          simp[h,this]) z
        rw[e0];have e1:=rM AZ Cr (b:=pIn left1 x i) hent z;simp only at e1;rw[e1,hfx]
       case measure=>simp[intOf];omega
    ·have hie:i=fs.length:=by omega
     subst hie
     go_wp2
     go_roundw
     case rel=>exact⟨left1,cnt1,n',f',hrgx,hld1,hMx,by omega,fun z=>by rw[hfx,hpEnd],hbx⟩
     case measure=>rw[hrgx.left_eq,hrg.left_eq];exact hlt
end
end Rv
namespace Rv
open Go Go.RowKit Go.Proofs Go.Maps
noncomputable section
set_option maxRecDepth 1000000
theorem Cq(x:NK):uX x=(L.nameTbl.find? fun e=>e.2.1 == x).map (·.2.2):=by
 unfold uX aZ;generalize L.nameTbl=l
 induction l with
 |nil=>rfl
 |cons e l ih=>
  rw[List.find?_cons,List.findSome?_cons];by_cases h:e.2.1=x;·simp[h]
  ·have:(e.2.1 == x)=false:=by simpa using h
   simpa[this,h] using ih
theorem yD{w:World}{B n:Nat}{k o:Int}{u:Bool}(hM:aV w B n uX)(hk:okK (k,o,u)):(Instr.lookup TM (.map (some B)) (.agg #[.int .i64 k,.int .i64 o,.bool u]) false).run PP w=.ok (.string (mkS (L.mnemR k o u))) w:=by
 have:=hM.look (k,o,u) hk;rw[Cq] at this;exact this
theorem yE(k o:Int)(u:Bool)(hk:okK (k,o,u))(m:Int)(w:World)(hm:w.cell? ⟨0,0,none⟩=some (.int .i64 m)) (htab:Lib.TabIs PP w "strings.asciiSpace" .u8 Lib.asciiSpaceTab) :
  Calls PP 125 #[.int .i64 k,.int .i64 o,.bool u] w fun e w'=>e=.returned (.string (mkS (L.mnemR k o u)))/\Below w.heap.size w w':=by
 go_enter Tryz.func125,Tryz.ntmps125
 go_wp2_with (go_at_call 179;refine(xL m _ hm htab).mono ?_;rintro e wa ⟨B,rfl,hB,hM,hb⟩;have hl:=yD hM hk)
 go_ret
 exact⟨rfl,hb⟩
end
end Rv
namespace Rv
open Go Go.RowKit Go.Proofs
noncomputable section
set_option maxRecDepth 1000000
noncomputable abbrev SP:Program:=Tryz.prog
abbrev opW(w:World)(t:TypeId)(v:Value)(f1 f2:FuncId):World:=
 (w.alloc (.cells #[v] t)).alloc (.cells #[.func (.func f1) #[] #[.pointer (some ⟨w.heap.size,0,none⟩)],.func (.func f2) #[] #[.pointer (some ⟨w.heap.size,0,none⟩)]] 180)
abbrev opV(B:Nat)(f1 f2:FuncId):Value:=.agg #[.func (.func f1) #[] #[.pointer (some ⟨B,0,none⟩)],.func (.func f2) #[] #[.pointer (some ⟨B,0,none⟩)]]
theorem nz{fn:Func}{u:Tmp}{t:TypeId}(h:fn.results=#[.cell u t]){tmps:Array Value}{a:Addr}{P:Program}{w:World}{v:Value}(ha:tmps.getD u undef=.pointer (some a))(hv:(loadVar t a).run P w=.ok v w) :
  (results fn tmps).run P w=.ok v w:=by
 have e:asAddr (tmps.getD u undef)=pure a:=by rw[ha];rfl
 unfold results;rw[h];simp only[List.mapM_toArray,List.mapM_cons,List.mapM_nil,e];simp[hv,Result.andThen]
theorem AA(g:FuncId)(w:World):Calls SP 180 #[.func (.func g) #[] #[]] w fun e w'=>
  e=.returned (opV w.heap.size 227 228)/\w'=opW w 236 (.func (.func g) #[] #[]) 227 228:=by
 go_enter Tryz.func180,Tryz.ntmps180
 go_wp2
 refine bodyPost_ret (v:=opV w.heap.size 227 228) (nz rfl rfl ?_) rfl ⟨rfl,rfl⟩
 go_simp
theorem uA(s:ByteArray)(w:World):Calls SP 184 #[.string s] w fun e w'=>
  e=.returned (opV w.heap.size 229 231)/\w'=opW w 9 (.string s) 229 231:=by
 go_enter Tryz.func184,Tryz.ntmps184
 go_wp2
 refine bodyPost_ret (v:=opV w.heap.size 229 231) (nz rfl rfl ?_) rfl ⟨rfl,rfl⟩
 go_simp
noncomputable abbrev TMo:TypeId:=238
theorem Cf{P:Program}{mt kt vt:TypeId}(hm:P.underlying mt=some (.map kt vt))(hk:P.underlying kt=some (.int .i64)){W:World}{B:Nat}{es:Array MapEntry}{cl:Nat}{n:Int}{val:Value}(hB:B=W.heap.size)(hf:Instr.findNow (.int .i64) (.int .i64 n) es.toList 0=some none) :
  (Instr.mapUpdate mt (.map (some B)) (.int .i64 n) val).run P (W.alloc (.map es cl))=.ok () (W.alloc (.map (es.push { key:=.int .i64 n,val:=val,born:=cl }) (cl+1))):=by
 subst hB;have hb:(W.alloc (.map es cl)).heap[W.heap.size]?=some (.map es cl):=by
  show(W.heap.push (.map es cl))[W.heap.size]?=_;exact Array.getElem?_push_size
 have hc:(Instr.checkKey false 10000 kt (.int .i64 n)).run P (W.alloc (.map es cl))=.ok () (W.alloc (.map es cl)):=MapKept.run_checkKey (k:=.int .i64 n) hk (by simp[MapKept.IsKey]) false 9999;generalize hX:W.alloc (.map es cl)=X at hb hc⊢;have h1:(Instr.mapUpdate mt (.map (some W.heap.size)) (.int .i64 n) val).run P X=.ok () { X with heap:=X.heap.setIfInBounds W.heap.size (.map (es.push { key:=.int .i64 n,val:=val,born:=cl }) (cl+1)) }:=by
  unfold Instr.mapUpdate;rw[DX,run_underlying hm];simp only[DR];rw[DX,MapKept.run_getObj_map hb];simp only[DR];rw[DX,hc];simp only[DR];rw[DX,MapKept.run_findKey hk hf];simp only[DR];exact MapKept.run_setObj_map _ hb
 rw[h1];subst hX;have h2:(W.heap.push (.map es cl)).setIfInBounds W.heap.size (.map (es.push { key:=.int .i64 n,val:=val,born:=cl }) (cl+1))=W.heap.push (.map (es.push { key:=.int .i64 n,val:=val,born:=cl }) (cl+1)):=by
  apply Array.ext';rw[Array.toList_setIfInBounds,Array.toList_push,Array.toList_push,List.set_append_right _ _ (by simp)];simp
 show Result.ok () { (W.alloc (.map es cl)) with heap:=(W.heap.push (.map es cl)).setIfInBounds W.heap.size _ }=_;rw[h2];rfl
theorem Am{P:Program}{mt kt vt:TypeId}(hm:P.underlying mt=some (.map kt vt))(hk:P.underlying kt=some (.int .i64)){W:World}{B:Nat}{es:Array MapEntry}{cl i:Nat}{n:Int}{val:Value}(hb:W.heap[B]?=some (.map es cl))(hf:Instr.findNow (.int .i64) (.int .i64 n) es.toList 0=some (some (i,val))) :
  (Instr.lookup mt (.map (some B)) (.int .i64 n) false).run P W=.ok val W:=by
 have hc:∀b,(Instr.checkKey b 10000 kt (.int .i64 n)).run P W=.ok () W:=fun b=>MapKept.run_checkKey (k:=.int .i64 n) hk (by simp[MapKept.IsKey]) b 9999
 simp[Instr.lookup,run_underlying hm,MapKept.run_getObj_map hb,hc,MapKept.run_findKey hk hf,Result.andThen]
theorem wz{W:World}{B:Nat}{es:Array MapEntry}{cl:Nat}{n:Int}{val:Value}(hB:B=W.heap.size)(hf:Instr.findNow (.int .i64) (.int .i64 n) es.toList 0=some none) :
  (Instr.mapUpdate TMo (.map (some B)) (.int .i64 n) val).run SP (W.alloc (.map es cl))=.ok () (W.alloc (.map (es.push { key:=.int .i64 n,val:=val,born:=cl }) (cl+1))):=
 Cf Tryz.underlying238 Tryz.underlying3 hB hf
theorem lg{W:World}{B:Nat}{es:Array MapEntry}{cl i:Nat}{n:Int}{val:Value}(hb:W.heap[B]?=some (.map es cl))(hf:Instr.findNow (.int .i64) (.int .i64 n) es.toList 0=some (some (i,val))) :
  (Instr.lookup TMo (.map (some B)) (.int .i64 n) false).run SP W=.ok val W:=
 Am Tryz.underlying238 Tryz.underlying3 hb hf
end
end Rv
namespace Rv
open Go Go.RowKit Go.Proofs
noncomputable section
set_option maxRecDepth 1000000
def zk(p:Prop):Prop:=p
theorem DC{p:Prop}(h:p):zk p:=h
theorem zk.out{p:Prop}(h:zk p):p:=h
def bR:World->List Obj->World
 |w,[]=>w
 |w,o::l=>bR (w.alloc o) l
theorem dG:∀(l:List Obj) (w:World),(bR w l).heap.size=w.heap.size+l.length/\(∀i,i<w.heap.size->(bR w l).heap[i]?=w.heap[i]?)/\∀i,(bR w l).heap[w.heap.size+i]?=if i<l.length then l[i]? else none
 |[],w=>⟨by simp[bR],fun i hi=>rfl,fun i=>by simp[bR]⟩
 |o::l,w=>by
  obtain⟨h1,h2,h3⟩:=dG l (w.alloc o);have hs:(w.alloc o).heap.size=w.heap.size+1:=by show(w.heap.push o).size=_;simp
  have ho:∀i,i<w.heap.size->(w.alloc o).heap[i]?=w.heap[i]?:=fun i hi=>by
   show(w.heap.push o)[i]?=_;rw[Array.getElem?_push,if_neg (by omega)]
  have hn:(w.alloc o).heap[w.heap.size]?=some o:=by
   show(w.heap.push o)[w.heap.size]?=_;exact Array.getElem?_push_size
  refine⟨by simp only[bR];rw[h1,hs];simp;omega,fun i hi=>?_,fun i=>?_⟩
  ·simp only[bR];rw[h2 i (by omega),ho i hi]
  ·simp only[bR];cases i with
   |zero=>rw[Nat.add_zero,h2 _ (by omega),hn];simp
   |succ i=>
    have:=h3 i;rw[hs] at this;rw[show w.heap.size+(i+1)=w.heap.size+1+i by omega,this];simp
theorem sz(w:World)(o:Obj):(w.alloc o).heap.size=w.heap.size+1:=by show(w.heap.push o).size=_;simp
def fn2(B:Nat)(f1 f2:FuncId):Obj:=.cells #[.func (.func f1) #[] #[.pointer (some ⟨B,0,none⟩)],.func (.func f2) #[] #[.pointer (some ⟨B,0,none⟩)]] 180
def opsL(B:Nat):List Obj:=[
 .cells #[.func (.func 181) #[] #[]] 236,fn2 B 227 228,fn2 B 227 228,
 .cells #[.func (.func 182) #[] #[]] 236,fn2 (B+3) 227 228,fn2 (B+3) 227 228,
 .cells #[.func (.func 183) #[] #[]] 236,fn2 (B+6) 227 228,fn2 (B+6) 227 228,
 .cells #[.string ⟨#[]⟩] 9,fn2 (B+9) 229 231,fn2 (B+9) 229 231,
 .cells #[.func (.func 185) #[] #[],.func (.func 186) #[] #[]] 180]
abbrev OT:Ty:=.pair .fn (.pair .fn .nil)
def xz(g:FuncId):OT.D:=((227,[.cf (g,[])]),(228,[.cf (g,[])]),())
def Ap(s:Str):OT.D:=((229,[.c0 (.cs s)]),(231,[.c0 (.cs s)]),())
def opA:OT.D:=xz 181
def opB:OT.D:=xz 182
def opC:OT.D:=xz 183
def opE:OT.D:=Ap []
def opQ:OT.D:=Ap [61]
def opN:OT.D:=((185,[]),(186,[]),())
def opsR(k o:Int):List OT.D:=
 if k=1 then(if o=0 then[opA,opC] else[opA,opB,opC]) else
 if k=2 then(if o=0 then[opA,opE] else[opA,opB,opE]) else
 if k=3\/k=4 then[opA] else
 if k=5 then[opA,opB,opE] else
 if k=6 then[opC] else
 if k=7\/k=9 then[opE] else
 if k=8 then[opA,opQ] else
 if k=10 then[opN] else[]
theorem vW{t:Ty}{w:World}{ok:Nat->Prop}:∀{xs:List t.D}{dss:List (List Value)}{i:Nat}{x:t.D},af (fun x ds=>Rd w ok t x ds) xs dss->xs[i]?=some x->∃ds,Rd w ok t x ds/\∀j v,ds[j]?=some v->dss.flatten[i*t.size+j]?=some v
 |[],_,i,x,_,h=>by simp at h
 |_::_,[],_,_,h,_=>h.elim
 |y::xs,ds::dss,0,x,h,hx=>by
  simp only[Ee,DL] at hx;subst hx;refine⟨ds,h.1,fun j v hj=>?_⟩;have:=(DY.1 hj).1;rw[List.flatten_cons,Nat.zero_mul,Nat.zero_add,Ej this];exact hj
 |y::xs,ds::dss,i+1,x,h,hx=>by
  obtain⟨d,h1,h2⟩:=vW h.2 (i:=i) (by simpa using hx);refine⟨d,h1,fun j v hj=>?_⟩;have hl:=h.1.length;rw[List.flatten_cons,List.getElem?_append_right (by rw[hl,Nat.succ_mul];omega),hl];rw[show(i+1)*t.size+j-t.size=i*t.size+j by rw[Nat.succ_mul];omega];exact h2 j v hj
theorem CX{t:Ty}{w:World}{ok:Nat->Prop}{g:Nat}{cs:Array Value}{T:TypeId}{xs:List t.D}{dss:List (List Value)}(hg:w.heap[g]?=some (.cells cs T (0,0)))(hok:ok g)(hd:af (fun x ds=>Rd w ok t x ds) xs dss)(hc:cs.toList=dss.flatten){n:Nat}(hn:n=xs.length) :
  Rd w ok (.sl t) xs [.slice (some ⟨g,0,none⟩) n n]:=by
 subst hn;refine⟨_,_,rfl,DU _,fun i x hx=>?_⟩;obtain⟨ds,h1,h2⟩:=vW hd hx;refine⟨g,0,ds,rfl,hok,(Array.getElem?_eq_some_iff.1 hg).1,h1,fun j v hj=>?_⟩;have:=h2 j v hj;unfold World.cell?;simp only[hg,Nat.zero_add];rw[<- hc] at this;simpa using this
structure jm (B:Nat) (w:World):Prop where
 at_:∀i,i<13->w.heap[B+i]?=(opsL B)[i]?
 lt:B+13<=w.heap.size
theorem jm.cell{B:Nat}{w:World}(H:jm B w){i:Nat}(hi:i<13){v:Value}{t:TypeId}(h:(opsL B)[i]?=some (.cells #[v] t (0,0))):w.cell? ⟨B+i,0,none⟩=some v:=by
 have:=(H.at_ i hi).trans h;unfold World.cell?;simp only[this];rfl
theorem jm.reg{B:Nat}{w:World}(H:jm B w){i:Nat}{g:FuncId}(hi:i<13)(h:(opsL B)[i]?=some (.cells #[.func (.func g) #[] #[]] 236 (0,0))):Rd w (fun g=>B<=g) OT (xz g) [fnV 227 [B+i],fnV 228 [B+i]]:=by
 have hc:jl w (fun g=>B<=g) (B+i) (.cf (g,[])):=⟨Nat.le_add_right _ _,by have:=H.lt;omega,[],H.cell hi h,trivial⟩
 exact⟨[_],[_],rfl,⟨[B+i],rfl,hc,trivial⟩,[_],[],rfl,⟨[B+i],rfl,hc,trivial⟩,rfl⟩
theorem yM{B g:Nat}{w:World}{s:Str}(h:w.cell? ⟨g,0,none⟩=some (.string (mkS s)))(hB:B<=g)(hg:g<w.heap.size):Rd w (fun g=>B<=g) OT (Ap s) [fnV 229 [g],fnV 231 [g]]:=by
 have hc:jl w (fun g=>B<=g) g (.c0 (.cs s)):=⟨hB,hg,h⟩
 exact⟨[_],[_],rfl,⟨[g],rfl,hc,trivial⟩,[_],[],rfl,⟨[g],rfl,hc,trivial⟩,rfl⟩
theorem jm.num{B:Nat}{w:World}(H:jm B w):Rd w (fun g=>B<=g) OT opE [fnV 229 [B+9],fnV 231 [B+9]]:=yM (H.cell (i:=9) (by omega) rfl) (by omega) (by have:=H.lt;omega)
theorem CW{ok:Nat->Prop}{w:World}:Rd w ok OT opN [fnV 185 [],fnV 186 []]:=⟨[_],[_],rfl,⟨[],rfl,trivial⟩,[_],[],rfl,⟨[],rfl,trivial⟩,rfl⟩
theorem kI:∀(l:List Obj) {w0 w:World},Below w0.heap.size w0 w->w0.heap.size<=w.heap.size->Below w0.heap.size w0 (bR w l)
 |[],_,_,h,_=>h
 |o::l,_,w,h,hs=>kI l (h.alloc hs o) (by rw[sz];omega)
theorem CP{X:World}{g:Nat}{u v:Value}(h0:X.cell? ⟨g,0,none⟩=some u)(h1:X.cell? ⟨g,1,none⟩=some v):(Instr.loadAt 180 (.pointer (some ⟨g,0,none⟩))).run SP X=.ok (.agg #[u,v]) X:=by go_simp
theorem Bi{X:World}{g:Nat}{u v:Value}(h0:X.cell? ⟨g,0,none⟩=some u)(h1:X.cell? ⟨g,1,none⟩=some v){a:Act}{o:Oper}{t:Tmp}(ho:o.op=.load 180 (.tmp t))(ht:a.eval (.tmp t)=.pointer (some ⟨g,0,none⟩)):(execOp a.eval o).run SP X=.ok (.value (.agg #[u,v])) X:=by
 have h:=CP h0 h1;simp[execOp,ho,ht,h,Result.andThen]
theorem xX:∀args w,(callFunc 184 args).run SP w=.ok (.enter 184 args) w:=enters_of Tryz.func184 (by kernel_rfl) rfl
theorem BV{X:World}{g:Nat}{u v:Value}(h0:X.cell? ⟨g,0,none⟩=some u)(h1:X.cell? ⟨g,1,none⟩=some v){a:Act}{o:Oper}{t:Tmp}(ho:o.op=.load 180 (.tmp t))(ht:a.eval (.tmp t)=.pointer (some ⟨g,0,none⟩)):(execOp a.eval o).run SP X.drew=.ok (.value (.agg #[u,v])) X.drew:=
 Bi (X:=X.drew) h0 h1 ho ht
theorem zH{X:World}{a:Act}{o:Oper}{s:ByteArray}{t:TypeId}(ho:o.op=.call { callee:=.value (.func 184),args:=#[.const (.string s)],argTypes:=#[t] }):(execOp a.eval o).run SP X=.ok (.enter 184 #[.string s]) X:=by
 have hf:a.eval (.func 184)=.func (.func 184) #[] #[]:=rfl;have hc:∀v,a.eval (.const v)=v:=fun _=>rfl
 simp[execOp,ho,resolve,Deferred.ofValue,invoke,hf,hc,xX]
theorem yG{X:World}{a:Act}{o:Oper}{s:ByteArray}{t:TypeId}(ho:o.op=.call { callee:=.value (.func 184),args:=#[.const (.string s)],argTypes:=#[t] }){K:Act->World->Prop}{Q:Exit->Act->World->Prop}
  (hK:K (a.put o.dst (opV X.heap.size 229 231)) (opW X 9 (.string s) 229 231)):o.wp SP a X K Q:=by
 unfold Oper.wp;rw[zH ho,Oper.upon_enter];refine(uA s X).mono ?_;rintro e w' ⟨rfl,rfl⟩;exact hK
theorem q8{X:World}{o1 o2:Obj}{a:Addr}{v:Value}(h:X.cell? a=some v)(hs:a.block<X.heap.size):((X.drew.alloc o1).alloc o2).cell? a=some v:=by
 rw[<- h];refine World.cell?_of_block ?_;show((X.heap.push o1).push o2)[a.block]?=X.heap[a.block]?;rw[Array.getElem?_push,if_neg (by rw[Array.size_push];omega),Array.getElem?_push,if_neg (by omega)]
structure tH (w W:World):Prop where
 size:W.heap.size=w.heap.size+13
 at_:∀i,i<13->W.heap[w.heap.size+i]?=(opsL w.heap.size)[i]?
 below:Below w.heap.size w W
theorem tH.at2{w W:World}(h:tH w W):∀(l:List Obj),jm w.heap.size (bR W l)/\Below w.heap.size w (bR W l):=fun l=>by
 obtain⟨h1,h2,_⟩:=dG l W;have hs:=h.size;exact⟨⟨fun i hi=>by rw[h2 _ (by omega)];exact h.at_ i hi,by omega⟩,kI l h.below (by omega)⟩
theorem yK(W:World)(l:List Obj)(o:Obj):(bR W (l++[o])).heap[W.heap.size+l.length]?=some o:=by
 rw[(dG _ W).2.2];simp
abbrev jQ(k o:Int)(w:World)(e:Ending)(w':World):Prop:=Below w.heap.size w w'/\∃v,e=.returned v/\Rd w' (fun g=>w.heap.size<=g) (.sl OT) (opsR k o) [v]
theorem dD{w W:World}(h:tH w W)(l:List Obj){cs:Array Value}{T:TypeId}{xs:List OT.D}{dss:List (List Value)}{g n:Nat}(hg:g=W.heap.size+l.length)(hn:n=xs.length)(hc:cs.toList=dss.flatten)
  (hd:jm w.heap.size (bR W (l++[.cells cs T (0,0)]))->af (fun x ds=>Rd (bR W (l++[.cells cs T (0,0)])) (fun g=>w.heap.size<=g) OT x ds) xs dss) :
  Below w.heap.size w (bR W (l++[.cells cs T (0,0)]))/\∃v,Ending.returned (.slice (some ⟨g,0,none⟩) n n)=.returned v/\Rd (bR W (l++[.cells cs T (0,0)])) (fun g=>w.heap.size<=g) (.sl OT) xs [v]:=by
 obtain⟨h1,h2⟩:=h.at2 (l++[.cells cs T (0,0)]);subst hg;have hs:=h.size;exact⟨h2,_,rfl,CX (yK W l _) (by omega) (hd h1) hc hn⟩
abbrev Au(w W:World)(mo:Obj):List Obj:=[mo,.cells #[.string ⟨#[61]⟩] 9,.cells #[.func (.func 229) #[] #[.pointer (some ⟨W.heap.size+1,0,none⟩)],.func (.func 231) #[] #[.pointer (some ⟨W.heap.size+1,0,none⟩)]] 180]
theorem uC{w W:World}(h:tH w W)(o:Int)(mo:Obj):jQ 8 o w (.returned (.slice (some ⟨W.heap.size+1+1+1,0,none⟩) 2 2))
  (bR W (Au w W mo++[.cells #[.func (.func 227) #[] #[.pointer (some ⟨w.heap.size,0,none⟩)],.func (.func 228) #[] #[.pointer (some ⟨w.heap.size,0,none⟩)],.func (.func 229) #[] #[.pointer (some ⟨W.heap.size+1,0,none⟩)],.func (.func 231) #[] #[.pointer (some ⟨W.heap.size+1,0,none⟩)]] 180])).drew:=by
 have hs:=h.size;obtain⟨h1,v,h2,h3⟩:=dD h (Au w W mo) (cs:=#[.func (.func 227) #[] #[.pointer (some ⟨w.heap.size,0,none⟩)],.func (.func 228) #[] #[.pointer (some ⟨w.heap.size,0,none⟩)],.func (.func 229) #[] #[.pointer (some ⟨W.heap.size+1,0,none⟩)],.func (.func 231) #[] #[.pointer (some ⟨W.heap.size+1,0,none⟩)]]) (T:=180) (xs:=[opA,opQ]) (dss:=[[_,_],[_,_]]) (g:=W.heap.size+1+1+1) (n:=2) rfl rfl rfl fun H=>⟨H.reg (i:=0) (by omega) rfl,yM (s:=[61]) (by
  unfold World.cell?;have:=(dG (Au w W mo++[.cells #[.func (.func 227) #[] #[.pointer (some ⟨w.heap.size,0,none⟩)],.func (.func 228) #[] #[.pointer (some ⟨w.heap.size,0,none⟩)],.func (.func 229) #[] #[.pointer (some ⟨W.heap.size+1,0,none⟩)],.func (.func 231) #[] #[.pointer (some ⟨W.heap.size+1,0,none⟩)]] 180]) W).2.2 1;rw[if_pos (by simp)] at this;simp only[this];rfl) (by omega) (by rw[(dG _ _).1];simp),trivial⟩
 refine⟨h1.drew,v,h2,h3.mono (DU _) fun g hg _=>⟨rfl,hg⟩⟩
set_option maxHeartbeats 4000000 in
theorem Av(k o:Int)(w:World):Calls SP 128 #[.int .i64 k,.int .i64 o] w (jQ k o w):=by
 go_enter Tryz.func128,Tryz.ntmps128
 go_wp2_with (first
  |(go_at_call 180;refine(AA _ _).mono ?_;rintro e wa ⟨rfl,rfl⟩)
  |(go_at_call 184;refine(uA _ _).mono ?_;rintro e wa ⟨rfl,rfl⟩)
  )
 simp only[opW,sz];show Oper.upon SP _ _ _ _ ((Sem.run SP (Instr.makeMap 238 none) (bR w (opsL w.heap.size))).andThen _);obtain⟨W,hW⟩:∃W,W=bR w (opsL w.heap.size):=⟨_,rfl⟩
 rw[<- hW];have hs:W.heap.size=w.heap.size+13:=by rw[hW,(dG _ _).1];rfl
 have hat:∀i,W.heap[w.heap.size+i]?=if i<13 then(opsL w.heap.size)[i]? else none:=fun i=>by rw[hW,(dG _ _).2.2];rfl
 have hold:∀i,i<w.heap.size->W.heap[i]?=w.heap[i]?:=fun i hi=>by rw[hW];exact(dG _ _).2.1 i hi
 have hob:∀(ob:Obj) (i:Nat),i<13->(W.alloc ob).heap[w.heap.size+i]?=(opsL w.heap.size)[i]?:=fun ob i hi=>by
  show(W.heap.push ob)[_]?=_;rw[Array.getElem?_push,if_neg (by omega),hat i,if_pos hi]
 have cc:∀(ob:Obj) (i:Nat) (cs:Array Value) (t:TypeId) (j:Nat) (v:Value),i<13->(opsL w.heap.size)[i]?=some (.cells cs t (0,0))->cs[j]?=some v->(W.alloc ob).cell? ⟨w.heap.size+i,j,none⟩=some v:=fun ob i cs t j v hi hc hv=>by
  have h:=(hob ob i hi).trans hc;unfold World.cell?;simp only[h];exact hv
 have a0:∀ob,(W.alloc ob).cell? ⟨w.heap.size+2,0,none⟩=some (.func (.func 227) #[] #[.pointer (some ⟨w.heap.size,0,none⟩)]):=fun ob=>cc ob 2 _ _ 0 _ (by omega) rfl rfl
 have a1:∀ob,(W.alloc ob).cell? ⟨w.heap.size+2,1,none⟩=some (.func (.func 228) #[] #[.pointer (some ⟨w.heap.size,0,none⟩)]):=fun ob=>cc ob 2 _ _ 1 _ (by omega) rfl rfl
 have b0:∀ob,(W.alloc ob).cell? ⟨w.heap.size+5,0,none⟩=some (.func (.func 227) #[] #[.pointer (some ⟨w.heap.size+3,0,none⟩)]):=fun ob=>cc ob 5 _ _ 0 _ (by omega) rfl rfl
 have b1:∀ob,(W.alloc ob).cell? ⟨w.heap.size+5,1,none⟩=some (.func (.func 228) #[] #[.pointer (some ⟨w.heap.size+3,0,none⟩)]):=fun ob=>cc ob 5 _ _ 1 _ (by omega) rfl rfl
 have c0:∀ob,(W.alloc ob).cell? ⟨w.heap.size+8,0,none⟩=some (.func (.func 227) #[] #[.pointer (some ⟨w.heap.size+6,0,none⟩)]):=fun ob=>cc ob 8 _ _ 0 _ (by omega) rfl rfl
 have c1:∀ob,(W.alloc ob).cell? ⟨w.heap.size+8,1,none⟩=some (.func (.func 228) #[] #[.pointer (some ⟨w.heap.size+6,0,none⟩)]):=fun ob=>cc ob 8 _ _ 1 _ (by omega) rfl rfl
 have e0:∀ob,(W.alloc ob).cell? ⟨w.heap.size+11,0,none⟩=some (.func (.func 229) #[] #[.pointer (some ⟨w.heap.size+9,0,none⟩)]):=fun ob=>cc ob 11 _ _ 0 _ (by omega) rfl rfl
 have e1:∀ob,(W.alloc ob).cell? ⟨w.heap.size+11,1,none⟩=some (.func (.func 231) #[] #[.pointer (some ⟨w.heap.size+9,0,none⟩)]):=fun ob=>cc ob 11 _ _ 1 _ (by omega) rfl rfl
 have n0:∀ob,(W.alloc ob).cell? ⟨w.heap.size+12,0,none⟩=some (.func (.func 185) #[] #[]):=fun ob=>cc ob 12 _ _ 0 _ (by omega) rfl rfl
 have n1:∀ob,(W.alloc ob).cell? ⟨w.heap.size+12,1,none⟩=some (.func (.func 186) #[] #[]):=fun ob=>cc ob 12 _ _ 1 _ (by omega) rfl rfl
 have HW:=DC (p:=tH w W) ⟨hs,fun i hi=>by rw[hat i,if_pos hi],by rw[hW];exact kI _ (Below.refl _ _) (DU _)⟩;clear hW hs hat hold hob cc;rw[run_makeMap];simp only[DR]
 go_wp2
 rw[wz rfl (by rfl)];simp only[DR]
 go_wp2
 rw[wz rfl (by rfl)];simp only[DR];rcases(show k=1\/k=2\/k=3\/k=4\/k=5\/k=6\/k=7\/k=8\/k=9\/k=10\/(k≠1/\k≠2/\k≠3/\k≠4/\k≠5/\k≠6/\k≠7/\k≠8/\k≠9/\k≠10) by omega) with rfl|rfl|rfl|rfl|rfl|rfl|rfl|rfl|rfl|rfl|hk
 ·by_cases ho:o=0
  ·subst ho
   go_wp2
   rw[lg (show(W.heap.push _)[W.heap.size]?=_ from Array.getElem?_push_size) rfl];simp only[DR]
   go_wp2
   go_ret
   exact dD HW.out [_] rfl rfl (dss:=[[_,_],[_,_]]) rfl fun H=>⟨H.reg (i:=0) (by omega) rfl,H.reg (i:=6) (by omega) rfl,trivial⟩
  ·go_wp2
   rw[lg (show(W.heap.push _)[W.heap.size]?=_ from Array.getElem?_push_size) rfl];simp only[DR]
   go_wp2
   go_ret
   have e:opsR 1 o=[opA,opB,opC]:=by simp[opsR,ho]
   unfold jQ;rw[e];exact dD HW.out [_] rfl rfl (dss:=[[_,_],[_,_],[_,_]]) rfl fun H=>⟨H.reg (i:=0) (by omega) rfl,H.reg (i:=3) (by omega) rfl,H.reg (i:=6) (by omega) rfl,trivial⟩
 ·by_cases ho:o=0
  ·subst ho
   go_wp2
   rw[lg (show(W.heap.push _)[W.heap.size]?=_ from Array.getElem?_push_size) rfl];simp only[DR]
   go_wp2
   go_ret
   exact dD HW.out [_] rfl rfl (dss:=[[_,_],[_,_]]) rfl fun H=>⟨H.reg (i:=0) (by omega) rfl,H.num,trivial⟩
  ·go_wp2
   rw[lg (show(W.heap.push _)[W.heap.size]?=_ from Array.getElem?_push_size) rfl];simp only[DR]
   go_wp2
   go_ret
   have e:opsR 2 o=[opA,opB,opE]:=by simp[opsR,ho]
   unfold jQ;rw[e];exact dD HW.out [_] rfl rfl (dss:=[[_,_],[_,_],[_,_]]) rfl fun H=>⟨H.reg (i:=0) (by omega) rfl,H.reg (i:=3) (by omega) rfl,H.num,trivial⟩
 ·go_wp2
  go_ret
  exact dD HW.out [_] rfl rfl (dss:=[[_,_]]) rfl fun H=>⟨H.reg (i:=0) (by omega) rfl,trivial⟩
 ·go_wp2
  go_ret
  exact dD HW.out [_] rfl rfl (dss:=[[_,_]]) rfl fun H=>⟨H.reg (i:=0) (by omega) rfl,trivial⟩
 ·go_wp2
  go_ret
  exact dD HW.out [_] rfl rfl (dss:=[[_,_],[_,_],[_,_]]) rfl fun H=>⟨H.reg (i:=0) (by omega) rfl,H.reg (i:=3) (by omega) rfl,H.num,trivial⟩
 ·go_wp2
  go_ret
  exact dD HW.out [_] rfl rfl (dss:=[[_,_]]) rfl fun H=>⟨H.reg (i:=6) (by omega) rfl,trivial⟩
 ·go_wp2
  go_ret
  exact dD HW.out [_] rfl rfl (dss:=[[_,_]]) rfl fun H=>⟨H.num,trivial⟩
 ·go_wp2_with fail
  have mixed:SP.follows .mixedOrders=true:=by kernel_rfl
  refine wp_region_any (by kernel_rfl) ?_;change wpAny _ _ _ _ _ _ _ (World.drew (W.alloc _));refine wpAny_ready (rs:=[0,1]) (by kernel_rfl) (by simp) ?_;refine AllReady.cons rfl (fun K hK=>?_) (AllReady.cons rfl (fun K hK=>?_) AllReady.nil)
  ·rw[if_pos (by rfl)];refine(bX (BV (a0 _) (a1 _) (by rfl) (by rfl)) (hK _ _ ?_));clear hK K;refine wpAny_ready (rs:=[1]) (by kernel_rfl) (by simp) ?_;refine AllReady.cons rfl (fun K hK=>?_) AllReady.nil;rw[if_pos (by rfl)];refine(yG (by rfl) (hK _ _ ?_));clear hK K;refine wpAny_ready (rs:=[2]) (by kernel_rfl) (by simp) ?_;refine AllReady.cons rfl (fun K hK=>?_) AllReady.nil;rw[if_pos (by rfl)]
   go_simp
   refine hK _ _ ?_;clear hK K;refine wpAny_ready (rs:=[3]) (by kernel_rfl) (by simp) ?_;refine AllReady.cons rfl (fun K hK=>?_) AllReady.nil;rw[if_pos (by rfl)]
   go_simp
   refine hK _ _ ?_;clear hK K;refine wpAny_done (by kernel_rfl) ?_ _
   go_wp2
   go_ret
   have e:(W.alloc (.map #[{ key:=.int .i64 1,val:=.agg #[.func (.func 227) #[] #[.pointer (some ⟨w.heap.size+6,0,none⟩)],.func (.func 228) #[] #[.pointer (some ⟨w.heap.size+6,0,none⟩)]],born:=0 },{ key:=.int .i64 2,val:=.agg #[.func (.func 229) #[] #[.pointer (some ⟨w.heap.size+9,0,none⟩)],.func (.func 231) #[] #[.pointer (some ⟨w.heap.size+9,0,none⟩)]],born:=1 }] 2)).drew.heap.size=W.heap.size+1:=sz W _;simp only[opW,e];exact uC HW.out o _
  ·rw[if_pos (by rfl)];refine(yG (by rfl) (hK _ _ ?_));clear hK K;refine wpAny_ready (rs:=[0]) (by kernel_rfl) (by simp) ?_;refine AllReady.cons rfl (fun K hK=>?_) AllReady.nil;rw[if_pos (by rfl)];refine(bX (Bi (q8 (a0 _) (by have:=HW.out.size;simp;omega)) (q8 (a1 _) (by have:=HW.out.size;simp;omega)) (by rfl) (by rfl)) (hK _ _ ?_));clear hK K;refine wpAny_ready (rs:=[2]) (by kernel_rfl) (by simp) ?_;refine AllReady.cons rfl (fun K hK=>?_) AllReady.nil;rw[if_pos (by rfl)]
   go_simp
   refine hK _ _ ?_;clear hK K;refine wpAny_ready (rs:=[3]) (by kernel_rfl) (by simp) ?_;refine AllReady.cons rfl (fun K hK=>?_) AllReady.nil;rw[if_pos (by rfl)]
   go_simp
   refine hK _ _ ?_;clear hK K;refine wpAny_done (by kernel_rfl) ?_ _
   go_wp2
   go_ret
   exact uC HW.out o _
 ·go_wp2
  go_ret
  exact dD HW.out [_] rfl rfl (dss:=[[_,_]]) rfl fun H=>⟨H.num,trivial⟩
 ·go_wp2
  go_ret
  exact dD HW.out [_] rfl rfl (dss:=[[_,_]]) rfl fun H=>⟨CW,trivial⟩
 ·obtain⟨h1,h2,h3,h4,h5,h6,h7,h8,h9,h10⟩:=hk
  go_wp2
  go_ret
  have e:opsR k o=[]:=by simp[opsR,h1,h2,h3,h4,h5,h6,h7,h8,h9,h10]
  unfold jQ;rw[e];obtain⟨_,hb⟩:=HW.out.at2 [_];exact⟨hb,_,rfl,none,0,rfl,DU _,fun i x hx=>by simp at hx⟩
end
end Rv
namespace Rv
open Go Go.RowKit Go.Proofs
noncomputable section
set_option maxRecDepth 1000000
theorem yu(a:Option Addr)(c:Nat)(sep:ByteArray)(w:World):Calls Tryz.prog 82 #[.slice a 0 c,.string sep] w fun e w'=>e=.returned (.string ⟨#[]⟩)/\w'=w:=by
 go_enter Tryz.func82,Tryz.ntmps82
 go_wp2
 go_ret
 exact⟨rfl,rfl⟩
theorem join_one(bk o c:Nat)(x sep:ByteArray)(w:World)(hc:w.cell? ⟨bk,o,none⟩=some (.string x)):Calls Tryz.prog 82 #[.slice (some ⟨bk,o,none⟩) 1 c,.string sep] w fun e w'=>e=.returned (.string x)/\w'=w:=by
 go_enter Tryz.func82,Tryz.ntmps82
 go_wp2
 go_ret
 exact⟨rfl,rfl⟩
set_option maxHeartbeats 16000000 in
theorem yo(bk o c:Nat)(xs:List ByteArray)(sep:ByteArray)(w:World)
  (hcells:∀(j:Nat) x,xs[j]?=some x->w.cell? ⟨bk,o+j,none⟩=some (.string x))
  (hbk:bk<w.heap.size) (h2:2<=xs.length) (hN:xs.length<=140737488355328) (hcap:xs.length<=c)
  (hlen:(Lib.join (xs.map (·.data.toList)) sep.data.toList).length<=140737488355328) :
  Calls Tryz.prog 82 #[.slice (some ⟨bk,o,none⟩) xs.length c,.string sep] w fun e w'=>e=.returned (.string ⟨(Lib.join (xs.map (·.data.toList)) sep.data.toList).toArray⟩)/\Below w.heap.size w w':=by
 have HC:=hidR hcells;clear hcells;obtain⟨x0,r,hxs⟩:∃x0 r,xs=x0::r:=by
  cases xs with
  |nil=>simp at h2
  |cons a t=>exact⟨a,t,rfl⟩
 have hjl:sep.size*(xs.length-1)+Lib.lens (xs.map (·.data.toList))<=140737488355328:=by
  have:=Lib.join_length x0.data.toList (r.map (·.data.toList)) sep.data.toList;rw[hxs] at hlen⊢;simp only[Ea] at hlen⊢;rw[this,Et] at hlen;rw[Lib.size_eq,Eh,Nat.add_sub_cancel];exact hlen
 have hmul:sep.size*(xs.length-1)<=140737488355328:=by omega
 generalize hM:sep.size*(xs.length-1)=M at hjl hmul;have hcast:((xs.length:Int)-1)=((xs.length-1:Nat):Int):=by omega
 have hlt:sep.size<9223372036854775807 / (xs.length-1):=by
  have:sep.size+1<=9223372036854775807 / (xs.length-1):=by
   rw[Nat.le_div_iff_mul_le (by omega),Nat.add_mul,hM];omega
  omega
 have hdv:¬(9223372036854775807 / ((xs.length:Int)-1)<=(sep.size:Int)):=by
  have e:(9223372036854775807:Int) / ((xs.length-1:Nat):Int)=((9223372036854775807 / (xs.length-1):Nat):Int):=IntWalk.up_div (x:=9223372036854775807) rfl rfl;rw[hcast,e];generalize 9223372036854775807 / (xs.length-1)=q at hlt;omega
 have hprod:wrap64 ((sep.size:Int)*((xs.length:Int)-1))=(M:Int):=by
  have e:(sep.size:Int)*((xs.length-1:Nat):Int)=((sep.size*(xs.length-1):Nat):Int):=IntWalk.up_mul rfl rfl;rw[hcast,e,hM];exact IntWalk.wrap64_in _ ⟨by omega,by omega⟩
 have hM0:sep.size=0->M=0:=fun h=>by rw[<- hM,h,Nat.zero_mul]
 clear hlt hcast;have hne0:((xs.length:Int) == 0)=false:=beq_eq_false_iff_ne.2 (by omega);have hne1:((xs.length:Int) == 1)=false:=beq_eq_false_iff_ne.2 (by omega);have Hxs:=hidR hxs;have Hlen:=hidR hlen;clear hxs hlen
 go_enter Tryz.func82,Tryz.ntmps82
 go_wp2_with fail
 all_goals (
  go_loop [5,41] (fun n i=>∃k:Nat,k<=xs.length/\i=.int .i64 k/\n=.int .i64 ((M+Lib.lens ((xs.map (·.data.toList)).take k):Nat):Int)) (fun _ i=>xs.length-(intOf i).toNat)
  case atStart=>exact⟨0,Nat.zero_le _,rfl,by first|(simp[Lib.lens];done)|(have:=hM0 (by omega);simp[Lib.lens,this])⟩
  case round=>
   obtain⟨k,hk,rfl,rfl⟩:=hrel;by_cases hkn:k<xs.length
   ·obtain⟨x,hx⟩:∃x,xs[k]?=some x:=⟨xs[k],Ef hkn⟩
    have hc:=HC.out k x hx;have hstep:=Lib.lens_take_succ (xs.map (·.data.toList)) k x.data.toList (by simp[hx]);have hbound:Lib.lens ((xs.map (·.data.toList)).take (k+1))<=Lib.lens (xs.map (·.data.toList)):=Lib.lens_take_le _ _;rw[<- Lib.size_eq] at hstep;generalize hA1:Lib.lens ((xs.map (·.data.toList)).take (k+1))=A1 at hstep hbound;generalize Lib.lens ((xs.map (·.data.toList)).take k)=A0 at hstep;have HA1:=hidR hA1;clear hA1
    go_wp2
    exact⟨⟨k+1,by omega,by go_num,by rw[HA1.out];refine congrArg _ ?_;omega⟩,by simp[intOf];omega⟩
   ·have hke:k=xs.length:=by omega
    subst hke;have hall:(xs.map (·.data.toList)).take xs.length=xs.map (·.data.toList):=List.take_of_length_le (by simp);rw[hall];generalize hT:Lib.lens (xs.map (·.data.toList))=T at hjl;have HT:=hidR hT;clear hT hall
    go_wp2_with fail
    have hMT:((M:Int)+(T:Int))=((M+T:Nat):Int):=by omega
    rw[hMT];refine(yj w.heap.size w.heap.size (M+T) _ (DU _) (heap_alloc_new w _) (by simp) (by omega)).mono ?_;rintro e w1 ⟨rfl,h1,hb1⟩;have hb1':Below w.heap.size w w1:=((Below.refl w.heap.size w).alloc (DU _) _).trans hb1;have hx0:xs[0]?=some x0:=by rw[Hxs.out];rfl
    have hc0:w1.cell? ⟨bk,o,none⟩=some (.string x0):=by
     rw[hb1'.cell (p:=⟨bk,o,none⟩) hbk];exact HC.out 0 x0 hx0
    have H1:=hidR (Lib.IsBuilderF.of (Or.inr h1:Lib.IsBuilder TB TU w.heap.size w.heap.size [] w1));have Hb1:=hidR hb1';have hBw1:w.heap.size<=w1.heap.size:=hb1'.size;clear h1 hb1 hb1' hMT;have hwhole:Lib.join (xs.map (·.data.toList)) sep.data.toList=x0.data.toList++Lib.joinTail sep.data.toList (r.map (·.data.toList)):=by
     rw[Hxs.out,Ea,Lib.join_cons]
    have hCle:∀k,(x0.data.toList++Lib.joinTail sep.data.toList ((r.map (·.data.toList)).take k)).length<=140737488355328:=fun k=>by
     have h1:=Hlen.out;rw[hwhole,DZ] at h1;have h2:=Lib.joinTail_take_le sep.data.toList (r.map (·.data.toList)) k;rw[DZ];omega
    have HCle:=hidR hCle;have Hwhole:=hidR hwhole;clear hCle hwhole
    go_wp2_with fail
    refine(kD w.heap.size w.heap.size [] x0 w1 H1.out (by have:=HCle.out 0;simp[Lib.joinTail] at this⊢;omega) hBw1).mono ?_;rintro e w2 ⟨rfl,h2',hb2⟩;have hstart:([]:List Value)++Lib.strCells x0=Lib.byteCells (x0.data.toList++Lib.joinTail sep.data.toList ((r.map (·.data.toList)).take 0)):=by
     simp[Lib.joinTail,Lib.strCells_eq]
    rw[hstart] at h2';have H2:=hidR h2';have Hb2:=hidR (Hb1.out.trans hb2);clear h2' hb2 hstart;have hrl:r.length=xs.length-1:=by rw[Hxs.out];simp
    go_wp2_with fail
    go_loopw [65] (fun i wr=>∃k:Nat,k<=r.length/\i=.int .i64 k/\Hid (Lib.IsBuilderF TB TU w.heap.size w.heap.size (Lib.byteCells (x0.data.toList++Lib.joinTail sep.data.toList ((r.map (·.data.toList)).take k))) wr)/\Hid (Below w.heap.size w wr)) (fun i _=>r.length-(intOf i).toNat)
    case atStart=>exact⟨0,Nat.zero_le _,rfl,H2,Hb2⟩
    case round=>
     obtain⟨k,hk',rfl,HB,HW⟩:=hrel;by_cases hkr:k<r.length
     ·obtain⟨y,hy⟩:∃y,r[k]?=some y:=⟨r[k],Ef hkr⟩
      have hxy:xs[k+1]?=some y:=by rw[Hxs.out];simpa using hy
      have hcy:wr.cell? ⟨bk,o+1+k,none⟩=some (.string y):=by
       rw[HW.out.cell (p:=⟨bk,o+1+k,none⟩) hbk,show o+1+k=o+(k+1) by omega];exact HC.out (k+1) y hxy
      have hBw:w.heap.size<=wr.heap.size:=HW.out.size;have hnext:Lib.byteCells (x0.data.toList++Lib.joinTail sep.data.toList ((r.map (·.data.toList)).take k))++Lib.strCells sep++Lib.strCells y=Lib.byteCells (x0.data.toList++Lib.joinTail sep.data.toList ((r.map (·.data.toList)).take (k+1))):=by
       rw[Lib.joinTail_take_succ sep.data.toList (r.map (·.data.toList)) k y.data.toList (by simp[hy]),Lib.strCells_eq,Lib.strCells_eq,<- Lib.byteCells_append,<- Lib.byteCells_append,Ed,Ed,Ed]
      have hl1:=HCle.out (k+1);rw[Lib.joinTail_take_succ sep.data.toList (r.map (·.data.toList)) k y.data.toList (by simp[hy])] at hl1;simp only[DZ,<- Lib.size_eq] at hl1;have hl0:(Lib.byteCells (x0.data.toList++Lib.joinTail sep.data.toList ((r.map (·.data.toList)).take k))).length=x0.size+(Lib.joinTail sep.data.toList ((r.map (·.data.toList)).take k)).length:=by
       rw[Lib.byteCells_length,DZ,<- Lib.size_eq]
      generalize (Lib.joinTail sep.data.toList ((r.map (·.data.toList)).take k)).length=J at hl0 hl1;have Hn:=hidR hnext;clear hnext hy hxy
      go_wp2_with fail
      refine(kD w.heap.size w.heap.size _ sep wr HB.out (by rw[hl0];omega) hBw).mono ?_;rintro e w3 ⟨rfl,h3,hb3⟩;have hBw3:w.heap.size<=w3.heap.size:=Eg hBw hb3.size;have H3:=hidR h3;have Hb3:=hidR hb3;clear h3 hb3
      go_wp2_with fail
      refine(kD w.heap.size w.heap.size _ y w3 H3.out (by rw[DZ,hl0,Lib.strCells_length];omega) hBw3).mono ?_;rintro e w4 ⟨rfl,h4,hb4⟩;rw[Hn.out] at h4;have H4:=hidR h4;have Hb4:=hidR ((HW.out.trans Hb3.out).trans hb4);clear h4 hb4
      go_wp2
      exact⟨⟨k+1,by omega,by go_num,H4,Hb4⟩,by simp[intOf];omega⟩
     ·have hke:k=r.length:=by omega
      subst hke;have hfull:(r.map (·.data.toList)).take r.length=r.map (·.data.toList):=List.take_of_length_le (by simp);have hB':=HB.out;rw[hfull,<- Hwhole.out] at hB';have hBw:w.heap.size<=wr.heap.size:=HW.out.size
      go_wp2_with fail
      refine(Tryz.Builder_String_any_k w.heap.size w.heap.size _ wr hB' hBw).mono ?_;rintro e w5 ⟨rfl,_,hb5,_⟩;have Hb5:=hidR (HW.out.trans hb5);clear hb5 hB'
      go_wp2
      go_ret
      exact⟨rfl,Hb5.out⟩)
theorem uR(sep:Str):∀xs:List Str,Lib.join xs sep=L.sjoinR sep xs
 |[]=>rfl
 |x::r=>by rw[Lib.join_cons];rfl
theorem oQ(s:Str):(mkS s).data.toList=s:=rfl
theorem wu(xs:List Str):(xs.map mkS).map (·.data.toList)=xs:=by
 rw[List.map_map];refine(List.map_congr_left fun a _=>?_).trans (List.map_id xs);exact oQ a
theorem xJ(xs:List Str)(sep:Str)(v:Value)(w:World)(hv:dA w .str xs v)(h1:(L.sjoinR sep xs).length<=140737488355328)(h2:xs.length<=140737488355328) :
  Calls Tryz.prog 82 #[v,.string (mkS sep)] w fun e w'=>e=.returned (.string (mkS (L.sjoinR sep xs)))/\Below w.heap.size w w':=by
 obtain⟨A,c,rfl,hc,hx⟩:=hv
 match xs,hx,hc,h1,h2 with
 |[],_,_,_,_=>exact(yu A c (mkS sep) w).mono fun e w' ⟨h,hw⟩=>⟨h,by rw[hw];exact Below.refl _ _⟩
 |[x],hx,_,_,_=>
  obtain⟨g,o,ds,rfl,hg,hd,hat⟩:=hx 0 x rfl;have hd:ds=[.string (mkS x)]:=hd;subst hd;have:=hat 0 _ rfl;refine(join_one g o c (mkS x) (mkS sep) w (by simpa using this)).mono fun e w' ⟨h,hw⟩=>⟨?_,by rw[hw];exact Below.refl _ _⟩
  rw[h];simp[L.sjoinR]
 |x::y::r,hx,hc,h1,h2=>
  obtain⟨g,o,_,rfl,hg,_,_⟩:=hx 0 x rfl;have hl:((x::y::r).map mkS).length=(x::y::r).length:=Et _;have:=yo g o c ((x::y::r).map mkS) (mkS sep) w (fun j z hz=>by
   rw[Ez] at hz;obtain⟨a,ha,rfl⟩:=Option.map_eq_some_iff.1 hz;obtain⟨g',o',ds,e,_,hd,hat⟩:=hx j a ha;simp only[DL,Addr.mk.injEq,and_true] at e;obtain⟨rfl,rfl⟩:=e;have hd:ds=[.string (mkS a)]:=hd;subst hd;have:=hat 0 _ rfl;simpa[Ty.size] using this) hg (by simp) (by rw[hl];exact h2) (by rw[hl];exact hc) (by rw[wu,oQ,uR];exact h1)
  rw[hl] at this;refine this.mono fun e w' ⟨h,hw⟩=>⟨?_,hw⟩
  rw[h,wu,oQ,uR];rfl
end
end Rv
namespace Rv
open Go Go.RowKit Go.Proofs Go.Lib
noncomputable section
set_option maxRecDepth 1000000
abbrev IEL:TypeId:=70
section
variable(w:World){v:Value}{n:Nat}{xs news:List Value}(hown:w.ownsRow 0 IEL 2 v n xs)(gv cv:Nat)(curv:Array Value)(hgv:w.heap[gv]?=some (.cells curv IEL (0,0)))(hcv:1<=cv)(hcvs:curv.size=cv*2)(hnews:curv.toList.take 2=news)
 (h1x:∀u∈xs,u.oneCell'=true) (h1v:∀u∈news,u.oneCell'=true) (hb:(n+1)*24<=140737488355328)
end
end
end Rv
namespace Rv
open Go Go.RowKit Go.Proofs Go.Lib
noncomputable section
set_option maxRecDepth 1000000
noncomputable abbrev KP:Program:=Tryz.prog
abbrev KSL:TypeId:=22
abbrev KEL:TypeId:=51
theorem BD:∃i,KP.info? KEL=some i/\i.zero=some (.int .u32 0)/\i.size=1/\i.bytes=4:=by
 obtain⟨i,h1,h2,h3,h4⟩:=info_parts (show(KP.info? KEL).map (fun i=>(i.zero,i.size,i.bytes))=some (some (.int .u32 0),1,4) by kernel_rfl);exact⟨i,h1,h2,h3,h4⟩
def Ct(w:World)(n:Nat)(zs:List Value)(e:Ending)(w':World):Prop:=
 ∃v',e=.returned v'/\w'.ownsRow w.heap.size KEL 1 v' n zs/\Below w.heap.size w w'
set_option maxHeartbeats 2000000 in
theorem BG(a:Addr)(n c:Nat)(cs:List Value)(w:World)(hl:cs.length=n)(hbig:n*4<=140737488355328)(hc:∀j u,cs[j]?=some u->w.cell? (a.add j)=some u)(h1:∀u∈cs,u.oneCell'=true) :
  Calls KP 109 #[.slice (some a) n c] w (Ct w n cs):=by
 obtain⟨i0,hi,hz0,hz1,hz2⟩:=BD;have q22:∀(w:World) (a:Option Addr) (n c n' c':Nat),(binOp .eql KSL (.slice a n c) (.slice none n' c')).run KP w=.ok (.bool a.isNone) w:=fun w a n c n' c'=>Lib.run_eql_slice_nil w _ _ a n c n' c' Tryz.underlying22
 have u22:∀w,Sem.run KP (underlying KSL) w=.ok (TypeDesc.slice KEL) w:=run_underlying Tryz.underlying22;have A:Aside (∀j u,cs[j]?=some u->w.cell? (a.add j)=some u):=hc;clear hc
 go_enter Tryz.func109,Tryz.ntmps109
 go_wp2_with (at_builtin;refine wpList_append_own _ rfl _ _ KSL rfl w.heap.size KEL i0 (.int .u32 0) 1 4 Tryz.underlying22 hi hz0 hz1 hz2 rfl (by decide) _ _ _ rfl (World.ownsRow_made w #[] 0 (DU _) (Nat.zero_le _) rfl) a n c cs rfl ?qc1 ?qc2 ?qc3 ?qc4 ?qc5 ?qc6 ?_)
 case qc1=>omega
 case qc2=>
  intro j u hj;exact Lib.cell?_alloc_some _ (A.out j u hj)
 case qc3=>exact h1
 case qc4=>unfold maxLen;omega
 case qc5=>omega
 case qc6=>simp
 intro v' w1 hown hgrow hnil
 go_wp2
 go_ret
 refine⟨v',rfl,by simpa using hown,?_⟩;exact((Below.refl _ w).alloc (DU _) _).grown hgrow (by simp) (by intro k hk;simp[Value.ownBlock] at hk;omega)
set_option maxHeartbeats 1000000 in
theorem BF(n c:Nat)(w:World):Calls KP 109 #[.slice none n c] w fun e w'=>e=.returned (.slice none 0 0)/\w'=w:=by
 have q22:∀(w:World) (a:Option Addr) (n c n' c':Nat),(binOp .eql KSL (.slice a n c) (.slice none n' c')).run KP w=.ok (.bool a.isNone) w:=fun w a n c n' c'=>Lib.run_eql_slice_nil w _ _ a n c n' c' Tryz.underlying22
 go_enter Tryz.func109,Tryz.ntmps109
 go_wp2
 go_ret
 exact⟨rfl,rfl⟩
abbrev kTU:Ty:=.int .u32
abbrev kuC(x:Int):Value:=.int .u32 x
theorem CK{w:World}{ok:Nat->Prop}{xs:List Int}{cur:List Value}(h:cur.take xs.length=xs.map kuC):aR w ok kTU xs cur:=by
 intro j x hj;have hl:j<xs.length:=(DY.1 hj).1;have hx:xs[j]=x:=(DY.1 hj).2;show(cur.drop (j*1)).take 1=[kuC x]
 have h1:(cur.drop (j*1)).take 1=((cur.take xs.length).drop j).take 1:=by
  rw[List.drop_take,List.take_take,Nat.min_eq_left (by omega),Nat.mul_one]
 rw[h1,h,<- List.map_drop,List.drop_eq_getElem_cons hl,hx];rfl
noncomputable def qA:Spec:=⟨⟨[(0,.c (.sl kTU))],[]⟩,⟨[(0,.c (.row KEL kTU))],[]⟩,fun x=>L.cloneO x.1⟩
set_option maxHeartbeats 1000000 in
theorem Cz{W:World->Prop}:Sat KP W 109 qA:=by
 rintro⟨xs,u⟩ y hy C γ vals hCL hCn R;have hCn:C.nl=0:=hCn;have hy:L.cloneO xs=some y:=hy;unfold L.cloneO at hy;split at hy
 case isFalse=>cases hy
 case isTrue hbig=>
 obtain rfl:=DN hy;have hsz:vals.size=1:=R.size;have s0:aj C γ _ C.w0 (.sl none kTU xs) (vals.getD 0 undef):=R.slot 0 (.v (.c (.sl none kTU xs))) rfl;obtain⟨_,A,c,hv0,hcap,hx⟩:=s0;have hv:vals=#[.slice A xs.length c]:=by
  rw[<- hv0];apply Array.ext';obtain⟨l⟩:=vals
  match l,hsz with
  |[a],_=>rfl
 have hfin:∀(w':World) (v':Value),w'.ownsRow C.w0.heap.size KEL 1 v' xs.length (xs.map kuC)->Below C.w0.heap.size C.w0 w' ->
   ∃(γ':Gam) (rs:Array Value),Ending.returned v'=.returned (if h:rs.size=1 then rs[0] else .tuple rs)/\Rel C γ' w' (qA.r.mk' nmJ qA.r.slots.length (xs,())) rs:=by
  intro w' v' hown hb;have hfr:∀g,g<C.w0.heap.size->w'.heap[g]?=C.w0.heap[g]?:=fun g hg=>hb.block g hg
  obtain⟨γ0,hOwn,hBox⟩:∃γ0:Option (Nat×Nat),dz γ0 xs.length v'/\((γ0=none/\xs=[])\/∃g c cur,γ0=some (g,c)/\C.w0.heap.size<=g/\w'.heap[g]?=some (.cells cur KEL (0,0))/\xs.length<=c/\c<=maxLen/\cur.size=c*1/\cur.toList.take (xs.length*1)=xs.map kuC):=by
   rcases hown.2 with⟨h1,h2⟩|⟨g,cap,cur,h1,h2,h3,h4,h5,h6,h7⟩;·exact⟨none,⟨h2,h1⟩,.inl ⟨rfl,List.eq_nil_of_length_eq_zero h2⟩⟩
   ·exact⟨some (g,cap),h1,.inr ⟨g,cap,cur,rfl,h2,h3,h4,h5,h6,h7⟩⟩
  refine⟨fun j=>if j=15 then γ0 else none,#[v'],rfl,rfl,?_,?_⟩
  ·intro j v hj
   match j,hj with
   |0,hj=>
    obtain rfl:=DN hj;have h1:v'.oneCell'=true:=by
     cases γ0 with
     |none=>rw[hOwn.2];rfl
     |some p=>rw[show v'=_ from hOwn];rfl
    exact⟨h1,_,rfl,DU _,fun _ n hn=>by
     have hn:some xs.length=some n:=hn;obtain rfl:=DN hn;exact hOwn⟩
   |j+1,hj=>cases hj
  ·have hh:∀j e,(qA.r.mk' nmJ qA.r.slots.length (xs,())).h j=some e->j=15/\e=⟨0,0,.row KEL kTU xs⟩:=fun j e hj=>by
    have hj:(if 15=j then some (⟨0,0,.row KEL kTU xs⟩:En) else none)=some e:=by
     have:(if j=15 then some (⟨0,0,.row KEL kTU xs⟩:En) else none)=some e:=hj;rw[<- this];congr 1;exact propext eq_comm
    split at hj;·rename_i h;exact⟨h.symm,(DN hj).symm⟩
    ·cases hj
   exact {
    box:=fun j e hj=>by
     obtain⟨rfl,rfl⟩:=hh j e hj;rcases hBox with⟨h1,h2⟩|⟨g,c,cur,h1,h2,h3,h4,h5,h6,h7⟩;·exact .inl ⟨h1,h2⟩
     ·exact .inr ⟨g,c,cur,h1,h3,h4,h5,h6,by decide,CK (by rwa [Nat.mul_one] at h7)⟩
    inj:=fun a b e e' g c d ha _ hb _ _ _=>by rw[(hh a e ha).1,(hh b e' hb).1]
    own:=fun a e g c ha _ hγ=>by
     obtain⟨rfl,rfl⟩:=hh a e ha;have hγ:γ0=some (g,c):=hγ;rcases hBox with⟨h1,h2⟩|⟨g',c',cur,h1,h2,_⟩;·rw[h1] at hγ;cases hγ
     ·rw[h1] at hγ;cases hγ;exact R.inv.new g h2
    frame:=fun g hg _=>hfr g hg
    size:=hb.size
    os:=hb.os
    tape:=hb.tape
    output:=hb.output
    new:=R.inv.new
    rd:=R.inv.rd
    laid:=R.inv.stable C.w0 w' R.inv.laid fun g hno=>by
     by_cases hlt:g<C.w0.heap.size;·exact hfr g hlt
     ·exact absurd (R.inv.new g (by omega)) hno
    stable:=R.inv.stable
    lent:=fun j hj=>by omega }
 rw[hv];cases A with
 |none=>
  have hnil:xs=[]:=by
   cases xs with
   |nil=>rfl
   |cons x r=>obtain⟨g,o,ds,h,_⟩:=hx 0 x rfl;cases h
  subst hnil;refine(BF _ c C.w0).mono ?_;rintro e w' ⟨rfl,rfl⟩;exact hfin _ _ ⟨rfl,.inl ⟨rfl,rfl⟩⟩ (Below.refl _ _)
 |some a=>
  refine(BG a xs.length c (xs.map kuC) C.w0 (by simp) hbig (fun j u hj=>?_) (fun u hu=>by obtain⟨x,_,rfl⟩:=Eb.1 hu;rfl)).mono ?_
  ·rw[Ez] at hj;cases hxj:xs[j]? with
   |none=>rw[hxj] at hj;cases hj
   |some x=>
    rw[hxj] at hj;obtain rfl:=DN hj;obtain⟨g,o,ds,h,_,_,hrd,hcell⟩:=hx j x hxj;cases h;have hds:ds=[kuC x]:=hrd;have:=hcell 0 (kuC x) (by rw[hds];rfl);rw[show o+j*kTU.size+0=o+j by rw[show kTU.size=1 from rfl,Nat.mul_one,Nat.add_zero]] at this;rw[eB];exact this
  ·rintro e w' ⟨v',rfl,hown,hb⟩;exact hfin w' v' hown hb
end
end Rv
namespace Rv
open Go Go.RowKit
theorem dA.one{w:World}{t:Ty}{xs:List t.D}{v:Value}(h:dA w t xs v):v.oneCell'=true:=by
 obtain⟨A,c,rfl,_⟩:=h;rfl
theorem dA.rep{w:World}{L:World->Prop}{t:Ty}{xs:List t.D}{v:Value}(h:dA w t xs v):aj (top w L) (fun _=>none) (Heap.ofList []) w (.sl none t xs) v:=by
 refine⟨h.one,?_⟩;obtain⟨A,c,hv,hc,hx⟩:=h;refine⟨A,c,hv,hc,fun i x hi=>?_⟩;obtain⟨g,o,ds,h1,h2,h3,h4⟩:=hx i x hi;exact⟨g,o,ds,h1,⟨trivial,fun k e c hk=>by cases hk⟩,h2,h3.mono (DU _) (fun g _ _=>⟨rfl,trivial,fun k e c hk=>by cases hk⟩),h4⟩
theorem dA.of{C:Ctx}{γ:Gam}{h:Heap}{w:World}{t:Ty}{xs:List t.D}{v:Value}(hr:aj C γ h w (.sl none t xs) v):dA w t xs v:=by
 obtain⟨_,A,c,hv,hc,hx⟩:=hr;refine⟨A,c,hv,hc,fun i y hy=>?_⟩;obtain⟨g,o,ds,h3,_,h5,h6,h7⟩:=hx i y hy;exact⟨g,o,ds,h3,h5,h6.mono (DU _) (fun _ _ _=>⟨rfl,trivial⟩),h7⟩
theorem dA.later{w w':World}{t:Ty}{xs:List t.D}{v:Value}(h:dA w t xs v)(hs:w.heap.size<=w'.heap.size)(hb:∀g,g<w.heap.size->w'.heap[g]?=w.heap[g]?):dA w' t xs v:=by
 obtain⟨A,c,hv,hc,hx⟩:=h;refine⟨A,c,hv,hc,fun i x hi=>?_⟩;obtain⟨g,o,ds,h1,h2,h3,h4⟩:=hx i x hi;exact⟨g,o,ds,h1,Es h2 hs,h3.mono hs (fun g _ hg=>⟨hb g hg,trivial⟩),fun j u hj=>(World.cell?_of_block (hb g h2)).trans (h4 j u hj)⟩
section
variable{P:Program}{L:World->Prop}{w:World}
def dw(L:World->Prop)(n:Nat):Prop:=∀a b:World,L a->(∀g,g<n->b.heap[g]?=a.heap[g]?)->L b
theorem dw.later{n m:Nat}(h:dw L n)(hm:n<=m):dw L m:=fun a b ha hb=>h a b ha fun g hg=>hb g (Es hg hm)
theorem kC{st:St}{args:Array Value}(hh:st.h=Heap.ofList [])(hsz:args.size=st.s.length)(hs:∀i v,st.s[i]?=some v->aO (top w L) (fun _=>none) (Heap.ofList []) w v (args.getD i undef))(hL:L w)(hst:dw L w.heap.size) :
  Rel (top w L) (fun _=>none) w st args:=⟨hsz,by rw[hh];exact hs,by rw[hh];exact wE hL hst⟩
theorem iG{γ:Gam}{w':World}{st:St}{rs:Array Value}(R:Rel (top w L) γ w' st rs):Below w.heap.size w w':=
 ⟨R.inv.os,R.inv.tape,R.inv.output,R.inv.size,fun k hk=>R.inv.frame k hk (by show ¬w.heap.size<=k;omega)⟩
abbrev oTU:Ty:=.int .u32
abbrev oTI:Ty:=.int .i64
abbrev oTS:Ty:=.pair .str (.pair (.int .i64) .nil)
abbrev oC:List CD:=[.sl oTU,.sl oTI,.sl oTS]
abbrev oOT:=List Int
abbrev oOY:=List (List UInt8×Int×Unit)
def bC(w:World)(ws ss:oOT)(ys:oOY)(v:Value):Prop:=∃v1 v2 v3,v=.agg #[v1,v2,v3]/\dA w oTU ws v1/\dA w oTI ss v2/\dA w oTS ys v3
theorem bC.later{w':World}{ws ss:oOT}{ys:oOY}{v:Value}(h:bC w ws ss ys v)(hs:w.heap.size<=w'.heap.size)(hb:∀g,g<w.heap.size->w'.heap[g]?=w.heap[g]?):bC w' ws ss ys v:=by
 obtain⟨v1,v2,v3,rfl,h1,h2,h3⟩:=h;exact⟨v1,v2,v3,rfl,h1.later hs hb,h2.later hs hb,h3.later hs hb⟩
theorem bC.rep{ws ss:oOT}{ys:oOY}{v:Value}(h:bC w ws ss ys v):aO (top w L) (fun _=>none) (Heap.ofList []) w (.v (.agg [.sl none oTU ws,.sl none oTI ss,.sl none oTS ys])) v:=by
 obtain⟨v1,v2,v3,rfl,h1,h2,h3⟩:=h;exact⟨[v1,v2,v3],rfl,h1.rep,h2.rep,h3.rep,trivial⟩
theorem bC.of{C:Ctx}{γ:Gam}{h:Heap}{ws ss:oOT}{ys:oOY}{v:Value}(hr:aO C γ h w (.v (.agg [.sl none oTU ws,.sl none oTI ss,.sl none oTS ys])) v):bC w ws ss ys v:=by
 obtain⟨vs,rfl,ha⟩:=hr
 match vs,ha with
 |[v1,v2,v3],⟨h1,h2,h3,_⟩=>exact⟨v1,v2,v3,rfl,dA.of h1,dA.of h2,dA.of h3⟩
theorem iC{f:FuncId}{g:oOT->oOT->oOY->Option (Int×Unit)}(hs:Sat P L f (ak ⟨[(0,.agg oC)],[]⟩ ⟨[(0,Si)],[]⟩ g)){ws ss:oOT}{ys:oOY}{y:Int}(hg:g ws ss ys=some (y,())){v:Value}(hv:bC w ws ss ys v)(hL:L w)(hst:dw L w.heap.size) :
  Calls P f #[v] w fun e w'=>e=.returned (.int .i64 y)/\Below w.heap.size w w':=by
 have R:Rel (top w L) (fun _=>none) (top w L).w0 ((⟨[(0,.agg oC)],[]⟩:Shape).mk' nmJ 1 (ws,ss,ys,())) #[v]:=by
  refine kC rfl rfl (fun i x hi=>?_) hL hst
  match i,hi with
  |0,hi=>obtain rfl:=DN hi;exact hv.rep
  |i+1,hi=>cases hi
 refine(hs (ws,ss,ys,()) (y,()) hg (top w L) (fun _=>none) #[v] rfl rfl R).mono fun e w' ⟨γ',rs,he,R'⟩=>?_
 have h0:rs.getD 0 undef=.int .i64 y:=R'.slot 0 (.v (.c (.int .i64 y))) rfl;have hsz:rs.size=1:=R'.size;have hrs:rs=#[.int .i64 y]:=by
  match rs,hsz,h0 with
  |⟨[v]⟩,_,h0=>simp at h0;rw[h0]
 subst hrs;exact⟨he,iG R'⟩
theorem wU{f:FuncId}{g:oOT->oOT->oOY->Int->Option (Int×Bool×Unit)}(hs:Sat P L f (ak ⟨[(0,.agg oC),(1,Si)],[]⟩ ⟨[(0,Si),(1,SB)],[]⟩ g)){ws ss:oOT}{ys:oOY}{i y:Int}{b:Bool}(hg:g ws ss ys i=some (y,b,())){v:Value}(hv:bC w ws ss ys v)(hL:L w)(hst:dw L w.heap.size) :
  Calls P f #[v,.int .i64 i] w fun e w'=>e=.returned (.tuple #[.int .i64 y,.bool b])/\Below w.heap.size w w':=by
 have R:Rel (top w L) (fun _=>none) (top w L).w0 ((⟨[(0,.agg oC),(1,Si)],[]⟩:Shape).mk' nmJ 2 (ws,ss,ys,i,())) #[v,.int .i64 i]:=by
  refine kC rfl rfl (fun j x hj=>?_) hL hst
  match j,hj with
  |0,hj=>obtain rfl:=DN hj;exact hv.rep
  |1,hj=>obtain rfl:=DN hj;exact rfl
  |j+2,hj=>cases hj
 refine(hs (ws,ss,ys,i,()) (y,b,()) hg (top w L) (fun _=>none) #[v,.int .i64 i] rfl rfl R).mono fun e w' ⟨γ',rs,he,R'⟩=>?_
 have h0:rs.getD 0 undef=.int .i64 y:=R'.slot 0 (.v (.c (.int .i64 y))) rfl;have h1:rs.getD 1 undef=.bool b:=R'.slot 1 (.v (.c (.bool b))) rfl;have hsz:rs.size=2:=R'.size;have hrs:rs=#[.int .i64 y,.bool b]:=by
  match rs,hsz,h0,h1 with
  |⟨[u,v]⟩,_,h0,h1=>simp at h0 h1;rw[h0,h1]
 subst hrs;exact⟨he,iG R'⟩
end
end Rv
namespace Rv
open Go Go.RowKit
abbrev nV(k:IntKind)(x:Int):Value:=.int k x
theorem Ar{w:World}{ok:Nat->Prop}{k:IntKind}{xs:List Int}{cur:List Value}(h:cur.take xs.length=xs.map (nV k)):aR w ok (.int k) xs cur:=by
 intro j x hj;have hl:j<xs.length:=(DY.1 hj).1;have hx:xs[j]=x:=(DY.1 hj).2;show(cur.drop (j*1)).take 1=[nV k x]
 have h1:(cur.drop (j*1)).take 1=((cur.take xs.length).drop j).take 1:=by
  rw[List.drop_take,List.take_take,Nat.min_eq_left (by omega),Nat.mul_one]
 rw[h1,h,<- List.map_drop,List.drop_eq_getElem_cons hl,hx];rfl
def fT(w0 w':World)(e:TypeId)(k:IntKind)(xs:List Int)(v:Value)(γ:Option (Nat×Nat)):Prop:=
 dz γ xs.length v/\((γ=none/\xs=[])\/∃g c cur,γ=some (g,c)/\w0.heap.size<=g/\w'.heap[g]?=some (.cells cur e (0,0))/\xs.length<=c/\c<=maxLen/\cur.size=c*1/\cur.toList.take xs.length=xs.map (nV k))
theorem fT.of{w0 w':World}{e:TypeId}{k:IntKind}{xs:List Int}{v:Value}(h:w'.ownsRow w0.heap.size e 1 v xs.length (xs.map (nV k))):∃γ,fT w0 w' e k xs v γ:=by
 rcases h.2 with⟨h1,h2⟩|⟨g,cap,cur,h1,h2,h3,h4,h5,h6,h7⟩;·exact⟨none,⟨h2,h1⟩,.inl ⟨rfl,List.eq_nil_of_length_eq_zero h2⟩⟩
 ·exact⟨some (g,cap),h1,.inr ⟨g,cap,cur,rfl,h2,h3,h4,h5,h6,by rwa [Nat.mul_one] at h7⟩⟩
theorem fT.nil(w0 w':World)(e:TypeId)(k:IntKind):fT w0 w' e k [] (.slice none 0 0) none:=⟨⟨rfl,rfl⟩,.inl ⟨rfl,rfl⟩⟩
theorem fT.one{w0 w':World}{e:TypeId}{k:IntKind}{xs:List Int}{v:Value}{γ:Option (Nat×Nat)}(h:fT w0 w' e k xs v γ):v.oneCell'=true:=by
 have:=h.1;cases γ with
 |none=>rw[this.2];rfl
 |some p=>rw[show v=_ from this];rfl
section
variable{C:Ctx}{γ0:Gam}{h0:Heap}{w':World}
theorem Cb(I:Inv C γ0 h0 C.w0)(hn:C.nl=0)(hb:Below C.w0.heap.size C.w0 w'){γ:Gam}{h:Heap}
  (hh:∀j e,h j=some e->∃ek k xs v,e=⟨0,0,.row ek (.int k) xs⟩/\fT C.w0 w' ek k xs v (γ j)) (hi:∀a b g c d,(h a).isSome=true->(h b).isSome=true->γ a=some (g,c)->γ b=some (g,d)->a=b):Inv C γ h w':=by
 have hfr:∀g,g<C.w0.heap.size->w'.heap[g]?=C.w0.heap[g]?:=fun g hg=>hb.block g hg
 exact {
  box:=fun j e hj=>by
   obtain⟨ek,k,xs,v,rfl,_,hx⟩:=hh j e hj;rcases hx with⟨h1,h2⟩|⟨g,c,cur,h1,h2,h3,h4,h5,h6,h7⟩;·exact .inl ⟨h1,h2⟩
   ·exact .inr ⟨g,c,cur,h1,h3,h4,h5,h6,Nat.zero_lt_one,Ar h7⟩
  inj:=fun a b e e' g c d ha _ hb' _ h1 h2=>hi a b g c d (by rw[ha];rfl) (by rw[hb'];rfl) h1 h2
  own:=fun a e g c ha _ hγ=>by
   obtain⟨ek,k,xs,v,rfl,_,hx⟩:=hh a e ha;rcases hx with⟨h1,h2⟩|⟨g',c',cur,h1,h2,_⟩;·rw[h1] at hγ;cases hγ
   ·rw[h1] at hγ;cases hγ;exact I.new g h2
  frame:=fun g hg _=>hfr g hg
  size:=hb.size
  os:=hb.os
  tape:=hb.tape
  output:=hb.output
  new:=I.new
  rd:=I.rd
  laid:=I.stable C.w0 w' I.laid fun g hno=>by
   by_cases hlt:g<C.w0.heap.size;·exact hfr g hlt
   ·exact absurd (I.new g (by omega)) hno
  stable:=I.stable
  lent:=fun j hj=>by omega }
theorem uM(I:Inv C γ0 h0 C.w0)(hn:C.nl=0)(hb:Below C.w0.heap.size C.w0 w'){ek:TypeId}{k:IntKind}{xs:List Int}{y:Int}{v:Value}{γ:Option (Nat×Nat)}(h:fT C.w0 w' ek k xs v γ) :
  ∃(γ':Gam) (rs:Array Value),Ending.returned (.tuple #[v,.int .i64 y])=.returned (if h:rs.size=1 then rs[0] else .tuple rs)/\Rel C γ' w' ((⟨[(0,.c (.row ek (.int k))),(1,Si)],[]⟩:Shape).mk' nmJ 2 (xs,y,())) rs:=by
 refine⟨fun j=>if j=15 then γ else none,#[v,.int .i64 y],rfl,rfl,?_,?_⟩
 ·intro j u hj
  match j,hj with
  |0,hj=>
   obtain rfl:=DN hj;exact⟨h.one,_,rfl,DU _,fun _ n hn=>by
    have hn:some xs.length=some n:=hn;obtain rfl:=DN hn;exact h.1⟩
  |1,hj=>obtain rfl:=DN hj;exact rfl
  |j+2,hj=>cases hj
 ·refine Cb I hn hb (fun j e hj=>?_) (fun a b g c d ha hb' h1 h2=>?_)
  ·have hj:(if j=15 then some (⟨0,0,.row ek (.int k) xs⟩:En) else none)=some e:=hj;split at hj
   ·rename_i hj';subst hj';exact⟨ek,k,xs,v,(DN hj).symm,h⟩
   ·cases hj
  ·split at h1
   ·split at h2
    ·omega
    ·cases h2
   ·cases h1
end
end Rv
namespace Rv
open Go Go.RowKit Go.Proofs Go.Lib
noncomputable section
set_option maxRecDepth 1000000
noncomputable abbrev QP:Program:=Tryz.prog
section
variable{L:World->Prop}{nm:List UInt8->Option (Bool×Unit)}(hs:Sat QP L 68 (ak ⟨[(0,Ss)],[]⟩ ⟨[(0,SB)],[]⟩ nm)){s:List UInt8}{w:World}(hL:L w)(hst:dw L w.heap.size)
end
end
end Rv
