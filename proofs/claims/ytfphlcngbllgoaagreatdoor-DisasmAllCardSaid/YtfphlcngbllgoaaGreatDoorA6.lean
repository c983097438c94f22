/- Texts put together. -/
import Derived.Test.YtfphlcngbllgoaaGreatDoorA5
import Derived.Maps.RangeWalk
import Derived.Maps.Ext
import Derived.Shelf.Strings.SlTrimAscii
import Derived.Laws.EntriesVeiled
import Derived.WideMake
import Derived.Lib.Join
import Derived.Shelf.Spec.SlicesInsert
import Derived.Lib.AppendZerosOnto
set_option linter.all false
open Option renaming some→O,none→U
open Go renaming World→Y,Value→N,TypeId→zac
open Bool renaming true→Z,false→F
open _root_ renaming Nat→G,List→E,Option→zad,Bool→zaf,if_pos→zah,if_neg→zai,congrArg→zaj,Unit→zak
open Go.IntKind renaming i64→zaa
open Decidable renaming decide→zae
noncomputable section
namespace Rv
open Go Go.RowKit Go.Proofs
noncomputable section
set_option maxRecDepth 1000000
set_option maxHeartbeats 4000000 in
theorem FZ(B b n:G)(w:Y)(hB:B<=b)(hbk:w.heap[b]?=O (.cells #[.pointer U,.slice U 0 0] 183 (0,0)))(hBw:B<=w.heap.size)(hn:n<=281474976710656) :
  Calls Tryz.prog 129 #[.pointer (O ⟨b,0,U⟩),.int .i64 n] w λe w'=>e=.returned (.tuple #[])/\(Lib.BuilderAt 183 5 B b (.pointer (O ⟨b,0,U⟩)) [] w'/\Below B w w'):=by
 have hbk1:(w.setCell ⟨b,0,U⟩ (.pointer (O ⟨b,0,U⟩))).heap[b]?=O (.cells #[.pointer (O ⟨b,0,U⟩),.slice U 0 0] 183 (0,0)):=by
  simp[World.setCell,Array.getElem?_modify,hbk]
 have c1:(w.setCell ⟨b,0,U⟩ (.pointer (O ⟨b,0,U⟩))).cell? ⟨b,1,U⟩=O (.slice U 0 0):=by rw[Lib.cell_of_heap hbk1];rfl
 have hb1:Below B w (w.setCell ⟨b,0,U⟩ (.pointer (O ⟨b,0,U⟩))):=(Below.refl B w).setCell (p:=⟨b,0,U⟩) hB _;have hU:Lib.BuilderAt 183 5 B b (.pointer (O ⟨b,0,U⟩)) [] (w.setCell ⟨b,0,U⟩ (.pointer (O ⟨b,0,U⟩))):=⟨hB,.slice U 0 0,hbk1,World.ownsRow_nil _ _ _ _,by simp[Value.ownBlock]⟩
 have c1':(w.setCell ⟨b,0,U⟩ (.pointer (O ⟨b,0,U⟩))).drew.cell? ⟨b,1,U⟩=O (.slice U 0 0):=c1;have mixed:Tryz.prog.follows .mixedOrders=Z:=by kernel_rfl
 go_enter Tryz.func129,Tryz.ntmps129
 go_wp2_with (go_at_call 187;refine(ma b w (by rw[Lib.cell_of_heap hbk];rfl) (by simp[World.shape?,hbk]) (Lib.frozen_of_heap hbk 0)).mono ?_;rintro e w' ⟨rfl,rfl⟩)
 go_region_o
 all_goals go_wp2_with (go_at_call 188;refine(Tryz.Builder_grow_fresh B b n (w.setCell ⟨b,0,U⟩ (.pointer (O ⟨b,0,U⟩))).drew hB hbk1 (by simpa[World.setCell,World.drew,-World.drew_eq] using hBw) hn).mono ?_;rintro e w' ⟨rfl,h1,h2⟩)
 all_goals first
  |(go_end0;exact⟨rfl,h1,hb1.drew.trans h2⟩)
  |(go_end0;exact⟨rfl,hU.drew,hb1.drew⟩)
theorem hidR{p:Prop}(h:p):Hid p:=h
abbrev TB:zac:=183
abbrev TU:zac:=5
theorem ol(B b:G)(bs:E N)(s:ByteArray)(w:Y)(h:Lib.IsBuilderF 183 5 B b bs w)(hlen:bs.length+s.size<=140737488355328)(hBw:B<=w.heap.size) :
  Calls Tryz.prog 130 #[.pointer (O ⟨b,0,U⟩),.string s] w λe w'=>e=.returned (.tuple #[.int .i64 s.size,.nilIface])/\(Lib.IsBuilderF 183 5 B b (bs++Lib.strCells s) w'/\Below B w w'):=
 (yM B b bs s w h hlen hBw).mono λe w' ⟨h1,h2,h3,_⟩=>⟨h1,Or.inr h2,h3⟩
set_option maxHeartbeats 16000000 in
theorem AA(s old new:ByteArray)(m:Int)(w:Y)(hs:s.size<4294967281)(hm:w.cell? ⟨0,0,U⟩=O (.int .i64 m))(h1:1<=old.size)(hne:old≠new)(hc0:Lib.countB s old≠0)
  (hlen:s.size+Lib.countB s old*new.size<=140737488355328) :
  Calls Tryz.prog 279 #[.string s,.string old,.string new,.int .i64 (-1)] w λe w'=>
   e=.returned (.string ⟨(Lib.replaceK old.data.toList new.data.toList (Lib.replaceNum s.data.toList old.data.toList (-1)) s.data.toList).toArray⟩)/\Below w.heap.size w w':=by
 have hC:=Tryz.strings_Count_any s old m w hs hm h1;have hmul:=Lib.countB_mul_le old h1 s.size s (NL _);obtain⟨K,hK⟩:∃K:G,Lib.replaceNum s.data.toList old.data.toList (-1)=K:=⟨_,rfl⟩
 rw[hK];obtain⟨cn,hcn⟩:∃cn:G,Lib.countB s old=cn:=⟨_,rfl⟩
 rw[hcn] at hC hlen hc0 hmul;have hcn':Lib.count s.data.toList old.data.toList=cn:=hcn;have hbeq:(old.toList == new.toList)=F:=(Lib.bytes_beq_false_iff old new).2 hne;have hcz:((cn:Int) == 0)=F:=beq_eq_false_iff_ne.2 (by omega);have ho0:(0:Int)<(old.size:Int):=by omega
 have hlenL:s.data.toList.length=s.size:=(Lib.size_eq s).symm;have hlenO:old.data.toList.length=old.size:=(Lib.size_eq old).symm;have hgl:0<w.heap.size:=World.block_lt_of_cell? _ _ hm;obtain rfl:K=cn:=by
  unfold Lib.replaceNum at hK;rw[hcn',zah (Or.inl (by decide))] at hK;exact hK.symm
 have hK1:1<=K:=by omega
 have hKo:K*old.size<=s.size:=hmul;have hKs:K<=s.size:=Og (Nat.le_mul_of_pos_right K (by omega)) hKo;have hga:=Lib.grow_arg s.size K new.size old.size hK1 hKo hlen;have hKcount:K<=Lib.count (s.data.toList.drop 0) old.data.toList:=by rw[Om,hcn'];exact NL _
 clear hK hcn hcn' hmul;have hod:zae (0<old.size)=Z:=decide_eq_true (by omega)
 go_enter Tryz.func279,Tryz.ntmps279
 go_wp2_with (first|(go_at_call 145;refine hC.mono ?_;rintro e w' ⟨rfl,hw⟩;rw[hw])|(go_at_call 129;try rw[hga];refine(FZ w.heap.size w.heap.size _ _ (NL _) (heap_alloc_new w _) (by simp) (by omega)).mono ?_))
 rintro e w1 ⟨rfl,hb0,hb1⟩;clear hC;have H1:=hidR (Lib.IsBuilderF.of (Or.inr hb0:Lib.IsBuilder TB TU w.heap.size w.heap.size (Lib.byteCells []) w1));have Hb1:=hidR (((Below.refl w.heap.size w).alloc (NL _) _).trans hb1);clear hb0 hb1 hga
 go_wp2_with fail
 go_loopg [11,53] K (λg s11 s53 wx=>∃(i start:G) (acc:E UInt8),s53=.int .i64 i/\s11=.int .i64 start/\i+g=K/\start<=s.size /\
  Hid (Lib.IsBuilderF TB TU w.heap.size w.heap.size (Lib.byteCells acc) wx)/\Hid (Below w.heap.size w wx)/\Hid (acc++Lib.replaceK old.data.toList new.data.toList g (s.data.toList.drop start)=Lib.replaceK old.data.toList new.data.toList K s.data.toList) /\
  g<=Lib.count (s.data.toList.drop start) old.data.toList/\acc.length+(s.size-start)+g*new.size<=s.size+K*new.size)
 case atStart=>exact⟨0,0,[],rfl,rfl,by omega,Nat.zero_le _,H1,Hb1,hidR (by simp),hKcount,by simp⟩
 case round=>
  obtain⟨i,start,acc,rfl,rfl,hig,hst,HB,HW,HR,hgc,hbd⟩:=hrel;have hBw:w.heap.size<=wr.heap.size:=HW.out.size;have c1:(0:Int)<=(start:Int):=by omega
  have c2:(start:Int)<=(s.size:Int):=by omega
  cases gk with
  |zero=>
   have hiK:¬((i:Int)<(K:Int)):=by omega
   go_wp2_with fail
   refine(ol w.heap.size w.heap.size _ _ wr HB.out (by rw[Lib.byteCells_length,ByteArray.size_extract];omega) hBw).mono ?_;rintro e w3 ⟨rfl,h3,hb3⟩;rw[Lib.strCells_eq,Lib.extract_to_end,<- Lib.byteCells_append] at h3;have hfin:acc++s.data.toList.drop start=Lib.replaceK old.data.toList new.data.toList K s.data.toList:=HR.out;rw[hfin] at h3;have H3:=hidR h3;have Hb3:=hidR (HW.out.trans hb3);have hBw3:w.heap.size<=w3.heap.size:=Hb3.out.size;clear h3 hb3 hfin
   go_wp2_with fail
   refine(Tryz.Builder_String_any_k w.heap.size w.heap.size _ w3 H3.out hBw3).mono ?_;rintro e w5 ⟨rfl,_,hb5,_⟩;have Hb5:=hidR (Hb3.out.trans hb5);clear hb5
   go_wp2
   go_ret
   exact⟨rfl,Hb5.out⟩
  |succ g=>
   have hiK:(i:Int)<(K:Int):=by omega
   obtain⟨j,hj⟩:=Lib.index_of_count (s:=s.data.toList.drop start) (old:=old.data.toList) (by omega);have hroom:j+old.size<=s.size-start:=by
    have:=Lib.index_room (s.data.toList.drop start) old.data.toList (by rw[hj];omega);rw[hj,List.length_drop,hlenL,hlenO] at this;omega
   have hmr:wr.cell? ⟨0,0,U⟩=O (.int .i64 m):=by rw[HW.out.cell (p:=⟨0,0,U⟩) hgl];exact hm
   have hsucc:(g+1)*new.size=g*new.size+new.size:=Nat.succ_mul _ _;have c3:(start:Int)<=(start:Int)+(j:Int):=by omega
   have c4:(start:Int)+(j:Int)<=(s.size:Int):=by omega
   have hnext:Lib.byteCells acc++Lib.strCells (s.extract start (start+j))++Lib.strCells new=Lib.byteCells (acc++(s.data.toList.drop start).take j++new.data.toList):=by
    rw[Lib.strCells_eq,Lib.strCells_eq,Lib.extract_data,Nat.add_sub_cancel_left,<- Lib.byteCells_append,<- Lib.byteCells_append]
   have hrep:(acc++(s.data.toList.drop start).take j++new.data.toList)++Lib.replaceK old.data.toList new.data.toList g (s.data.toList.drop (start+j+old.size))=Lib.replaceK old.data.toList new.data.toList K s.data.toList:=by
    rw[<- HR.out,Lib.replaceK_hit _ _ g _ j hj,List.drop_drop,hlenO];simp only[NW,OE]
   have hcnt:g<=Lib.count (s.data.toList.drop (start+j+old.size)) old.data.toList:=by
    have:=Lib.count_hit (s:=s.data.toList.drop start) (sub:=old.data.toList) (i:=j) (λe=>by rw[e] at hlenO;simp at hlenO;omega) hj;rw[List.drop_drop,hlenO] at this;rw[show start+j+old.size=start+(j+old.size) by omega];omega
   have htl:((s.data.toList.drop start).take j).length=j:=by rw[OD,List.length_drop,hlenL];omega
   have Hn:=hidR hnext;have Hrep:=hidR hrep;clear hnext hrep HR
   go_wp2_with (first|(go_at_call 146;refine(Tryz.strings_Index _ _ m _ (by rw[ByteArray.size_extract];omega) hmr).mono ?_;rintro e w' ⟨rfl,hw⟩;rw[hw,Lib.extract_to_end,hj]))
   refine(ol w.heap.size w.heap.size _ (s.extract start (start+j)) wr HB.out (by rw[Lib.byteCells_length,ByteArray.size_extract];omega) hBw).mono ?_;rintro e w3 ⟨rfl,h3,hb3⟩;have hBw3:w.heap.size<=w3.heap.size:=Og hBw hb3.size;have H3:=hidR h3;have Hb3:=hidR hb3;clear h3 hb3
   go_wp2_with fail
   refine(ol w.heap.size w.heap.size _ new w3 H3.out (by rw[NP,Lib.byteCells_length,Lib.strCells_length,ByteArray.size_extract];omega) hBw3).mono ?_;rintro e w4 ⟨rfl,h4,hb4⟩;rw[Hn.out] at h4;have H4:=hidR h4;have Hb4:=hidR ((HW.out.trans Hb3.out).trans hb4);clear h4 hb4
   go_wp2
   go_roundg g
   case measure=>omega
   case rel=>exact⟨i+1,start+j+old.size,_,by first|rfl|(simp;unfold wrap64;omega),by first|rfl|simp|(simp;unfold wrap64;omega),by omega,by omega,H4,Hb4,Hrep,hcnt,by simp only[NP,htl,<- Lib.size_eq];omega⟩
theorem rD(s old new:ByteArray)(m:Int)(w:Y)(hs:s.size<4294967281)(hm:w.cell? ⟨0,0,U⟩=O (.int .i64 m))(h1:1<=old.size)(hne:old≠new)(hc0:Lib.countB s old≠0)
  (hlen:s.size+Lib.countB s old*new.size<=140737488355328) :
  Calls Tryz.prog 259 #[.string s,.string old,.string new] w λe w'=>
   e=.returned (.string ⟨(Lib.replaceK old.data.toList new.data.toList (Lib.replaceNum s.data.toList old.data.toList (-1)) s.data.toList).toArray⟩)/\Below w.heap.size w w':=by
 have c:=AA s old new m w hs hm h1 hne hc0 hlen
 go_enter Tryz.func259,Tryz.ntmps259
 go_wp2_with (go_at_call 279;refine c.mono ?_;rintro e w' ⟨rfl,hw⟩)
 go_ret
 exact⟨rfl,hw⟩
end
end Rv
namespace Rv
open Go Go.RowKit Go.Proofs Go.Maps
noncomputable section
set_option maxRecDepth 1000000
abbrev NK:=Int×Int×zaf
abbrev TW:zac:=233
abbrev TM:zac:=230
abbrev TS:zac:=9
abbrev PP:Program:=Tryz.prog
def kv(k:NK):N:=.agg #[.int .i64 k.1,.int .i64 k.2.1,.bool k.2.2]
def Kh(k:NK):E Lit:=[.int .i64 k.1,.int .i64 k.2.1,.bool k.2.2]
def kl(k:NK):Lit:=.string (keyBytes (Kh k))
def okK(k:NK):Prop:=(Lit.int .i64 k.1).wf=Z/\(Lit.int .i64 k.2.1).wf=Z
theorem HZ:(match PP.underlying TW with|some (.array _ _)|some (.struct _)=>Z|_=>F)=Z:=by kernel_rfl
theorem M7:PP.keyType TW=Z:=by kernel_rfl
theorem I9:laidOutB PP=Z:=by kernel_rfl
theorem nM:Keyed PP TW:=Keyed.of_law (deep_law_laid I9 (m:=2) (by omega) (of_decide_eq_true (by kernel_rfl)) (by kernel_rfl) HZ)
theorem wo:PP.cellsOf TW=3:=by kernel_rfl
theorem tZ:∃a b c,PP.underlying TW=O (.struct #[a,b,c])/\a.name ≠ "_" /\ b.name ≠ "_" /\ c.name ≠ "_" /\ a.offset=0/\b.offset=1/\c.offset=2/\a.type=3/\b.type=3/\c.type=4:=
 ⟨_,_,_,Tryz.underlying233,by decide,by decide,by decide,rfl,rfl,rfl,rfl,rfl,rfl⟩
theorem Dw:∃d,PP.types.size=d+1:=by
 have h:zae (0<PP.types.size)=Z:=by kernel_rfl
 exact⟨PP.types.size-1,by have:=of_decide_eq_true h;omega⟩
theorem Cq:PP.cellsOf 3=1:=by kernel_rfl
theorem Co:PP.cellsOf 4=1:=by kernel_rfl
theorem I6(k:NK)(h:okK k):PP.keyLits (PP.types.size+1) TW [.int .i64 k.1,.int .i64 k.2.1,.bool k.2.2]=O (Kh k):=by
 obtain⟨a,b,c,hu,n1,n2,n3,o1,o2,o3,t1,t2,t3⟩:=tZ;obtain⟨d,hd⟩:=Dw;rw[hd];have h1:=h.1;have h2:=h.2;unfold Program.keyLits;simp only[hu,wo];rw[zah ⟨rfl,by simp[n1,n2,n3]⟩];simp only[List.mapM_cons,List.mapM_nil,o1,o2,o3,t1,t2,t3,Cq,Co,Om,List.drop_succ_cons,List.take_succ_cons,List.take_zero];unfold Program.keyLits;simp only[Tryz.underlying3,Tryz.underlying4,h1,h2];rfl
theorem o5(k:NK)(h:okK k):keyOf PP TW (kv k)=O (kl k):=by
 obtain⟨a,b,c,hu,_⟩:=tZ;unfold keyOf kv;have hf:(Value.agg #[.int .i64 k.1,.int .i64 k.2.1,.bool k.2.2]).formed PP TW=Z:=by simp[Value.formed,hu,wo]
 simp only[hu,M7,hf,Bool.and_self,if_true];show((PP.keyLits (PP.types.size+1) TW [.int .i64 k.1,.int .i64 k.2.1,.bool k.2.2]).map _)=_;rw[I6 k h];rfl
theorem xK{v:N}{l:Lit}(h:keyOf PP TW v=O l):∃k,v=kv k/\okK k/\l=kl k:=by
 obtain⟨xs,L,rfl,hl,rfl⟩:=keyOf_top HZ h;obtain⟨a,b,c,hu,n1,n2,n3,o1,o2,o3,t1,t2,t3⟩:=tZ;obtain⟨d,hd⟩:=Dw;rw[hd] at hl;unfold Program.keyLits at hl;simp only[hu,wo] at hl;split at hl
 ·rename_i hc;obtain⟨xs⟩:=xs
  match xs,hc.1 with
  |[c0,c1,c2],_=>
   simp only[List.mapM_cons,List.mapM_nil,o1,o2,o3,t1,t2,t3,Cq,Co,Om,List.drop_succ_cons,List.take_succ_cons,List.take_zero] at hl;unfold Program.keyLits at hl;simp only[Tryz.underlying3,Tryz.underlying4] at hl;obtain⟨k1,i1,rfl⟩:∃k1 i1,c0=.int k1 i1:=by
    cases c0<;>first|exact⟨_,_,rfl⟩|(exfalso;simp at hl;done)
   obtain⟨k2,i2,rfl⟩:∃k2 i2,c1=.int k2 i2:=by
    cases c1<;>first|exact⟨_,_,rfl⟩|(exfalso;simp at hl;done)
   obtain⟨b3,rfl⟩:∃b3,c2=.bool b3:=by
    cases c2<;>first|exact⟨_,rfl⟩|(exfalso;simp at hl;done)
   by_cases e1:k1=.i64/\(Lit.int .i64 i1).wf=Z
   ·by_cases e2:k2=.i64/\(Lit.int .i64 i2).wf=Z
    ·obtain⟨rfl,w1⟩:=e1;obtain⟨rfl,w2⟩:=e2;refine⟨(i1,i2,b3),rfl,⟨w1,w2⟩,?_⟩;simp[w1,w2] at hl;rw[<- hl];rfl
    ·simp[e2] at hl
   ·simp[e1] at hl
 ·cases hl
theorem vz{a b:NK}(ha:okK a)(hb:okK b)(h:kl a=kl b):a=b:=by
 have h1:=o5 a ha;have h2:=o5 b hb;rw[h] at h1;have:=nM.inj h1 h2;simp only[kv,Value.agg.injEq] at this;obtain⟨a1,a2,a3⟩:=a;obtain⟨b1,b2,b3⟩:=b;simp at this;obtain⟨rfl,rfl,rfl⟩:=this;rfl
def bC(w:Y)(B n:G)(f:NK->zad Str):Prop:=
 ∃D:DataW zak,w.ownsMap PP TW (plainElem PP TS) B n D/\(∀l,has D l=Z->∃k,okK k/\l=kl k/\(f k).isSome=Z) /\
  ∀k s,f k=O s->okK k/\has D (kl k)=Z/\∀zd,D.atKey (kl k) zd=.lit (.string s)
theorem bC.kept{w w':Y}{B n:G}{f:NK->zad Str}{row:zad G}(h:bC w B n f)(hg:w.grownBy w' row)(hne:O B≠row):bC w' B n f:=by
 obtain⟨D,h1,h2⟩:=h;exact⟨D,h1.kept hg hne,h2⟩
theorem bC.same{w w':Y}{B n:G}{f:NK->zad Str}(h:bC w B n f)(hg:w'.heap[B]?=w.heap[B]?):bC w' B n f:=by
 obtain⟨D,⟨es,c,hb,r⟩,h2⟩:=h;exact⟨D,⟨es,c,hg.trans hb,r⟩,h2⟩
theorem bC.lt{w:Y}{B n:G}{f:NK->zad Str}(h:bC w B n f):B<w.heap.size:=by
 obtain⟨D,h1,_⟩:=h;exact h1.lt
theorem bC.made(w:Y):bC (w.alloc (.map #[] 0)) w.heap.size 0 (λ_=>U):=
 ⟨.map [],World.ownsMap_made _ _ _ _,λ_ h=>absurd h (by simp[has]),λ_ _ h=>absurd h (by simp)⟩
theorem I1{w:Y}{B n:G}{D:DataW zak}(h:w.ownsMap PP TW (plainElem PP TS) B n D):IsMap D:=by
 obtain⟨es,c,_,_,_,rfl⟩:=h;exact⟨_,rfl⟩
theorem zR(k:NK):WideAt.IsKeyLit (kl k):=trivial
theorem Gx{D:DataW zak}{f:NK->zad Str}(hD:IsMap D)(h1:∀l,has D l=Z->∃k,okK k/\l=kl k/\(f k).isSome=Z)
  (h2:∀k s,f k=O s->okK k/\has D (kl k)=Z/\∀zd,D.atKey (kl k) zd=.lit (.string s)) (k:NK) (s:Str) (hk:okK k) :
  (∀l,has (D.put (kl k) (.lit (.string s))) l=Z->∃j,okK j/\l=kl j/\((λx=>if x=k then O s else f x) j).isSome=Z) /\
  ∀j r,(λx=>if x=k then O s else f x) j=O r->okK j/\has (D.put (kl k) (.lit (.string s))) (kl j)=Z/\∀zd,(D.put (kl k) (.lit (.string s))).atKey (kl j) zd=.lit (.string r):=by
 refine⟨λl hl=>?_,λj r hj=>?_⟩
 ·by_cases e:l=kl k
  ·exact⟨k,hk,e,by simp⟩
  ·rw[has_put_other e] at hl;obtain⟨j,hj,rfl,hf⟩:=h1 l hl;refine⟨j,hj,rfl,?_⟩;show(if j=k then O s else f j).isSome=Z;split
   ·rfl
   ·exact hf
 ·by_cases e:j=k
  ·subst e;simp at hj;subst hj;exact⟨hk,has_put_same hD (zR _) _,λzd=>atKey_put_same hD (zR _) _ _⟩
  ·simp only[e,if_false] at hj;obtain⟨a1,a2,a3⟩:=h2 j r hj;have hne:kl j≠kl k:=λe'=>e (vz a1 hk e')
   exact⟨a1,by rw[has_put_other hne];exact a2,λzd=>by rw[atKey_put_other hne];exact a3 zd⟩
theorem w9:PP.underlying TM=O (.map TW TS):=Tryz.underlying230
theorem xc:PP.underlying TS=O .string:=Tryz.underlying9
theorem bC.put{w:Y}{B n:G}{f:NK->zad Str}(h:bC w B n f)(hn:n<1000000)(k:NK)(s:Str)(hk:okK k)(hs:s.length<=1000000) :
  ∃w',(Instr.mapUpdate TM (.map (O B)) (kv k) (.string (mkS s))).run PP w=.ok () w'/\bC w' B (n+1) (λx=>if x=k then O s else f x)/\w.grownBy w' (O B):=by
 obtain⟨D,h1,h2,h3⟩:=h;obtain⟨w',hr,ho,hg⟩:=h1.update nM w9 (by unfold maxLen;omega) (o5 k hk) (plainElem_string xc (s:=mkS s) (by show s.length<=maxLen;unfold maxLen;omega));obtain⟨p1,p2⟩:=Gx (I1 h1) h2 h3 k s hk;exact⟨w',hr,⟨_,ho,p1,p2⟩,hg⟩
theorem tX{v:N}{z:DataW zak×E MemPlace}(h:plainElem PP TS v=O z):∃s:Str,v=.string (mkS s)/\z.1=.lit (.string s):=by
 unfold plainElem at h;rw[xc] at h;cases v<;>simp at h;rename_i s;exact⟨s.data.toList,by simp[mkS],by rw[<- h.2]⟩
theorem bC.look{w:Y}{B n:G}{f:NK->zad Str}(h:bC w B n f)(k:NK)(hk:okK k) :
  (Instr.lookup TM (.map (O B)) (kv k) F).run PP w=.ok (.string (mkS ((f k).getD []))) w:=by
 obtain⟨D,h1,h2,h3⟩:=h;have hz:(zeroValue TS).run PP w=.ok (.string (mkS [])) w:=by kernel_rfl
 obtain⟨v,ps,hr,hv⟩:=h1.lookup nM w9 hz (plainElem_string xc (s:=mkS []) (by decide)) (o5 k hk);obtain⟨s,rfl,hs⟩:=tX hv;rw[hr];have:s=(f k).getD []:=by
  simp only at hs;cases hf:f k with
  |some r=>
   have:=(h3 k r hf).2.2 (.lit (.string (mkS []).data.toList));rw[this] at hs;simpa using hs.symm
  |none=>
   have hn:has D (kl k)=F:=by
    cases hh:has D (kl k);·rfl
    ·obtain⟨j,hj,e,hf'⟩:=h2 _ hh;rw[<- vz hk hj e,hf] at hf';cases hf'
   rw[atKey_of_not_has hn] at hs;have:=DataW.lit.inj hs;exact(Lit.string.inj this).symm
 rw[this]
end
end Rv
namespace Rv
open Go Go.RowKit Go.Proofs Go.Maps
noncomputable section
set_option maxRecDepth 1000000
theorem xg{P:Program}{ops:Array Oper}{Q:Exit->Act->Y->Prop}(htext:vT 0 ops.toList=Z)(Inv:(G->zaf)->Act->Y->Prop)
  (hstep:∀b a w i o,Inv b a w->i<ops.size->ops[i]?=O o->b i=F->(∀e,e∈o.after.toList->Region.binds .any e=Z->b e.on=Z)->wpOp P ops Q i (Inv (λk=>b k||zae (k=i))) a w)
  (hend:∀b a w,Inv b a w->(∀i,i<ops.size->b i=Z)->Q .normal a w) :
  ∀(fuel:G) (listed:Array zaf) (a:Act) (w:Y),listed.size=ops.size->((List.range ops.size).filter λi=>!listed.getD i F).length<=fuel->Inv (λk=>listed.getD k F) a w->wpAny P .any ops Q fuel listed a w:=by
 have none_ready:∀(listed:Array zaf),listed.size=ops.size->Region.ready .any ops listed=[]->∀i,i<ops.size->listed.getD i F=Z:=by
  intro listed hsz hr i hi;by_cases h:listed.getD i F=Z;·exact h
  ·obtain⟨j,hj,hp,hmin⟩:=least (n:=ops.size) (p:=λi=>¬listed.getD i F=Z) ⟨i,hi,h⟩;exfalso;have ho:ops[j]?=O ops[j]:=by simp[hj]
   have:j∈Region.ready .any ops listed:=by
    unfold Region.ready;refine Ox.2 ⟨by simpa using hj,?_⟩;have hjl:j<listed.size:=by omega
    simp only[NJ,Bool.not_eq_true'];refine⟨?_,?_⟩;·rw[kW hjl];simpa using hp
    ·rw[ho];simp only[OC,Option.getD_some];rw[Array.all_eq_true'];intro e he;by_cases hb:Region.binds .any e=Z
     ·have hlt:=ng htext j ops[j] (by simpa using ho) e (by simpa using he) hb;have:=hmin e.on (by omega);simp only[Decidable.not_not] at this;simp[this]
     ·simp only[Bool.not_eq_true] at hb;simp[hb]
   rw[hr] at this;simp at this
 intro fuel
 induction fuel with
 |zero=>
  intro listed a w hsz hcnt hI;have hall:∀i,i<ops.size->listed.getD i F=Z:=λi hi=>by
   by_cases h:listed.getD i F=Z;·exact h
   ·have:i∈(List.range ops.size).filter λi=>!listed.getD i F:=Ox.2 ⟨by simpa using hi,by simpa using h⟩
    have h0:=List.length_pos_of_mem this;omega
  refine⟨?_,hend _ a w hI hall⟩;unfold Region.ready;refine List.filter_eq_nil_iff.2 λi hi=>?_
  have hi':i<ops.size:=by simpa using hi
  have:=hall i hi';rw[kW (by omega:i<listed.size),this];simp
 |succ fuel ih=>
  intro listed a w hsz hcnt hI;refine⟨λhr=>hend _ a w hI (none_ready listed hsz hr),λi hi=>?_⟩;unfold Region.ready at hi;obtain⟨hi1,hi2⟩:=Ox.1 hi;have hin:i<ops.size:=by simpa using hi1
  have hil:i<listed.size:=by omega
  simp only[NJ,Bool.not_eq_true'] at hi2;obtain⟨hi2,hi3⟩:=hi2;have hoff:listed.getD i F=F:=by rw[<- kW hil];exact hi2
  have ho:ops[i]?=O ops[i]:=by simp[hin]
  rw[ho] at hi3;simp only[OC,Option.getD_some] at hi3;rw[Array.all_eq_true'] at hi3;have hset:∀k,(listed.setIfInBounds i Z).getD k F=(listed.getD k F||zae (k=i)):=λk=>by
   simp only[Array.getD_eq_getD_getElem?,Array.getElem?_setIfInBounds];by_cases h:i=k;·subst h;simp[hil]
   ·have h':¬k=i:=λe=>h e.symm
    simp[h,h']
  refine wpOp_mono ?_ (hstep _ a w i ops[i] hI hin ho hoff λe he hb=>by
   have:=hi3 e (by simpa using he);simpa[hb] using this)
  intro a' w' hI';refine ih _ a' w' (by simpa using hsz) ?_ ?_
  ·have hlt:((List.range ops.size).filter λk=>!(listed.setIfInBounds i Z).getD k F).length<((List.range ops.size).filter λk=>!listed.getD k F).length:=by
    have e:((List.range ops.size).filter λk=>!(listed.setIfInBounds i Z).getD k F)=(((List.range ops.size).filter λk=>!listed.getD k F).filter λk=>zae (k≠i)):=by
     rw[List.filter_filter];refine List.filter_congr λk _=>?_
     rw[hset];by_cases h:k=i<;>simp[h]
    rw[e];refine List.length_filter_lt_length_iff_exists.2 ⟨i,Ox.2 ⟨by simpa using hin,by simp only[hoff];rfl⟩,by simp⟩
   omega
  ·have:(λk=>(listed.setIfInBounds i Z).getD k F)=λk=>listed.getD k F||zae (k=i):=by funext k;exact hset k
   rw[this];exact hI'
theorem aA{P:Program}{ops:Array Oper}{Q:Exit->Act->Y->Prop}{K:Act->Y->Prop}{a:Act}{w:Y}{i:G}{o:Oper}(ho:ops[i]?=O o)(hg:o.guard=U)(h:o.wp P a w K Q):wpOp P ops Q i K a w:=by
 unfold wpOp;rw[ho];have:Region.wanted o (yielded ops a.tmps)=Z:=by simp[Region.wanted,hg]
 simp only[this,if_true];exact Or.inl h
def bJ{ι:Type}(ins:E (ι×NK×Str))(b:ι->zaf)(x:NK):zad Str:=ins.findSome? λe=>if e.2.1=x/\b e.1=Z then O e.2.2 else U
theorem o6{ι:Type}[DecidableEq ι]{ins:E (ι×NK×Str)}{b:ι->zaf}{i:ι}(h:∀e∈ins,e.1≠i)(x:NK):bJ ins (λk=>b k||zae (k=i)) x=bJ ins b x:=by
 unfold bJ
 induction ins with
 |nil=>rfl
 |cons e l ih=>
  have h0:=h e (by simp);simp only[List.findSome?_cons,h0,decide_false,Bool.or_false];rw[ih λe he=>h e (by simp[he])]
theorem xL{ι:Type}[DecidableEq ι]{ins:E (ι×NK×Str)}(hk:ins.Pairwise λa b=>a.2.1≠b.2.1)(hi:ins.Pairwise λa b=>a.1≠b.1){b:ι->zaf}{e:ι×NK×Str}(he:e∈ins)(x:NK) :
  bJ ins (λk=>b k||zae (k=e.1)) x=if x=e.2.1 then O e.2.2 else bJ ins b x:=by
 induction ins with
 |nil=>simp at he
 |cons d l ih=>
  obtain⟨k1,k2⟩:=List.pairwise_cons.1 hk;obtain⟨i1,i2⟩:=List.pairwise_cons.1 hi;have c:∀b',bJ (d::l) b' x=if d.2.1=x/\b' d.1=Z then O d.2.2 else bJ l b' x:=λb'=>by
   unfold bJ;rw[List.findSome?_cons];by_cases h:d.2.1=x/\b' d.1=Z<;>simp[h]
  rw[c,c];rcases NT.1 he with rfl|hl
  ·by_cases hx:x=e.2.1
   ·subst hx;simp
   ·have hx':¬e.2.1=x:=λh=>hx h.symm
    simp only[hx,hx',false_and,if_false];exact o6 (λd hd=>(i1 d hd).symm) x
  ·have hne:d.1≠e.1:=i1 e hl;have hke:d.2.1≠e.2.1:=k1 e hl;rw[ih k2 i2 hl];simp only[hne,decide_false,Bool.or_false];by_cases hd:d.2.1=x/\b d.1=Z
   ·have:¬x=e.2.1:=λh=>hke (hd.1.trans h)
    rw[zah hd,zai this,zah hd]
   ·rw[zai hd,zai hd]
theorem jV{ι:Type}{ins:E (ι×NK×Str)}{b b':ι->zaf}(h:∀e∈ins,b e.1=b' e.1)(x:NK):bJ ins b x=bJ ins b' x:=by
 unfold bJ
 induction ins with
 |nil=>rfl
 |cons e l ih=>
  rw[List.findSome?_cons,List.findSome?_cons,ih λe he=>h e (by simp[he]),h e (by simp)]
theorem uO{b:G->zaf}{i:G}(h:b i=F):∀{l:E G},l.Nodup->i∈l->l.countP b+1<=l.countP (λk=>b k||zae (k=i))
 |[],_,hi=>by simp at hi
 |k::l,hn,hi=>by
  obtain⟨h1,h2⟩:=List.nodup_cons.1 hn;by_cases e:k=i
  ·subst e;have:l.countP b<=l.countP (λj=>b j||zae (j=k)):=List.countP_mono_left λj _ hj=>by simp[hj]
   simp only[List.countP_cons,h,decide_true,Bool.or_true,if_true];simp only[Bool.false_eq_true,if_false];omega
  ·have hil:i∈l:=by
    rcases NT.1 hi with e'|h';·exact absurd e'.symm e
    ·exact h'
   have:=uO h h2 hil;simp only[List.countP_cons,e,decide_false,Bool.or_false];omega
def aK(k:NK):Str:=((L.nameRows.find? λe=>e.1 == k).map (·.2)).getD []
def ins:E (G×NK×Str):=[(2,(1,0,F),aK (1,0,F)),(4,(1,0,Z),aK (1,0,Z)),(6,(1,8,Z),aK (1,8,Z)),(8,(3,0,F),aK (3,0,F)),(10,(4,0,F),aK (4,0,F)),
 (12,(5,0,F),aK (5,0,F)),(17,(7,0,F),aK (7,0,F)),(22,(7,0,Z),aK (7,0,Z)),(24,(8,0,F),aK (8,0,F)),(26,(9,0,F),aK (9,0,F)),(28,(10,0,F),aK (10,0,F))]
def conds:Str:=[77,73,32,69,81,32,67,83,32,86,83,32,76,83,32,76,84,32,76,69,32,46,32,80,76,32,78,69,32,67,67,32,86,67,32,72,73,32,71,69,32,71,84,32,78,86]
def mid:E (G×G×N):=[(1,3,kv (1,0,F)),(3,4,kv (1,0,Z)),(5,5,kv (1,8,Z)),(7,6,kv (3,0,F)),(9,7,kv (4,0,F)),(11,8,kv (5,0,F)),(13,9,kv (7,0,F)),
 (14,10,.string (mkS conds)),(15,11,.string (mkS ((aK (7,0,F)).drop 1))),(16,12,.string (mkS (aK (7,0,F)))),(18,13,kv (7,0,Z)),(19,14,.string (mkS conds)),(20,15,.string (mkS ((aK (7,0,Z)).drop 2))),(21,16,.string (mkS (aK (7,0,Z)))),
 (23,17,kv (8,0,F)),(25,18,kv (9,0,F)),(27,19,kv (10,0,F))]
def slots(B:G):E (G×G×N):=(0,2,.map (O B))::(mid++[(29,20,.map (O B)),(30,0,.map (O B))])
def IB:E G:=[2,4,6,8,10,12,17,22,24,26,28,29,30]
structure RInv (w:Y) (a0:Act) (b:G->zaf) (a:Act) (w':Y):Prop where
 act:∃ts,a={ a0 with tmps:=ts }/\ts.size=21
 cnd:a.eval (.tmp 1)=.string (mkS conds)
 below:Below w.heap.size w w'
 early:∀i∈IB,b i=Z->b 0=Z
 map:∃B,(b 0=Z->w.heap.size<=B/\∃n f,n<=(List.range 31).countP b/\bC w' B n f/\∀x,f x=bJ ins b x)/\∀i d v,(i,d,v)∈slots B->b i=Z->a.eval (.tmp d)=v
variable{w w':Y}{a0 a:Act}{b:G->zaf}
theorem eval_put{a:Act}{d:G}{v:N}(h:d<a.tmps.size)(t:G):(a.put (O d) v).eval (.tmp t)=if t=d then v else a.eval (.tmp t):=by
 show(a.tmps.setIfInBounds d v).getD t undef=_;by_cases e:t=d;·subst e;simp[Array.getD_eq_getD_getElem?,Array.getElem?_setIfInBounds,h]
 ·have e':¬d=t:=λx=>e x.symm
  rw[zai e];show _=a.tmps.getD t undef;simp[Array.getD_eq_getD_getElem?,Array.getElem?_setIfInBounds,e']
theorem Lu:(List.range 31).Nodup:=by decide
theorem nI{α:Type}{f:α->G}:∀{l:E α},(l.map f).Nodup->∀x∈l,∀y∈l,f x=f y->x=y
 |[],_,_,hx,_,_,_=>by simp at hx
 |c::l,h,x,hx,y,hy,e=>by
  rw[NY,List.nodup_cons] at h;rcases NT.1 hx with ex|hx'
  ·rcases NT.1 hy with ey|hy'
   ·rw[ex,ey]
   ·exact absurd (N8.2 ⟨y,hy',by rw[<- e,ex]⟩) h.1
  ·rcases NT.1 hy with ey|hy'
   ·exact absurd (N8.2 ⟨x,hx',by rw[e,ey]⟩) h.1
   ·exact nI h.2 x hx' y hy' e
theorem yu(B:G):∀x∈slots B,∀y∈slots B,x.2.1=y.2.1->x=y:=
 nI (f:=λx:G×G×N=>x.2.1) (by
  have:(slots B).map (λx:G×G×N=>x.2.1)=[2,3,4,5,6,7,8,9,10,11,12,13,14,15,16,17,18,19,20,0]:=rfl;rw[this];decide)
theorem yw(B:G):∀x∈slots B,∀y∈slots B,x.1=y.1->x=y:=
 nI (f:=λx:G×G×N=>x.1) (by
  have:(slots B).map (λx:G×G×N=>x.1)=[0,1,3,5,7,9,11,13,14,15,16,18,19,20,21,23,25,27,29,30]:=rfl;rw[this];decide)
theorem E5(B:G):∀x∈slots B,x.2.1≠1/\x.2.1<21:=by
 have h:(slots B).map (λx:G×G×N=>x.2.1)=[2,3,4,5,6,7,8,9,10,11,12,13,14,15,16,17,18,19,20,0]:=rfl;intro x hx;have:x.2.1∈(slots B).map (λx:G×G×N=>x.2.1):=N8.2 ⟨x,hx,rfl⟩;rw[h] at this;generalize x.2.1=n at this;revert n;decide
theorem RInv.pure(h:RInv w a0 b a w'){i d:G}{v:N}(hv:∀B,(b 0=Z->∀B',a.eval (.tmp 2)=.map (O B')->B=B')->(i,d,v)∈slots B)(hi0:i≠0)(hi:∀e∈ins,e.1≠i)(hb:b i=F)(he:i∈IB->b 0=Z)
  {w'':Y} (hm:∀B,B<w'.heap.size->w''.heap[B]?=w'.heap[B]?) (hbel:Below w.heap.size w' w''):RInv w a0 (λk=>b k||zae (k=i)) (a.put (O d) v) w'':=by
 obtain⟨⟨ts,rfl,hts⟩,hc,hbw,hea,B,hB,hs⟩:=h;have hmem:=hv B λh0 B' hB'=>by
  have:=hs 0 2 (.map (O B)) (by simp[slots]) h0;rw[this] at hB';simpa using hB'
 have hd:=E5 B _ hmem;have hlt:d<({ a0 with tmps:=ts }:Act).tmps.size:=by show d<ts.size;have:=hd.2;simp only at this;omega
 refine⟨⟨ts.setIfInBounds d v,rfl,by simpa using hts⟩,?_,hbw.trans hbel,?_,B,λh0=>?_,λj e u hm' hj=>?_⟩;·rw[eval_put hlt,zai (λe=>hd.1 e.symm)];exact hc
 ·intro j hj h;simp only[Bool.or_eq_true,NH] at h⊢;rcases h with h|h
  ·exact Or.inl (hea j hj h)
  ·exact Or.inl (he (h ▸ hj))
 ·have h0':b 0=Z:=by
   simp only[Bool.or_eq_true,NH] at h0;rcases h0 with h|h;·exact h
   ·exact absurd h.symm hi0
  obtain⟨h1,n,f,hn,hM,hf⟩:=hB h0';refine⟨h1,n,f,Og hn ?_,hM.same (hm B hM.lt),λx=>by rw[hf,o6 hi]⟩;exact List.countP_mono_left λk _ hk=>by simp[hk]
 ·rw[eval_put hlt];by_cases hed:e=d
  ·have:=yu B _ hm' _ hmem hed;rw[zah hed];simp only[NI] at this;exact this.2.2.symm
  ·rw[zai hed];refine hs j e u hm' ?_;simp only[Bool.or_eq_true,NH] at hj;rcases hj with h|h
   ·exact h
   ·subst h;have:=yw B _ hm' _ hmem rfl;simp only[NI] at this;exact absurd this.2.1 hed
theorem Hd{B j e:G}{u:N}(h:(j,e,u)∈slots B):j=0\/j=29\/j=30\/∀B',(j,e,u)∈slots B':=by
 rcases NT.1 h with h|h;·simp only[NI] at h;exact Or.inl h.1
 ·rcases NV.1 h with h|h
  ·exact Or.inr (Or.inr (Or.inr λB'=>NU _ (List.mem_append_left _ h)))
  ·rcases NT.1 h with h|h
   ·simp only[NI] at h;exact Or.inr (Or.inl h.1)
   ·rcases NT.1 h with h|h
    ·simp only[NI] at h;exact Or.inr (Or.inr (Or.inl h.1))
    ·simp at h
theorem RInv.make(h:RInv w a0 b a w')(hb:b 0=F):RInv w a0 (λk=>b k||zae (k=0)) (a.put (O 2) (.map (O w'.heap.size))) (w'.alloc (.map #[] 0)):=by
 obtain⟨⟨ts,rfl,hts⟩,hc,hbw,hea,B,hB,hs⟩:=h;have hlt:2<({ a0 with tmps:=ts }:Act).tmps.size:=by show 2<ts.size;omega
 have hsz:=hbw.size;refine⟨⟨ts.setIfInBounds 2 (.map (O w'.heap.size)),rfl,by simpa using hts⟩,?_,hbw.alloc hsz _,λ_ _ _=>by simp,w'.heap.size,λ_=>⟨hsz,0,_,Nat.zero_le _,bC.made w',λx=>?_⟩,λj e u hm' hj=>?_⟩;·rw[eval_put hlt,zai (by decide)];exact hc
 ·rw[o6 (by decide)];unfold bJ;refine(List.findSome?_eq_none_iff.2 λe he=>?_).symm;have:¬b e.1=Z:=λh=>by
   have:=hea e.1 ((by decide:∀e∈ins,e.1∈IB) e he) h;rw[hb] at this;cases this
  simp[this]
 ·rw[eval_put hlt];by_cases hed:e=2
  ·have:=yu _ _ hm' (0,2,.map (O w'.heap.size)) (by simp[slots]) hed;rw[zah hed];simp only[NI] at this;exact this.2.2.symm
  ·rw[zai hed];simp only[Bool.or_eq_true,NH] at hj;have hj0:j≠0:=λe0=>by
    subst e0;have:=yw _ _ hm' (0,2,.map (O w'.heap.size)) (by simp[slots]) rfl;simp only[NI] at this;exact hed this.2.1
   have hbj:b j=Z:=hj.resolve_right hj0;rcases Hd hm' with h|h|h|h;·exact absurd h hj0
   ·have:=hea 29 (by decide) (h ▸ hbj);rw[hb] at this;cases this
   ·have:=hea 30 (by decide) (h ▸ hbj);rw[hb] at this;cases this
   ·exact hs j e u (h B) hbj
theorem RInv.lay(h:RInv w a0 b a w'){e:G×NK×Str}(he:e∈ins)(hb:b e.1=F)(h0:b 0=Z){o:Oper}{K:Act->Y->Prop}{Q:Exit->Act->Y->Prop}{s:G}{x:N}
  (hop:o.op=.insert TM (.tmp 2) (.tmp s) (.const x)\/∃u,o.op=.insert TM (.tmp 2) (.tmp s) (.tmp u)/\a.eval (.tmp u)=x) (hd:o.dst=U) (hk:a.eval (.tmp s)=kv e.2.1) (hx:x=.string (mkS e.2.2))
  (hok:∀e∈ins,okK e.2.1/\e.2.2.length<=1000000) (hK:∀w'',RInv w a0 (λk=>b k||zae (k=e.1)) a w''->K a w''):o.wp PP a w' K Q:=by
 obtain⟨ha,hc,hbw,hea,B,hB,hs⟩:=h;obtain⟨hle,n,f,hn,hM,hf⟩:=hB h0;have hc31:(List.range 31).countP b<=31:=by simpa using(List.countP_le_length (l:=List.range 31) (p:=b))
 obtain⟨w'',hrun,hM',hg⟩:=hM.put (by omega) e.2.1 e.2.2 (hok e he).1 (hok e he).2;have h2:a.eval (.tmp 2)=.map (O B):=hs 0 2 _ (by simp[slots]) h0;have hfin:RInv w a0 (λk=>b k||zae (k=e.1)) a w'':=by
  refine⟨ha,hc,hbw.grown hg (by have:=hbw.size;omega) (λj hj=>by cases hj;exact hle),λj hj h=>?_,B,λ_=>⟨hle,n+1,_,?_,hM',λx=>?_⟩,λj d v hm hj=>?_⟩
  ·simp[h0]
  ·have:=uO (b:=b) (i:=e.1) hb Lu ((by decide:∀e∈ins,e.1∈List.range 31) e he);omega
  ·rw[xL (by decide) (by decide) he,hf]
  ·refine hs j d v hm ?_;simp only[Bool.or_eq_true,NH] at hj;rcases hj with h|h
   ·exact h
   ·exfalso;have h1:(slots B).map (λx:G×G×N=>x.1)=[0,1,3,5,7,9,11,13,14,15,16,18,19,20,21,23,25,27,29,30]:=rfl;have h2:e.1∈(slots B).map (λx:G×G×N=>x.1):=N8.2 ⟨_,hm,h⟩;rw[h1] at h2;exact(by decide:∀e∈ins,e.1 ∉ [0,1,3,5,7,9,11,13,14,15,16,18,19,20,21,23,25,27,29,30]) e he h2
 have hput:a.put o.dst undef=a:=by rw[hd];rfl
 subst hx;have hcv:∀v,a.eval (.const v)=v:=λ_=>rfl
 unfold Oper.wp;rcases hop with hop|⟨u,hop,hu⟩;·simp[execOp,hop,h2,hk,hcv,hrun,Result.andThen];rw[Oper.upon_skip,hput];exact hK _ hfin
 ·simp[execOp,hop,h2,hk,hu,hrun,Result.andThen];rw[Oper.upon_skip,hput];exact hK _ hfin
theorem mJ:(Lib.countB (mkS conds) ⟨#[32]⟩≠0)/\(mkS conds).size+Lib.countB (mkS conds) ⟨#[32]⟩*3<=140737488355328:=by
 have h:Lib.countB (mkS conds) ⟨#[32]⟩=15:=by decide +kernel
 rw[h];exact⟨by decide,by decide⟩
theorem Nf:Lib.replaceK [32] [32,66] (Lib.replaceNum conds [32] (-1)) conds=(aK (7,0,F)).drop 1:=by decide +kernel
theorem MM:Lib.replaceK [32] [32,66,76] (Lib.replaceNum conds [32] (-1)) conds=(aK (7,0,Z)).drop 2:=by decide +kernel
theorem ic:∀e∈ins,okK e.2.1/\e.2.2.length<=1000000:=by
 unfold okK;decide +kernel
def pR(x:NK):zad Str:=(L.nameRows.find? λe=>e.1 == x).map (·.2)
theorem Ny{i:G}(h:i<31):i=0\/i=1\/i=2\/i=3\/i=4\/i=5\/i=6\/i=7\/i=8\/i=9\/i=10\/i=11\/i=12\/i=13\/i=14\/i=15\/i=16\/i=17\/i=18\/i=19\/i=20\/i=21\/i=22\/i=23\/i=24\/i=25\/i=26\/i=27\/i=28\/i=29\/i=30:=by omega
theorem jf(n k:G):(Array.replicate n F).getD k F=F:=by
 simp only[Array.getD_eq_getD_getElem?,Array.getElem?_replicate];split<;>rfl
theorem bg{o:Oper}{K:Act->Y->Prop}{Q:Exit->Act->Y->Prop}{v:N}{w1 w2:Y}(h:(execOp a.eval o).run PP w1=.ok (.value v) w2)(hK:K (a.put o.dst v) w2):o.wp PP a w1 K Q:=by
 unfold Oper.wp;rw[h];exact hK
theorem rT{o:Oper}{K:Act->Y->Prop}{Q:Exit->Act->Y->Prop}{f:FuncId}{args:Array N}{w1:Y}(h:(execOp a.eval o).run PP w1=.ok (.enter f args) w1)
  (hC:Calls PP f args w1 λe w2=>∃v,e=.returned v/\K (a.put o.dst v) w2):o.wp PP a w1 K Q:=by
 unfold Oper.wp;rw[h];exact hC.mono λe w2 ⟨v,he,hk⟩=>by subst he;exact hk
theorem bL{B:G}{x:G×G×N}(h:x∈mid):x∈slots B:=NU _ (List.mem_append_left _ h)
theorem RInv.slot(h:RInv w a0 b a w'){i d:G}{v:N}(hm:(i,d,v)∈mid)(hb:b i=Z):a.eval (.tmp d)=v:=by
 obtain⟨B,_,hs⟩:=h.map;exact hs i d v (bL hm) hb
theorem xu:∀args w,(callFunc 259 args).run PP w=.ok (.enter 259 args) w:=enters_of Tryz.func259 (by kernel_rfl) rfl
theorem Ko(a:Act)(w:Y):(execOp a.eval { dst:=O 3,op:=Op.build TW #[(0,Operand.const (Value.int zaa 1)),(1,Operand.const (Value.int zaa 0)),(2,Operand.const (Value.bool F))],type:=TW,pos := "name.go:53",after:=#[],guard:=U }).run PP w=.ok (.value (kv (1,0,F))) w:=by kernel_rfl
theorem Kq(a:Act)(w:Y):(execOp a.eval { dst:=O 4,op:=Op.build TW #[(0,Operand.const (Value.int zaa 1)),(1,Operand.const (Value.int zaa 0)),(2,Operand.const (Value.bool Z))],type:=TW,pos := "name.go:53",after:=#[],guard:=U }).run PP w=.ok (.value (kv (1,0,Z))) w:=by kernel_rfl
theorem Kr(a:Act)(w:Y):(execOp a.eval { dst:=O 5,op:=Op.build TW #[(0,Operand.const (Value.int zaa 1)),(1,Operand.const (Value.int zaa 8)),(2,Operand.const (Value.bool Z))],type:=TW,pos := "name.go:53",after:=#[],guard:=U }).run PP w=.ok (.value (kv (1,8,Z))) w:=by kernel_rfl
theorem Kt(a:Act)(w:Y):(execOp a.eval { dst:=O 6,op:=Op.build TW #[(0,Operand.const (Value.int zaa 3)),(1,Operand.const (Value.int zaa 0)),(2,Operand.const (Value.bool F))],type:=TW,pos := "name.go:53",after:=#[],guard:=U }).run PP w=.ok (.value (kv (3,0,F))) w:=by kernel_rfl
theorem Ku(a:Act)(w:Y):(execOp a.eval { dst:=O 7,op:=Op.build TW #[(0,Operand.const (Value.int zaa 4)),(1,Operand.const (Value.int zaa 0)),(2,Operand.const (Value.bool F))],type:=TW,pos := "name.go:53",after:=#[],guard:=U }).run PP w=.ok (.value (kv (4,0,F))) w:=by kernel_rfl
theorem Ii(a:Act)(w:Y):(execOp a.eval { dst:=O 8,op:=Op.build TW #[(0,Operand.const (Value.int zaa 5)),(1,Operand.const (Value.int zaa 0)),(2,Operand.const (Value.bool F))],type:=TW,pos := "name.go:53",after:=#[],guard:=U }).run PP w=.ok (.value (kv (5,0,F))) w:=by kernel_rfl
theorem Ij(a:Act)(w:Y):(execOp a.eval { dst:=O 9,op:=Op.build TW #[(0,Operand.const (Value.int zaa 7)),(1,Operand.const (Value.int zaa 0)),(2,Operand.const (Value.bool F))],type:=TW,pos := "name.go:53",after:=#[],guard:=U }).run PP w=.ok (.value (kv (7,0,F))) w:=by kernel_rfl
theorem Ik(a:Act)(w:Y):(execOp a.eval { dst:=O 13,op:=Op.build TW #[(0,Operand.const (Value.int zaa 7)),(1,Operand.const (Value.int zaa 0)),(2,Operand.const (Value.bool Z))],type:=TW,pos := "name.go:53",after:=#[],guard:=U }).run PP w=.ok (.value (kv (7,0,Z))) w:=by kernel_rfl
theorem Il(a:Act)(w:Y):(execOp a.eval { dst:=O 17,op:=Op.build TW #[(0,Operand.const (Value.int zaa 8)),(1,Operand.const (Value.int zaa 0)),(2,Operand.const (Value.bool F))],type:=TW,pos := "name.go:53",after:=#[],guard:=U }).run PP w=.ok (.value (kv (8,0,F))) w:=by kernel_rfl
theorem Im(a:Act)(w:Y):(execOp a.eval { dst:=O 18,op:=Op.build TW #[(0,Operand.const (Value.int zaa 9)),(1,Operand.const (Value.int zaa 0)),(2,Operand.const (Value.bool F))],type:=TW,pos := "name.go:53",after:=#[],guard:=U }).run PP w=.ok (.value (kv (9,0,F))) w:=by kernel_rfl
theorem Io(a:Act)(w:Y):(execOp a.eval { dst:=O 19,op:=Op.build TW #[(0,Operand.const (Value.int zaa 10)),(1,Operand.const (Value.int zaa 0)),(2,Operand.const (Value.bool F))],type:=TW,pos := "name.go:53",after:=#[],guard:=U }).run PP w=.ok (.value (kv (10,0,F))) w:=by kernel_rfl
theorem Mg(a:Act)(h:a.eval (.tmp 11)=.string (mkS ((aK (7,0,F)).drop 1)))(w:Y):(execOp a.eval { dst:=O 12,op:=Op.binOp BinOp.add TS (Operand.const (Value.string ⟨#[66]⟩)) (Operand.tmp 11) TS,type:=TS,pos := "name.go:53",after:=#[{ on:=15,ground:=Ground.data }],guard:=U }).run PP w=.ok (.value (.string (mkS (aK (7,0,F))))) w:=by
 have hc:a.eval (.const (.string ⟨#[66]⟩))=.string ⟨#[66]⟩:=rfl;have ha:(⟨#[66]⟩:ByteArray)++mkS ((aK (7,0,F)).drop 1)=mkS (aK (7,0,F)):=ByteArray.ext (by rw[ByteArray.data_append];decide +kernel);simp only[execOp,h,hc];rw[<- ha];rfl
theorem Mh(a:Act)(h:a.eval (.tmp 15)=.string (mkS ((aK (7,0,Z)).drop 2)))(w:Y):(execOp a.eval { dst:=O 16,op:=Op.binOp BinOp.add TS (Operand.const (Value.string ⟨#[66,76]⟩)) (Operand.tmp 15) TS,type:=TS,pos := "name.go:53",after:=#[{ on:=20,ground:=Ground.data }],guard:=U }).run PP w=.ok (.value (.string (mkS (aK (7,0,Z))))) w:=by
 have hc:a.eval (.const (.string ⟨#[66,76]⟩))=.string ⟨#[66,76]⟩:=rfl;have ha:(⟨#[66,76]⟩:ByteArray)++mkS ((aK (7,0,Z)).drop 2)=mkS (aK (7,0,Z)):=ByteArray.ext (by rw[ByteArray.data_append];decide +kernel);simp only[execOp,h,hc];rw[<- ha];rfl
theorem Kv(a:Act)(h:a.eval (.tmp 10)=.string (mkS conds))(w:Y):(execOp a.eval { dst:=O 11,op:=Op.call { callee:=Callee.value (Operand.func 259),args:=#[Operand.tmp 10,Operand.const (Value.string ⟨#[32]⟩),Operand.const (Value.string ⟨#[32,66]⟩)],argTypes:=#[TS,TS,TS] },type:=TS,pos := "name.go:60",after:=#[{ on:=14,ground:=Ground.data }],guard:=U }).run PP w=.ok (.enter 259 #[.string (mkS conds),.string ⟨#[32]⟩,.string ⟨#[32,66]⟩]) w:=by
 have hf:a.eval (.func 259)=.func (.func 259) #[] #[]:=rfl;have hc:∀v,a.eval (.const v)=v:=λ_=>rfl
 simp[execOp,resolve,Deferred.ofValue,invoke,h,hf,hc,xu]
theorem Kw(a:Act)(h:a.eval (.tmp 14)=.string (mkS conds))(w:Y):(execOp a.eval { dst:=O 15,op:=Op.call { callee:=Callee.value (Operand.func 259),args:=#[Operand.tmp 14,Operand.const (Value.string ⟨#[32]⟩),Operand.const (Value.string ⟨#[32,66,76]⟩)],argTypes:=#[TS,TS,TS] },type:=TS,pos := "name.go:61",after:=#[{ on:=19,ground:=Ground.data },{ on:=15,ground:=Ground.chain }],guard:=U }).run PP w=.ok (.enter 259 #[.string (mkS conds),.string ⟨#[32]⟩,.string ⟨#[32,66,76]⟩]) w:=by
 have hf:a.eval (.func 259)=.func (.func 259) #[] #[]:=rfl;have hc:∀v,a.eval (.const v)=v:=λ_=>rfl
 simp[execOp,resolve,Deferred.ofValue,invoke,h,hf,hc,xu]
theorem JM{b:G->zaf}(hb:∀e∈ins,b e.1=Z)(x:NK):bJ ins b x=pR x:=by
 have h1:bJ ins b x=ins.findSome? λe=>if e.2.1=x then O e.2.2 else U:=by
  unfold bJ;revert hb;generalize ins=l;intro hb
  induction l with
  |nil=>rfl
  |cons e l ih=>
   rw[List.findSome?_cons,List.findSome?_cons,ih λe he=>hb e (by simp[he])];simp[hb e (by simp)]
 have h2:pR x=(ins.map λe=>(e.2.1,e.2.2)).findSome? λe=>if e.1=x then O e.2 else U:=by
  have e:(ins.map λe=>(e.2.1,e.2.2))=L.nameRows:=by decide +kernel
  rw[e];unfold pR;generalize L.nameRows=l
  induction l with
  |nil=>rfl
  |cons e l ih=>
   rw[List.find?_cons,List.findSome?_cons];by_cases h:e.1=x;·simp[h]
   ·have:(e.1 == x)=F:=by simpa using h
    simp only[this,h,if_false];exact ih
 rw[h1,h2,List.findSome?_map];rfl
set_option maxHeartbeats 8000000 in
theorem GU(m:Int)(w:Y)(hm:w.cell? ⟨0,0,U⟩=O (.int .i64 m)) :
  Calls PP 224 #[] w λe w'=>∃B,e=.returned (.map (O B))/\w.heap.size<=B/\bC w' B 31 pR/\Below w.heap.size w w':=by
 go_enter Tryz.func224,Tryz.ntmps224
 go_wp2
 refine wp_region_any (by kernel_rfl) ?_;change wpAny _ _ _ _ _ _ _ (World.drew _);refine xg (by kernel_rfl) (RInv w ⟨#[],[]⟩) ?_ ?_ _ _ _ _ (by simp) (by decide) ?_
 ·
  intro b a w' i o hI hi ho hb hdep;rcases Ny (by simpa using hi) with rfl|rfl|rfl|rfl|rfl|rfl|rfl|rfl|rfl|rfl|rfl|rfl|rfl|rfl|rfl|rfl|rfl|rfl|rfl|rfl|rfl|rfl|rfl|rfl|rfl|rfl|rfl|rfl|rfl|rfl|rfl
  ·
   obtain rfl:=NF (ho.symm.trans (rfl:_=O _));refine aA ho rfl ?_;unfold Oper.wp;exact hI.make hb
  ·
   obtain rfl:=NF (ho.symm.trans (rfl:_=O _));refine aA ho rfl ?_;exact bg (Ko a w') (hI.pure (λB _=>bL (by simp[mid])) (by decide) (by decide) hb (λh=>absurd h (by decide)) (λ_ _=>rfl) (Below.refl _ _))
  ·
   obtain rfl:=NF (ho.symm.trans (rfl:_=O _));refine aA ho rfl ?_;have h0:b 0=Z:=hdep ⟨0,.data⟩ (by simp) rfl;have hk:b 1=Z:=hdep ⟨1,.data⟩ (by simp) rfl;exact hI.lay (e:=(2,(1,0,F),aK (1,0,F))) (by simp[ins]) hb h0 (Or.inl rfl) rfl (hI.slot (i:=1) (by simp[mid]) hk) rfl ic (λ_ h=>h)
  ·
   obtain rfl:=NF (ho.symm.trans (rfl:_=O _));refine aA ho rfl ?_;exact bg (Kq a w') (hI.pure (λB _=>bL (by simp[mid])) (by decide) (by decide) hb (λh=>absurd h (by decide)) (λ_ _=>rfl) (Below.refl _ _))
  ·
   obtain rfl:=NF (ho.symm.trans (rfl:_=O _));refine aA ho rfl ?_;have h0:b 0=Z:=hdep ⟨0,.data⟩ (by simp) rfl;have hk:b 3=Z:=hdep ⟨3,.data⟩ (by simp) rfl;exact hI.lay (e:=(4,(1,0,Z),aK (1,0,Z))) (by simp[ins]) hb h0 (Or.inl rfl) rfl (hI.slot (i:=3) (by simp[mid]) hk) rfl ic (λ_ h=>h)
  ·
   obtain rfl:=NF (ho.symm.trans (rfl:_=O _));refine aA ho rfl ?_;exact bg (Kr a w') (hI.pure (λB _=>bL (by simp[mid])) (by decide) (by decide) hb (λh=>absurd h (by decide)) (λ_ _=>rfl) (Below.refl _ _))
  ·
   obtain rfl:=NF (ho.symm.trans (rfl:_=O _));refine aA ho rfl ?_;have h0:b 0=Z:=hdep ⟨0,.data⟩ (by simp) rfl;have hk:b 5=Z:=hdep ⟨5,.data⟩ (by simp) rfl;exact hI.lay (e:=(6,(1,8,Z),aK (1,8,Z))) (by simp[ins]) hb h0 (Or.inl rfl) rfl (hI.slot (i:=5) (by simp[mid]) hk) rfl ic (λ_ h=>h)
  ·
   obtain rfl:=NF (ho.symm.trans (rfl:_=O _));refine aA ho rfl ?_;exact bg (Kt a w') (hI.pure (λB _=>bL (by simp[mid])) (by decide) (by decide) hb (λh=>absurd h (by decide)) (λ_ _=>rfl) (Below.refl _ _))
  ·
   obtain rfl:=NF (ho.symm.trans (rfl:_=O _));refine aA ho rfl ?_;have h0:b 0=Z:=hdep ⟨0,.data⟩ (by simp) rfl;have hk:b 7=Z:=hdep ⟨7,.data⟩ (by simp) rfl;exact hI.lay (e:=(8,(3,0,F),aK (3,0,F))) (by simp[ins]) hb h0 (Or.inl rfl) rfl (hI.slot (i:=7) (by simp[mid]) hk) rfl ic (λ_ h=>h)
  ·
   obtain rfl:=NF (ho.symm.trans (rfl:_=O _));refine aA ho rfl ?_;exact bg (Ku a w') (hI.pure (λB _=>bL (by simp[mid])) (by decide) (by decide) hb (λh=>absurd h (by decide)) (λ_ _=>rfl) (Below.refl _ _))
  ·
   obtain rfl:=NF (ho.symm.trans (rfl:_=O _));refine aA ho rfl ?_;have h0:b 0=Z:=hdep ⟨0,.data⟩ (by simp) rfl;have hk:b 9=Z:=hdep ⟨9,.data⟩ (by simp) rfl;exact hI.lay (e:=(10,(4,0,F),aK (4,0,F))) (by simp[ins]) hb h0 (Or.inl rfl) rfl (hI.slot (i:=9) (by simp[mid]) hk) rfl ic (λ_ h=>h)
  ·
   obtain rfl:=NF (ho.symm.trans (rfl:_=O _));refine aA ho rfl ?_;exact bg (Ii a w') (hI.pure (λB _=>bL (by simp[mid])) (by decide) (by decide) hb (λh=>absurd h (by decide)) (λ_ _=>rfl) (Below.refl _ _))
  ·
   obtain rfl:=NF (ho.symm.trans (rfl:_=O _));refine aA ho rfl ?_;have h0:b 0=Z:=hdep ⟨0,.data⟩ (by simp) rfl;have hk:b 11=Z:=hdep ⟨11,.data⟩ (by simp) rfl;exact hI.lay (e:=(12,(5,0,F),aK (5,0,F))) (by simp[ins]) hb h0 (Or.inl rfl) rfl (hI.slot (i:=11) (by simp[mid]) hk) rfl ic (λ_ h=>h)
  ·
   obtain rfl:=NF (ho.symm.trans (rfl:_=O _));refine aA ho rfl ?_;exact bg (Ij a w') (hI.pure (λB _=>bL (by simp[mid])) (by decide) (by decide) hb (λh=>absurd h (by decide)) (λ_ _=>rfl) (Below.refl _ _))
  ·
   obtain rfl:=NF (ho.symm.trans (rfl:_=O _));refine aA ho rfl ?_;unfold Oper.wp;show Oper.upon PP _ a _ _ (.ok (.value (a.eval (.tmp 1))) w');rw[hI.cnd];exact hI.pure (λB _=>bL (by simp[mid])) (by decide) (by decide) hb (λh=>absurd h (by decide)) (λ_ _=>rfl) (Below.refl _ _)
  ·
   obtain rfl:=NF (ho.symm.trans (rfl:_=O _));refine aA ho rfl ?_;have hu:b 14=Z:=hdep ⟨14,.data⟩ (by simp) rfl;have hs:=hI.slot (i:=14) (d:=10) (v:=.string (mkS conds)) (by simp[mid]) hu;have hm':w'.cell? ⟨0,0,U⟩=O (.int .i64 m):=by rw[hI.below.cell (World.block_lt_of_cell? _ _ hm)];exact hm
   refine rT (Kv a hs w') ?_;refine(rD (mkS conds) ⟨#[32]⟩ ⟨#[32,66]⟩ m w' (by decide) hm' (by decide) (λh=>absurd (zaj ByteArray.size h) (by decide)) mJ.1 (Og (Nat.add_le_add_left (Nat.mul_le_mul_left _ (by decide)) _) mJ.2)).mono ?_;rintro e w'' ⟨rfl,hbw⟩;have hv:(⟨(Lib.replaceK _ _ (Lib.replaceNum (mkS conds).data.toList _ (-1)) (mkS conds).data.toList).toArray⟩:ByteArray)=mkS ((aK (7,0,F)).drop 1):=zaj mkS Nf;exact⟨_,zaj (λx=>Ending.returned (Value.string x)) hv,hI.pure (λB _=>bL (by simp[mid])) (by decide) (by decide) hb (λh=>absurd h (by decide)) (λB hB=>hbw.block B hB) (hbw.mono hI.below.size)⟩
  ·
   obtain rfl:=NF (ho.symm.trans (rfl:_=O _));refine aA ho rfl ?_;have hu:b 15=Z:=hdep ⟨15,.data⟩ (by simp) rfl;have hs:=hI.slot (i:=15) (d:=11) (v:=.string (mkS ((aK (7,0,F)).drop 1))) (by simp[mid]) hu;exact bg (Mg a hs w') (hI.pure (λB _=>bL (by simp[mid])) (by decide) (by decide) hb (λh=>absurd h (by decide)) (λ_ _=>rfl) (Below.refl _ _))
  ·
   obtain rfl:=NF (ho.symm.trans (rfl:_=O _));refine aA ho rfl ?_;have h0:b 0=Z:=hdep ⟨0,.data⟩ (by simp) rfl;have hk:b 13=Z:=hdep ⟨13,.data⟩ (by simp) rfl;have hu:b 16=Z:=hdep ⟨16,.data⟩ (by simp) rfl;exact hI.lay (e:=(17,(7,0,F),aK (7,0,F))) (by simp[ins]) hb h0 (Or.inr ⟨12,rfl,hI.slot (i:=16) (by simp[mid]) hu⟩) rfl (hI.slot (i:=13) (by simp[mid]) hk) rfl ic (λ_ h=>h)
  ·
   obtain rfl:=NF (ho.symm.trans (rfl:_=O _));refine aA ho rfl ?_;exact bg (Ik a w') (hI.pure (λB _=>bL (by simp[mid])) (by decide) (by decide) hb (λh=>absurd h (by decide)) (λ_ _=>rfl) (Below.refl _ _))
  ·
   obtain rfl:=NF (ho.symm.trans (rfl:_=O _));refine aA ho rfl ?_;unfold Oper.wp;show Oper.upon PP _ a _ _ (.ok (.value (a.eval (.tmp 1))) w');rw[hI.cnd];exact hI.pure (λB _=>bL (by simp[mid])) (by decide) (by decide) hb (λh=>absurd h (by decide)) (λ_ _=>rfl) (Below.refl _ _)
  ·
   obtain rfl:=NF (ho.symm.trans (rfl:_=O _));refine aA ho rfl ?_;have hu:b 19=Z:=hdep ⟨19,.data⟩ (by simp) rfl;have hs:=hI.slot (i:=19) (d:=14) (v:=.string (mkS conds)) (by simp[mid]) hu;have hm':w'.cell? ⟨0,0,U⟩=O (.int .i64 m):=by rw[hI.below.cell (World.block_lt_of_cell? _ _ hm)];exact hm
   refine rT (Kw a hs w') ?_;refine(rD (mkS conds) ⟨#[32]⟩ ⟨#[32,66,76]⟩ m w' (by decide) hm' (by decide) (λh=>absurd (zaj ByteArray.size h) (by decide)) mJ.1 (Og (Nat.add_le_add_left (Nat.mul_le_mul_left _ (by decide)) _) mJ.2)).mono ?_;rintro e w'' ⟨rfl,hbw⟩;have hv:(⟨(Lib.replaceK _ _ (Lib.replaceNum (mkS conds).data.toList _ (-1)) (mkS conds).data.toList).toArray⟩:ByteArray)=mkS ((aK (7,0,Z)).drop 2):=zaj mkS MM;exact⟨_,zaj (λx=>Ending.returned (Value.string x)) hv,hI.pure (λB _=>bL (by simp[mid])) (by decide) (by decide) hb (λh=>absurd h (by decide)) (λB hB=>hbw.block B hB) (hbw.mono hI.below.size)⟩
  ·
   obtain rfl:=NF (ho.symm.trans (rfl:_=O _));refine aA ho rfl ?_;have hu:b 20=Z:=hdep ⟨20,.data⟩ (by simp) rfl;have hs:=hI.slot (i:=20) (d:=15) (v:=.string (mkS ((aK (7,0,Z)).drop 2))) (by simp[mid]) hu;exact bg (Mh a hs w') (hI.pure (λB _=>bL (by simp[mid])) (by decide) (by decide) hb (λh=>absurd h (by decide)) (λ_ _=>rfl) (Below.refl _ _))
  ·
   obtain rfl:=NF (ho.symm.trans (rfl:_=O _));refine aA ho rfl ?_;have h0:b 0=Z:=hdep ⟨0,.data⟩ (by simp) rfl;have hk:b 18=Z:=hdep ⟨18,.data⟩ (by simp) rfl;have hu:b 21=Z:=hdep ⟨21,.data⟩ (by simp) rfl;exact hI.lay (e:=(22,(7,0,Z),aK (7,0,Z))) (by simp[ins]) hb h0 (Or.inr ⟨16,rfl,hI.slot (i:=21) (by simp[mid]) hu⟩) rfl (hI.slot (i:=18) (by simp[mid]) hk) rfl ic (λ_ h=>h)
  ·
   obtain rfl:=NF (ho.symm.trans (rfl:_=O _));refine aA ho rfl ?_;exact bg (Il a w') (hI.pure (λB _=>bL (by simp[mid])) (by decide) (by decide) hb (λh=>absurd h (by decide)) (λ_ _=>rfl) (Below.refl _ _))
  ·
   obtain rfl:=NF (ho.symm.trans (rfl:_=O _));refine aA ho rfl ?_;have h0:b 0=Z:=hdep ⟨0,.data⟩ (by simp) rfl;have hk:b 23=Z:=hdep ⟨23,.data⟩ (by simp) rfl;exact hI.lay (e:=(24,(8,0,F),aK (8,0,F))) (by simp[ins]) hb h0 (Or.inl rfl) rfl (hI.slot (i:=23) (by simp[mid]) hk) rfl ic (λ_ h=>h)
  ·
   obtain rfl:=NF (ho.symm.trans (rfl:_=O _));refine aA ho rfl ?_;exact bg (Im a w') (hI.pure (λB _=>bL (by simp[mid])) (by decide) (by decide) hb (λh=>absurd h (by decide)) (λ_ _=>rfl) (Below.refl _ _))
  ·
   obtain rfl:=NF (ho.symm.trans (rfl:_=O _));refine aA ho rfl ?_;have h0:b 0=Z:=hdep ⟨0,.data⟩ (by simp) rfl;have hk:b 25=Z:=hdep ⟨25,.data⟩ (by simp) rfl;exact hI.lay (e:=(26,(9,0,F),aK (9,0,F))) (by simp[ins]) hb h0 (Or.inl rfl) rfl (hI.slot (i:=25) (by simp[mid]) hk) rfl ic (λ_ h=>h)
  ·
   obtain rfl:=NF (ho.symm.trans (rfl:_=O _));refine aA ho rfl ?_;exact bg (Io a w') (hI.pure (λB _=>bL (by simp[mid])) (by decide) (by decide) hb (λh=>absurd h (by decide)) (λ_ _=>rfl) (Below.refl _ _))
  ·
   obtain rfl:=NF (ho.symm.trans (rfl:_=O _));refine aA ho rfl ?_;have h0:b 0=Z:=hdep ⟨0,.data⟩ (by simp) rfl;have hk:b 27=Z:=hdep ⟨27,.data⟩ (by simp) rfl;exact hI.lay (e:=(28,(10,0,F),aK (10,0,F))) (by simp[ins]) hb h0 (Or.inl rfl) rfl (hI.slot (i:=27) (by simp[mid]) hk) rfl ic (λ_ h=>h)
  ·
   obtain rfl:=NF (ho.symm.trans (rfl:_=O _));refine aA ho rfl ?_;have h0:b 0=Z:=hdep ⟨0,.data⟩ (by simp) rfl;obtain⟨B,hB,hs⟩:=hI.map;have h2:a.eval (.tmp 2)=.map (O B):=hs 0 2 _ (by simp[slots]) h0;unfold Oper.wp;show Oper.upon PP _ a _ _ (.ok (.value (a.eval (.tmp 2))) w');rw[h2];exact hI.pure (λB' h=>by rw[h h0 B h2];simp[slots]) (by decide) (by decide) hb (λ_=>h0) (λ_ _=>rfl) (Below.refl _ _)
  ·
   obtain rfl:=NF (ho.symm.trans (rfl:_=O _));refine aA ho rfl ?_;have h29:b 29=Z:=hdep ⟨29,.data⟩ (by simp) rfl;have h0:b 0=Z:=hI.early 29 (by decide) h29;obtain⟨B,hB,hs⟩:=hI.map;have h2:a.eval (.tmp 2)=.map (O B):=hs 0 2 _ (by simp[slots]) h0;have h20:a.eval (.tmp 20)=.map (O B):=hs 29 20 _ (by simp[slots]) h29;unfold Oper.wp;show Oper.upon PP _ a _ _ (.ok (.value (a.eval (.tmp 20))) w');rw[h20];exact hI.pure (λB' h=>by rw[h h0 B h2];simp[slots]) (by decide) (by decide) hb (λ_=>h0) (λ_ _=>rfl) (Below.refl _ _)
 ·
  intro b a w' hI hall;obtain⟨⟨ts,rfl,hts⟩,hc,hbw,hea,B,hB,hs⟩:=hI;have h30:ts.getD 0 undef=.map (O B):=hs 30 0 (.map (O B)) (by simp[slots]) (hall 30 (by decide));obtain⟨hle,n,f,hn,hM,hf⟩:=hB (hall 0 (by decide));have hn31:n<=31:=Og hn (by simpa using(List.countP_le_length (l:=List.range 31) (p:=b)));have hf':f=pR:=by
   funext x;rw[hf];have hb':∀e∈ins,b e.1=Z:=λe he=>hall e.1 (by have:=(by decide:∀e∈ins,e.1<31) e he;simpa using this)
   exact JM hb' x
  subst hf';obtain⟨ts⟩:=ts
  match ts,hts with
  |[t0,t1,t2,t3,t4,t5,t6,t7,t8,t9,t10,t11,t12,t13,t14,t15,t16,t17,t18,t19,t20],_=>
   have h30':t0=.map (O B):=h30;subst h30';have hM':bC w' B 31 pR:=by
    obtain⟨D,h1,h2⟩:=hM;exact⟨D,h1.mono hn31,h2⟩
   go_wp2
   go_ret
   exact⟨B,rfl,hle,hM',hbw⟩
 ·
  refine⟨⟨_,rfl,rfl⟩,rfl,(Below.refl _ _).drew,λi hi h=>?_,0,λh=>?_,λi d v _ h=>?_⟩;·rw[jf] at h;cases h
  ·rw[jf] at h;cases h
  ·rw[jf] at h;cases h
end
end Rv
namespace Rv
open Go Go.RowKit Go.Proofs Go.Maps
noncomputable section
set_option maxRecDepth 1000000
theorem EN:∀e∈L.nameRows,e.2.all (λc=>c.toNat<128)=Z/\(Lib.fields e.2).length<=16/\e.2.length<100:=by decide +kernel
def rowOk(e:NK×Str):zaf:=(List.range (Lib.fields e.2).length).all λi=>L.nameTbl.any λt=>t == ((e.1,i),(e.1.1,e.1.2.1+i,e.1.2.2),Lib.trimSuffix ((Lib.fields e.2).getD i []) [46])
theorem rows_ok:∀e∈L.nameRows,rowOk e=Z:=by decide +kernel
theorem JN:∀e∈L.nameRows,∀t∈L.nameTbl,t.1.1=e.1->t.1.2<(Lib.fields e.2).length:=by decide +kernel
theorem Bl:∀t∈L.nameTbl,(∃e∈L.nameRows,e.1=t.1.1)/\t.2.2.length<=10:=by decide +kernel
theorem J2:L.nameTbl.Pairwise λa b=>a.2.1≠b.2.1:=by decide +kernel
theorem L8:L.nameTbl.Pairwise λa b=>a.1≠b.1:=by decide +kernel
theorem EO:∀e∈L.nameRows,0<=e.1.1/\e.1.1<=10/\0<=e.1.2.1/\e.1.2.1<=8:=by decide +kernel
theorem JK{x:NK}{s:Str}(h:pR x=O s):(x,s)∈L.nameRows:=by
 unfold pR at h;obtain⟨e,he,hs⟩:=Option.map_eq_some_iff.1 h;have h1:=List.mem_of_find?_eq_some he;have h2:=List.find?_some he;have h3:e.1=x:=by simpa using h2
 rw[<- h3,<- hs];exact h1
def Bj(x:NK):zad Str:=bJ L.nameTbl (λ_=>Z) x
theorem Jr{w:Y}{B n:G}{D:DataW zak}(h:w.ownsMap PP TW (plainElem PP TS) B n D):Maps.size D<=n:=by
 obtain⟨es,c,_,_,hs,rfl⟩:=h;simpa[Maps.size,length_sorted] using hs
structure KB where
 k:NK
theorem M4:∀key l,keyOf PP TW key=O l->∃x:KB,key=kv x.k:=λkey l h=>by obtain⟨k,e,_⟩:=xK h;exact⟨⟨k⟩,e⟩
theorem zQ{x:NK}{l:Lit}(h:keyOf PP TW (kv x)=O l):okK x/\l=kl x:=by
 obtain⟨k,e,hok,hl⟩:=xK h;have:x=k:=by
  obtain⟨a1,a2,a3⟩:=x;obtain⟨b1,b2,b3⟩:=k;simp[kv] at e;obtain⟨rfl,rfl,rfl⟩:=e;rfl
 subst this;exact⟨hok,hl⟩
theorem M5:∀v y,plainElem (H:=zak) PP TS v=O y->∃s:Str,v=.string (mkS s):=λv y h=>by obtain⟨s,e,_⟩:=tX h;exact⟨s,e⟩
def uw(left:Lit->zaf)(e:NK×G):zaf:=!left (kl e.1)
def pIn(left:Lit->zaf)(cur:NK)(i:G)(e:NK×G):zaf:=if e.1=cur then zae (e.2<i) else !left (kl e.1)
theorem Mw(W:Y)(b o:G)(n:Int)(h:W.cell? ⟨b,o,U⟩=O (.int .i64 n)):(Instr.loadAt 3 (.pointer (O ⟨b,o,U⟩))).run PP W=.ok (.int .i64 n) W:=by go_simp
theorem Nw(W:Y)(b o:G)(n:zaf)(h:W.cell? ⟨b,o,U⟩=O (.bool n)):(Instr.loadAt 4 (.pointer (O ⟨b,o,U⟩))).run PP W=.ok (.bool n) W:=by go_simp
theorem Nr(W:Y)(b:G):(Instr.fieldAt TW (.pointer (O ⟨b,0,U⟩)) 0).run PP W=.ok (.pointer (O ⟨b,0,U⟩)) W:=by go_simp
theorem Ns(W:Y)(b:G):(Instr.fieldAt TW (.pointer (O ⟨b,0,U⟩)) 1).run PP W=.ok (.pointer (O ⟨b,1,U⟩)) W:=by go_simp
theorem Nt(W:Y)(b:G):(Instr.fieldAt TW (.pointer (O ⟨b,0,U⟩)) 2).run PP W=.ok (.pointer (O ⟨b,2,U⟩)) W:=by go_simp
theorem Np(W:Y)(k:NK):(Instr.build TW #[(0,.int .i64 k.1),(1,.int .i64 k.2.1),(2,.bool k.2.2)]).run PP W=.ok (kv k) W:=by kernel_rfl
theorem Nn(W:Y)(x y:Int)(c d:Operand)(h:-9223372036854775808<=x+y/\x+y<=9223372036854775807):(do eqGuard .add 3 c d (.int .i64 x) (.int .i64 y);binOp .add 3 (.int .i64 x) (.int .i64 y):Sem N).run PP W=.ok (.int .i64 (x+y)) W:=by
 go_simp
 rw[IntKind.wrap_i64];omega
structure om (w1:Y) (t0:Array N) (sl:E (G×G×N)) (Fin:Y->Prop) (b:G->zaf) (a:Act) (w':Y):Prop where
 act:∃ts,a=⟨ts,[]⟩/\ts.size=36
 same:∀t:G,t<22\/33<t->a.eval (.tmp t)=t0.getD t undef
 slot:∀j d v,(j,d,v)∈sl->b j=Z->a.eval (.tmp d)=v
 cl:b 12=Z->∀j,j<12->b j=Z
 wld:(b 12=Z->Fin w')/\(b 12=F->w'=w1)
structure H7 (sl:E (G×G×N)):Prop where
 one:sl.map (λx=>x.1)=[0,1,2,3,4,5,6,7,8,9,10,11]
 two:sl.map (λx=>x.2.1)=[22,23,24,25,26,27,28,29,30,31,32,33]
theorem om.pure{w1 w':Y}{t0:Array N}{a:Act}{sl:E (G×G×N)}{Fin:Y->Prop}{b:G->zaf}(h:om w1 t0 sl Fin b a w')(ok:H7 sl){i d:G}{v:N}(hm:(i,d,v)∈sl)(hi:i<12)(hb:b i=F) :
  om w1 t0 sl Fin (λk=>b k||zae (k=i)) (a.put (O d) v) w':=by
 obtain⟨⟨ts,rfl,hts⟩,hsm,hs,hc,hw⟩:=h;have hd:22<=d/\d<=33:=by
  have h1:d∈sl.map (λx=>x.2.1):=N8.2 ⟨_,hm,rfl⟩;rw[ok.two] at h1;exact(by decide:∀d∈[22,23,24,25,26,27,28,29,30,31,32,33],22<=d/\d<=33) d h1
 have hlt:d<(⟨ts,[]⟩:Act).tmps.size:=by show d<ts.size;omega
 have h12:b 12=F:=by
  cases e:b 12;·rfl
  ·rw[hc e i hi] at hb;cases hb
 have h12':(b 12||zae (12=i))=F:=by
  have:¬12=i:=by omega
  simp[h12,this]
 refine⟨⟨ts.setIfInBounds d v,rfl,by simpa using hts⟩,λt ht=>?_,λj e u hj hbj=>?_,λe=>?_,λe=>?_,λ_=>hw.2 h12⟩
 ·have hne:t≠d:=by omega
  rw[eval_put hlt,zai hne];exact hsm t ht
 ·rw[eval_put hlt];by_cases hed:e=d
  ·have:=nI (f:=λx:G×G×N=>x.2.1) (by rw[ok.two];decide) _ hj _ hm hed;rw[zah hed];simp only[NI] at this;exact this.2.2.symm
  ·rw[zai hed];refine hs j e u hj ?_;simp only[Bool.or_eq_true,NH] at hbj;rcases hbj with h|h
   ·exact h
   ·subst h;have:=nI (f:=λx:G×G×N=>x.1) (by rw[ok.one];decide) _ hj _ hm rfl;simp only[NI] at this;exact absurd this.2.1 hed
 ·rw[h12'] at e;cases e
 ·rw[h12'] at e;cases e
theorem rU{s:Sem N}{v:N}{W:Y}(h:s.run PP W=.ok v W):(do pure (Next.value (<- s)):Sem Next).run PP W=.ok (.value v) W:=by
 simp[h,Result.andThen]
theorem om.w12{w1 w':Y}{t0:Array N}{a:Act}{sl:E (G×G×N)}{Fin:Y->Prop}{b:G->zaf}(h:om w1 t0 sl Fin b a w'){i:G}(hi:i<12)(hb:b i=F):w'=w1:=by
 refine h.wld.2 ?_;cases e:b 12;·rfl
 ·rw[h.cl e i hi] at hb;cases hb
theorem om.lay{w1 w':Y}{t0:Array N}{a:Act}{sl:E (G×G×N)}{B n:G}{f:NK->zad Str}{b:G->zaf}{k:NK}{s:Str}{K:Act->Y->Prop}{Q:Exit->Act->Y->Prop}{o:Oper}
  (h:om w1 t0 sl (λw'=>bC w' B (n+1) (λz=>if z=k then O s else f z)/\w1.grownBy w' (O B)) b a w') (hb:b 12=F) (hall:∀j,j<12->b j=Z) (hM:bC w1 B n f) (hn:n<1000000) (hk:okK k) (hs:s.length<=1000000)
  (hop:o.op=.mapUpdate TM (.tmp 22) (.tmp 31) (.tmp 33)) (hd:o.dst=U) (h22:a.eval (.tmp 22)=.map (O B)) (h31:a.eval (.tmp 31)=kv k) (h33:a.eval (.tmp 33)=.string (mkS s)) (ok:H7 sl)
  (hK:∀w'',om w1 t0 sl (λw'=>bC w' B (n+1) (λz=>if z=k then O s else f z)/\w1.grownBy w' (O B)) (λk=>b k||zae (k=12)) a w''->K a w''):o.wp PP a w' K Q:=by
 obtain⟨ha,hsm,hsl,hc,hw⟩:=h;obtain rfl:=hw.2 hb;obtain⟨w'',hrun,hM',hg⟩:=hM.put hn k s hk hs;have hput:a.put o.dst undef=a:=by rw[hd];rfl
 have hfin:=hK w'' ⟨ha,hsm,λj d v hj hbj=>by
  refine hsl j d v hj ?_;simp only[Bool.or_eq_true,NH] at hbj;rcases hbj with h|h;·exact h
  ·exfalso;have h2:j∈sl.map (λx=>x.1):=N8.2 ⟨_,hj,rfl⟩;rw[ok.one,h] at h2;exact absurd h2 (by decide),λ_ j hj=>by simp[hall j hj],λ_=>⟨hM',hg⟩,λe=>by simp at e⟩
 unfold Oper.wp;simp[execOp,hop,h22,h31,h33,hrun,Result.andThen];rw[Oper.upon_skip,hput];exact hfin
theorem FO:∀args w,(callFunc 226 args).run PP w=.ok (.enter 226 args) w:=enters_of Tryz.func226 (by kernel_rfl) rfl
theorem Iu(a:Act){s:Str}(h:a.eval (.tmp 32)=.string (mkS s))(w:Y):(execOp a.eval { dst:=O 33,op:=Op.call { callee:=Callee.value (Operand.func 226),args:=#[Operand.tmp 32,Operand.const (Value.string ⟨#[46]⟩)],argTypes:=#[TS,TS] },type:=TS,pos := "name.go:73",after:=#[{ on:=10,ground:=Ground.data }],guard:=U }).run PP w=.ok (.enter 226 #[.string (mkS s),.string ⟨#[46]⟩]) w:=by
 have hf:a.eval (.func 226)=.func (.func 226) #[] #[]:=rfl;have hc:∀v,a.eval (.const v)=v:=λ_=>rfl
 simp[execOp,resolve,Deferred.ofValue,invoke,h,hf,hc,FO]
theorem MX(a:Act){k:NK}(h1:a.eval (.tmp 24)=.int .i64 k.1)(h2:a.eval (.tmp 28)=.int .i64 k.2.1)(h3:a.eval (.tmp 30)=.bool k.2.2)(w:Y):(execOp a.eval { dst:=O 31,op:=Op.build TW #[(0,Operand.tmp 24),(1,Operand.tmp 28),(2,Operand.tmp 30)],type:=TW,pos := "name.go:73",after:=#[{ on:=2,ground:=Ground.data },{ on:=6,ground:=Ground.data },{ on:=8,ground:=Ground.data }],guard:=U }).run PP w=.ok (.value (kv k)) w:=by
 simp only[execOp,List.map_toArray,NY,List.map_nil];rw[h1,h2,h3];exact rU (Np w k)
theorem LK:∀e∈L.nameRows,∀s∈Lib.fields e.2,s.length<=20:=by decide +kernel
theorem MC{i:G}(h:i<13):i=0\/i=1\/i=2\/i=3\/i=4\/i=5\/i=6\/i=7\/i=8\/i=9\/i=10\/i=11\/i=12:=by omega
theorem cell_grown{w w':Y}{row:zad G}(hg:w.grownBy w' row){p:Addr}{v:N}(h:w.cell? p=O v)(hne:O p.block≠row):w'.cell? p=O v:=by
 have hlt:=World.block_lt_of_cell? _ _ h;rw[World.cell?_of_block (w:=w) (hg.block p.block hlt hne)];exact h
theorem Dm:∀e∈L.nameRows,pR e.1=O e.2:=by decide +kernel
structure Cl (x:NK) (fs:E Str) (S:G) (w:Y):Prop where
 c0:w.cell? ⟨S,0,U⟩=O (.int .i64 x.1)
 c1:w.cell? ⟨S,1,U⟩=O (.int .i64 x.2.1)
 c2:w.cell? ⟨S,2,U⟩=O (.bool x.2.2)
 fs:∀(j:G) s,fs[j]?=O s->w.cell? ⟨S+1,j,U⟩=O (.string (mkS s))
theorem Cl.kept{x:NK}{fs:E Str}{S B:G}{w w':Y}(h:Cl x fs S w)(hg:w.grownBy w' (O B))(hB:B<S):Cl x fs S w':=
 ⟨cell_grown hg h.c0 (by simp;omega),cell_grown hg h.c1 (by simp;omega),cell_grown hg h.c2 (by simp;omega),λj s hj=>cell_grown hg (h.fs j s hj) (by simp;omega)⟩
theorem Cl.made(x:NK)(fs:E Str){w:Y}{S:G}(hS:w.heap.size=S):Cl x fs S ((w.alloc (.cells #[.int .i64 x.1,.int .i64 x.2.1,.bool x.2.2] TW)).alloc (.cells (fs.map λl=>Value.string ⟨l.toArray⟩).toArray TS)):=by
 have h1:(w.alloc (.cells #[.int .i64 x.1,.int .i64 x.2.1,.bool x.2.2] TW)).heap.size=S+1:=by simp[hS]
 have hA:=(MapKept.heap_alloc w (.cells #[.int .i64 x.1,.int .i64 x.2.1,.bool x.2.2] TW)).1;have hB:=(MapKept.heap_alloc (w.alloc (.cells #[.int .i64 x.1,.int .i64 x.2.1,.bool x.2.2] TW)) (.cells (fs.map λl=>Value.string ⟨l.toArray⟩).toArray TS))
 have hA':=hB.2 S (by rw[h1];omega);rw[<- hS] at hA';rw[hA] at hA';rw[hS] at hA';have hB':=hB.1;rw[h1] at hB';refine⟨?_,?_,?_,λj s hj=>?_⟩;·rw[Lib.cell_of_heap hA'];rfl
 ·rw[Lib.cell_of_heap hA'];rfl
 ·rw[Lib.cell_of_heap hA'];rfl
 ·rw[Lib.cell_of_heap hB'];simp[hj,mkS]
set_option maxHeartbeats 8000000 in
theorem E9(m:Int)(w:Y)(hm:w.cell? ⟨0,0,U⟩=O (.int .i64 m)) (htab:Lib.TabIs PP w "strings.asciiSpace" .u8 Lib.asciiSpaceTab) :
  Calls PP 179 #[] w λe w'=>∃B,e=.returned (.map (O B))/\w.heap.size<=B/\bC w' B 100000 Bj/\Below w.heap.size w w':=by
 have hmm:=@run_makeMap PP;have hm1:(w.alloc (.map #[] 0)).cell? ⟨0,0,U⟩=O (.int .i64 m):=by rw[((Below.refl w.heap.size w).alloc (NL _) _).cell (World.block_lt_of_cell? _ _ hm)];exact hm
 go_enter Tryz.func179,Tryz.ntmps179
 go_wp2_with (first
  |(go_at_call 224;refine(GU m _ hm1).mono ?_;rintro e wa ⟨Br,rfl,hBr,hMr,hba⟩;obtain⟨D1,ho1,hD1,hD2⟩:=hMr)
  |(at_range;refine wpList_range_own _ rfl _ TM rfl TW TS nM w9 _ Br 31 _ rfl ho1 ?_;intro w0 hrg0 hg0 hs0)
  |go_in)
 go_frame
 have hsz1:(w.alloc (.map #[] 0)).heap.size=w.heap.size+1:=by simp
 rw[hsz1] at hBr hba;have hsa:=hba.size;rw[hsz1] at hsa;obtain⟨R,hR⟩:∃R,R=wa.heap.size:=⟨_,rfl⟩
 rw[<- hR] at hrg0 hs0 hsa⊢;have hbw0:Below w.heap.size w w0:=(((Below.refl _ _).alloc (NL _) _).trans (hba.mono (Nat.le_succ _))).grown hg0 (by rw[<- hR];omega) (λj hj=>by cases hj);have hM0:bC w0 w.heap.size 0 (λ_=>U):=((bC.made w).same (hba.block _ (Nat.lt_succ_self _))).kept hg0 (by simp);have hsd:Maps.size D1<=31:=Jr ho1;clear hm1 ho1 hba hR hsz1
 go_loopw [2] (λ_ wr=>∃left cnt n f,wr.ranges PP TW (plainElem PP TS) Br R 31 D1 left cnt/\(∀l,left l=Z->has D1 l=Z)/\bC wr w.heap.size n f/\n+100*cnt<=3100/\(∀x,f x=bJ L.nameTbl (uw left) x)/\Below w.heap.size w wr)
  (λ_ wr=>wr.rangeLeft Br R)
 case atStart=>
  refine⟨_,_,0,_,hrg0,λ_ h=>h,hM0,by omega,λx=>?_,hbw0⟩;unfold bJ;refine(List.findSome?_eq_none_iff.2 λt ht=>?_).symm;obtain⟨⟨e,he,hek⟩,_⟩:=Bl t ht;have h1:=(hD2 e.1 e.2 (Dm e he)).2.1;rw[hek] at h1;simp[uw,h1]
 case round=>
  obtain⟨left,cnt,n,f,hrg,hld,hM,hn,hf,hbw⟩:=hrel
  go_wp2_with (first
   |(at_next;refine wpList_next_ranges _ rfl _ rfl TW nM (plainElem PP TS) (λx:KB=>kv x.k) (λs:Str=>Value.string (mkS s)) M4 M5 Br R 31 D1 left cnt rfl hrg ?_ ?_)
   |go_in)
  ·
   intro hc0 hl0
   go_wp2
   go_ret
   refine⟨_,rfl,NL _,?_,hbw⟩;have:f=Bj:=by
    funext x;rw[hf];refine jV (λe _=>?_) x;simp[uw,hl0]
   subst this;obtain⟨D,h1,h2⟩:=hM;exact⟨D,h1.mono (by omega),h2⟩
  ·
   intro⟨x⟩ c l ya yb w1 cnt1 hkx hlx hcv hat hrg1 hlt hg1 hs1 hen;obtain⟨hok,rfl⟩:=zQ hkx;obtain⟨k',hok',hkl',hrf⟩:=hD1 _ (hld _ hlx);obtain rfl:=vz hok hok' hkl';obtain⟨r,hr⟩:=Option.isSome_iff_exists.1 hrf;obtain rfl:c=r:=by
    obtain⟨s,e1,e2⟩:=tX hcv;have e3:=(hD2 x r hr).2.2 (.lit (.bool F));rw[hat] at e3;have e4:s=r:=by
     have:=e2.symm.trans e3;simpa using this
    have e5:c=s:=by
     have:=zaj (λv=>match v with|Value.string b=>b.data.toList|_=>[]) e1;simpa[mkS] using this
    rw[e5,e4]
   simp only at hok hr hen hkx hlx;have hmem:=JK hr;obtain⟨hasc,hfl,hcl⟩:=EN _ hmem;simp only at hasc hfl hcl;have hbw1:Below w.heap.size w w1:=hbw.grown hg1 hbw.size (λj hj=>by cases hj;omega);have hen':(Instr.entry (.pointer (O ⟨R,0,U⟩))).run PP w1=.ok (.tuple #[.agg #[.int .i64 x.1,.int .i64 x.2.1,.bool x.2.2],.string (mkS c)]) w1:=hen;clear hen hcv hat hkx;have hbw2:=hbw1.alloc hbw1.size (.cells #[.int .i64 x.1,.int .i64 x.2.1,.bool x.2.2] TW)
   have htab1:Lib.TabIs PP (w1.alloc (.cells #[.int .i64 x.1,.int .i64 x.2.1,.bool x.2.2] TW)) "strings.asciiSpace" .u8 Lib.asciiSpaceTab:=wJ htab htab λg hg=>hbw2.block g hg
   have hF:=Tryz.strings_Fields_laid (mkS c) _ (by show c.length<_;omega) (ascii_of_all hasc) htab1;obtain⟨fs,hfs⟩:∃fs,Lib.fields c=fs:=⟨_,rfl⟩
   obtain⟨S,hS⟩:∃S,w1.heap.size=S:=⟨_,rfl⟩
   have hRS:R<S:=hS ▸ hrg1.lt;have hBS:Br<S:=hS ▸ hrg1.owns.lt;clear hs1;have hF':Calls PP 225 #[.string (mkS c)] (w1.alloc (.cells #[.int .i64 x.1,.int .i64 x.2.1,.bool x.2.2] TW)) λe w'=>e=.returned (.slice (O ⟨S+1,0,U⟩) fs.length fs.length) /\
     w1.grownBy w' U/\S+2<=w'.heap.size/\Cl x fs S w':=by
    have e:(w1.alloc (.cells #[.int .i64 x.1,.int .i64 x.2.1,.bool x.2.2] TW)).heap.size=S+1:=by simp[hS]
    rw[show Lib.fields (mkS c).data.toList=fs from hfs,e] at hF;refine hF.mono ?_;rintro e' w' ⟨rfl,rfl⟩;exact⟨rfl,(World.grownBy_alloc _ _ U).andThen (World.grownBy_alloc _ _ U) (by simp),by simp[hS],Cl.made x fs hS⟩
   clear hF htab1
   go_wp2_with (first
    |(go_at_call 225;refine hF'.mono ?_;rintro e w3 ⟨rfl,hg3,hs3,hcl3⟩)
    |go_in)
   have hrg3:=hrg1.kept hg3 (by simp) (by simp);have hM3:=(hM.kept hg1 (λe=>by have:=NF e;omega)).kept hg3 (by simp);have hbw3:=hbw1.grown hg3 hbw1.size (λj hj=>by cases hj);rw[hfs] at hfl;have hpIn:∀z,bJ L.nameTbl (uw left) z=bJ L.nameTbl (pIn (λz=>left z&&!z.sameKey (kl x)) x 0) z:=λz=>jV (λt ht=>by
    obtain⟨⟨e,he,hek⟩,_⟩:=Bl t ht;unfold uw pIn;by_cases h:t.1.1=x;·simp[h,hlx]
    ·have hne:kl t.1.1≠kl x:=λe'=>h (vz (hek ▸ (hD2 e.1 e.2 (Dm e he)).1) hok e')
     simp[h,sameKey_ne hne]) z
   have hpEnd:∀z,bJ L.nameTbl (pIn (λz=>left z&&!z.sameKey (kl x)) x fs.length) z=bJ L.nameTbl (uw (λz=>left z&&!z.sameKey (kl x))) z:=λz=>jV (λt ht=>by
    unfold uw pIn;by_cases h:t.1.1=x;·have:=JN _ hmem t ht h;simp only at this;rw[hfs] at this;simp[h,this,WideAt.sameKey_self (zR x)]
    ·simp[h]) z
   obtain⟨left1,hl1⟩:∃left1,(λz:Lit=>left z&&!z.sameKey (kl x))=left1:=⟨_,rfl⟩
   rw[hl1] at hrg3 hpIn hpEnd;have hld1:∀l,left1 l=Z->has D1 l=Z:=λl h=>by
    rw[<- hl1] at h;simp only[NJ] at h;exact hld l h.1
   clear hrg1 hg3 hg1 hF' hen' hbw2 hbw1 hS hl1
   go_loopw [17] (λvi wx=>∃(i n':G) (f':NK->zad Str),vi=.int .i64 i/\i<=fs.length/\wx.ranges PP TW (plainElem PP TS) Br R 31 D1 left1 cnt1/\bC wx w.heap.size n' f'/\n'<=n+i/\(∀z,f' z=bJ L.nameTbl (pIn left1 x i) z)/\Below w.heap.size w wx/\Cl x fs S wx)
    (λvi wx=>fs.length-(intOf vi).toNat)
   case atStart=>exact⟨0,n,f,rfl,Nat.zero_le _,hrg3,hM3,by omega,λz=>by rw[hf,hpIn],hbw3,hcl3⟩
   case round=>
    obtain⟨i,n',f',rfl,hi,hrgx,hMx,hnx,hfx,hbx,hclx⟩:=hrel;by_cases hlt':i<fs.length
    ·have hci:(i:Int)<(fs.length:Int):=by omega
     obtain⟨s,hsi⟩:∃s,fs[i]?=O s:=⟨fs[i],by simp[hlt']⟩
     have hcf:=hclx.fs i s hsi;have hrow:=rows_ok _ hmem;have hent:((x,i),(x.1,x.2.1+i,x.2.2),Lib.trimSuffix s [46])∈L.nameTbl:=by
      unfold rowOk at hrow;rw[Oa] at hrow;have:=hrow i (by simp only[hfs];simpa using hlt');obtain⟨t,ht,e⟩:=List.any_eq_true.1 this;have e':=eq_of_beq e;simp only[hfs] at e';have hg:fs.getD i []=s:=by simp[List.getD,hsi]
      rw[hg] at e';rw[<- e'];exact ht
     have hsmall:=EO _ hmem;simp only at hsmall;have hkn:okK (x.1,x.2.1+i,x.2.2):=⟨hok.1,by show(Lit.int .i64 (x.2.1+i)).wf=Z;exact WalkArith.wf_i64 (by omega)⟩
     have hvl:=(Bl _ hent).2;simp only at hvl;have hsl:s.length<=9223372036854775807:=Og (LK _ hmem s (hfs ▸ List.mem_of_getElem? hsi)) (by decide)
     go_wp2
     refine wp_region_any (by kernel_rfl) ?_;change wpAny _ _ _ _ _ _ _ (World.drew _);obtain⟨sl,hsl0⟩:∃sl:E (G×G×N),sl=[(0,22,.map (O w.heap.size)),(1,23,.pointer (O ⟨S,0,U⟩)),(2,24,.int .i64 x.1),(3,25,.pointer (O ⟨S,1,U⟩)),(4,26,.int .i64 x.2.1),(5,27,.int .i64 i),(6,28,.int .i64 (x.2.1+i)),
      (7,29,.pointer (O ⟨S,2,U⟩)),(8,30,.bool x.2.2),(9,31,kv (x.1,x.2.1+i,x.2.2)),(10,32,.string (mkS s)),(11,33,.string (mkS (Lib.trimSuffix s [46])))]:=⟨_,rfl⟩
     have ok:H7 sl:=by rw[hsl0];exact⟨rfl,rfl⟩
     have c0:wr.drew.cell? ⟨S,0,U⟩=O (.int .i64 x.1):=hclx.c0;have c1:wr.drew.cell? ⟨S,1,U⟩=O (.int .i64 x.2.1):=hclx.c1;have c2:wr.drew.cell? ⟨S,2,U⟩=O (.bool x.2.2):=hclx.c2;refine xg (by kernel_rfl) (om wr.drew _ sl (λw'=>bC w' w.heap.size (n'+1) (λz=>if z=(x.1,x.2.1+i,x.2.2) then O (Lib.trimSuffix s [46]) else f' z)/\wr.drew.grownBy w' (O w.heap.size))) ?_ ?_ _ _ _ _ (by simp) (by decide)
      ⟨⟨_,rfl,rfl⟩,λt _=>rfl,λj d v _ h=>(by rw[jf] at h;cases h),λh=>(by rw[jf] at h;cases h),λh=>(by rw[jf] at h;cases h),λ_=>rfl⟩
     ·
      intro b a w' j o hI hj ho hb hdep;have e1:a.eval (.tmp 1)=.map (O w.heap.size):=hI.same 1 (Or.inl (by decide));have e2:a.eval (.tmp 2)=.pointer (O ⟨S,0,U⟩):=hI.same 2 (Or.inl (by decide));have e4:a.eval (.tmp 4)=.int .i64 i:=hI.same 4 (Or.inl (by decide));have e5:a.eval (.tmp 5)=.string (mkS s):=hI.same 5 (Or.inl (by decide));rcases MC (by simpa using hj) with rfl|rfl|rfl|rfl|rfl|rfl|rfl|rfl|rfl|rfl|rfl|rfl|rfl
      ·
       obtain rfl:=NF (ho.symm.trans (rfl:_=O _));refine aA ho rfl ?_;obtain rfl:=hI.w12 (by decide) hb;refine bg (v:=.map (O w.heap.size)) (w2:=wr.drew) ?_ (hI.pure ok (by simp[hsl0]) (by decide) hb);show Result.ok (Next.value (a.eval (.tmp 1))) _=_;rw[e1]
      ·
       obtain rfl:=NF (ho.symm.trans (rfl:_=O _));refine aA ho rfl ?_;obtain rfl:=hI.w12 (by decide) hb;exact bg (rU (s:=Instr.fieldAt TW (a.eval (.tmp 2)) 0) (by rw[e2];exact Nr _ _)) (hI.pure ok (by simp[hsl0]) (by decide) hb)
      ·
       obtain rfl:=NF (ho.symm.trans (rfl:_=O _));refine aA ho rfl ?_;have hd1:b 1=Z:=hdep ⟨1,.data⟩ (by simp) rfl;have h23:a.eval (.tmp 23)=.pointer (O ⟨S,0,U⟩):=hI.slot 1 23 _ (by simp[hsl0]) hd1;obtain rfl:=hI.w12 (by decide) hb;exact bg (rU (s:=Instr.loadAt 3 (a.eval (.tmp 23))) (by rw[h23];exact Mw _ _ _ _ c0)) (hI.pure ok (by simp[hsl0]) (by decide) hb)
      ·
       obtain rfl:=NF (ho.symm.trans (rfl:_=O _));refine aA ho rfl ?_;obtain rfl:=hI.w12 (by decide) hb;exact bg (rU (s:=Instr.fieldAt TW (a.eval (.tmp 2)) 1) (by rw[e2];exact Ns _ _)) (hI.pure ok (by simp[hsl0]) (by decide) hb)
      ·
       obtain rfl:=NF (ho.symm.trans (rfl:_=O _));refine aA ho rfl ?_;have hd3:b 3=Z:=hdep ⟨3,.data⟩ (by simp) rfl;have h25:a.eval (.tmp 25)=.pointer (O ⟨S,1,U⟩):=hI.slot 3 25 _ (by simp[hsl0]) hd3;obtain rfl:=hI.w12 (by decide) hb;exact bg (rU (s:=Instr.loadAt 3 (a.eval (.tmp 25))) (by rw[h25];exact Mw _ _ _ _ c1)) (hI.pure ok (by simp[hsl0]) (by decide) hb)
      ·
       obtain rfl:=NF (ho.symm.trans (rfl:_=O _));refine aA ho rfl ?_;obtain rfl:=hI.w12 (by decide) hb;refine bg (v:=.int .i64 i) (w2:=wr.drew) ?_ (hI.pure ok (by simp[hsl0]) (by decide) hb);show Result.ok (Next.value (a.eval (.tmp 4))) _=_;rw[e4]
      ·
       obtain rfl:=NF (ho.symm.trans (rfl:_=O _));refine aA ho rfl ?_;have hd4:b 4=Z:=hdep ⟨4,.data⟩ (by simp) rfl;have hd5:b 5=Z:=hdep ⟨5,.data⟩ (by simp) rfl;have h26:a.eval (.tmp 26)=.int .i64 x.2.1:=hI.slot 4 26 _ (by simp[hsl0]) hd4;have h27:a.eval (.tmp 27)=.int .i64 i:=hI.slot 5 27 _ (by simp[hsl0]) hd5;obtain rfl:=hI.w12 (by decide) hb;exact bg (rU (s:=do eqGuard .add 3 (.tmp 26) (.tmp 27) (a.eval (.tmp 26)) (a.eval (.tmp 27));binOp .add 3 (a.eval (.tmp 26)) (a.eval (.tmp 27))) (by rw[h26,h27];exact Nn _ _ _ _ _ (by omega))) (hI.pure ok (by simp[hsl0]) (by decide) hb)
      ·
       obtain rfl:=NF (ho.symm.trans (rfl:_=O _));refine aA ho rfl ?_;obtain rfl:=hI.w12 (by decide) hb;exact bg (rU (s:=Instr.fieldAt TW (a.eval (.tmp 2)) 2) (by rw[e2];exact Nt _ _)) (hI.pure ok (by simp[hsl0]) (by decide) hb)
      ·
       obtain rfl:=NF (ho.symm.trans (rfl:_=O _));refine aA ho rfl ?_;have hd7:b 7=Z:=hdep ⟨7,.data⟩ (by simp) rfl;have h29:a.eval (.tmp 29)=.pointer (O ⟨S,2,U⟩):=hI.slot 7 29 _ (by simp[hsl0]) hd7;obtain rfl:=hI.w12 (by decide) hb;exact bg (rU (s:=Instr.loadAt 4 (a.eval (.tmp 29))) (by rw[h29];exact Nw _ _ _ _ c2)) (hI.pure ok (by simp[hsl0]) (by decide) hb)
      ·
       obtain rfl:=NF (ho.symm.trans (rfl:_=O _));refine aA ho rfl ?_;have hd2:b 2=Z:=hdep ⟨2,.data⟩ (by simp) rfl;have hd6:b 6=Z:=hdep ⟨6,.data⟩ (by simp) rfl;have hd8:b 8=Z:=hdep ⟨8,.data⟩ (by simp) rfl;have h24:a.eval (.tmp 24)=.int .i64 x.1:=hI.slot 2 24 _ (by simp[hsl0]) hd2;have h28:a.eval (.tmp 28)=.int .i64 (x.2.1+i):=hI.slot 6 28 _ (by simp[hsl0]) hd6;have h30:a.eval (.tmp 30)=.bool x.2.2:=hI.slot 8 30 _ (by simp[hsl0]) hd8;obtain rfl:=hI.w12 (by decide) hb;exact bg (MX a (k:=(x.1,x.2.1+i,x.2.2)) h24 h28 h30 _) (hI.pure ok (by simp[hsl0]) (by decide) hb)
      ·
       obtain rfl:=NF (ho.symm.trans (rfl:_=O _));refine aA ho rfl ?_;obtain rfl:=hI.w12 (by decide) hb;refine bg (v:=.string (mkS s)) (w2:=wr.drew) ?_ (hI.pure ok (by simp[hsl0]) (by decide) hb);show Result.ok (Next.value (a.eval (.tmp 5))) _=_;rw[e5]
      ·
       obtain rfl:=NF (ho.symm.trans (rfl:_=O _));refine aA ho rfl ?_;have hd10:b 10=Z:=hdep ⟨10,.data⟩ (by simp) rfl;have h32:a.eval (.tmp 32)=.string (mkS s):=hI.slot 10 32 _ (by simp[hsl0]) hd10;obtain rfl:=hI.w12 (by decide) hb;refine rT (f:=226) (args:=#[.string (mkS s),.string ⟨#[46]⟩]) (Iu a h32 _) ?_;refine(Tryz.strings_TrimSuffix (mkS s) ⟨#[46]⟩ _ hsl).mono ?_;rintro e w'' ⟨rfl,rfl⟩;exact⟨.string (mkS (Lib.trimSuffix s [46])),rfl,hI.pure ok (by simp[hsl0]) (by decide) hb⟩
      ·
       obtain rfl:=NF (ho.symm.trans (rfl:_=O _));refine aA ho rfl ?_;have hall:∀j,j<12->b j=Z:=λj hj=>by
        rcases MC (by omega:j<13) with rfl|rfl|rfl|rfl|rfl|rfl|rfl|rfl|rfl|rfl|rfl|rfl|rfl
        all_goals first|omega|exact hdep ⟨_,.phase⟩ (by simp) rfl
       have h22:a.eval (.tmp 22)=.map (O w.heap.size):=hI.slot 0 22 _ (by simp[hsl0]) (hall 0 (by decide));have h31:a.eval (.tmp 31)=kv (x.1,x.2.1+i,x.2.2):=hI.slot 9 31 _ (by simp[hsl0]) (hall 9 (by decide));have h33:a.eval (.tmp 33)=.string (mkS (Lib.trimSuffix s [46])):=hI.slot 11 33 _ (by simp[hsl0]) (hall 11 (by decide));exact hI.lay hb hall hMx (by omega) hkn (by omega) rfl rfl h22 h31 h33 ok (λ_ h=>h)
     ·
      intro b a w' hI hall;obtain⟨⟨ts,rfl,hts⟩,hsm,_,_,hw⟩:=hI;obtain⟨hMf,hgf⟩:=hw.1 (hall 12 (by decide));obtain⟨ts⟩:=ts
      match ts,hts with
      |t0::t1::t2::t3::t4::t5::t6::t7::t8::t9::t10::t11::t12::t13::t14::t15::t16::t17::t18::t19::t20::t21::t22::t23::t24::t25::t26::t27::t28::t29::t30::t31::t32::t33::t34::t35::[],_=>
       obtain rfl:t0=.map U:=hsm 0 (Or.inl (by decide));obtain rfl:t1=.map (O w.heap.size):=hsm 1 (Or.inl (by decide));obtain rfl:t2=.pointer (O ⟨S,0,U⟩):=hsm 2 (Or.inl (by decide));obtain rfl:t3=.string (mkS c):=hsm 3 (Or.inl (by decide));obtain rfl:t6=.map (O w.heap.size):=hsm 6 (Or.inl (by decide));obtain rfl:t7=.map (O Br):=hsm 7 (Or.inl (by decide));obtain rfl:t8=.pointer (O ⟨R,0,U⟩):=hsm 8 (Or.inl (by decide));obtain rfl:t9=.tuple #[.bool Z,kv x,.string (mkS c)]:=hsm 9 (Or.inl (by decide));obtain rfl:t10=.bool Z:=hsm 10 (Or.inl (by decide));obtain rfl:t11=.tuple #[.agg #[.int .i64 x.1,.int .i64 x.2.1,.bool x.2.2],.string (mkS c)]:=hsm 11 (Or.inl (by decide));obtain rfl:t12=.agg #[.int .i64 x.1,.int .i64 x.2.1,.bool x.2.2]:=hsm 12 (Or.inl (by decide));obtain rfl:t13=.string (mkS c):=hsm 13 (Or.inl (by decide));obtain rfl:t14=.string (mkS c):=hsm 14 (Or.inl (by decide));obtain rfl:t15=.slice (O ⟨S+1,0,U⟩) fs.length fs.length:=hsm 15 (Or.inl (by decide));obtain rfl:t16=.int .i64 fs.length:=hsm 16 (Or.inl (by decide));obtain rfl:t17=.int .i64 i:=hsm 17 (Or.inl (by decide));obtain rfl:t35=undef:=hsm 35 (Or.inr (by decide));have hrgd:wr.drew.ranges PP TW (plainElem PP TS) Br R 31 D1 left1 cnt1:=hrgx;have hrg4:=hrgd.kept hgf (λe=>by have:=NF e;omega) (λe=>by have:=NF e;omega);have hcld:Cl x fs S wr.drew:=⟨hclx.c0,hclx.c1,hclx.c2,hclx.fs⟩
       have hcl4:=hcld.kept hgf (by omega);have hb4:=hbx.drew.grown hgf hbx.drew.size (λj hj=>by cases hj;exact NL _);clear hsm hw
       go_wp2
       go_roundw
       case rel=>
        refine⟨i+1,n'+1,_,by first|rfl|(simp;unfold wrap64;omega),by omega,hrg4,hMf,by omega,λz=>?_,hb4,hcl4⟩;have e0:bJ L.nameTbl (pIn left1 x (i+1)) z=bJ L.nameTbl (λk=>pIn left1 x i k||zae (k=(x,i))) z:=jV (λt _=>by
         unfold pIn;by_cases h:t.1.1=x
         ·by_cases h2:t.1.2=i
          ·have:t.1=(x,i):=Prod.ext h h2;simp[this]
          ·have:¬t.1=(x,i):=λe=>h2 (by rw[e])
           simp only[h,if_true,this,decide_false,Bool.or_false];exact decide_eq_decide.2 (by omega)
         ·have:¬t.1=(x,i):=λe=>h (by rw[e])
          simp[h,this]) z
        rw[e0];have e1:=xL J2 L8 (b:=pIn left1 x i) hent z;simp only at e1;rw[e1,hfx]
       case measure=>simp[intOf];omega
    ·have hie:i=fs.length:=by omega
     subst hie
     go_wp2
     go_roundw
     case rel=>exact⟨left1,cnt1,n',f',hrgx,hld1,hMx,by omega,λz=>by rw[hfx,hpEnd],hbx⟩
     case measure=>rw[hrgx.left_eq,hrg.left_eq];exact hlt
end
end Rv
namespace Rv
open Go Go.RowKit Go.Proofs Go.Maps
noncomputable section
set_option maxRecDepth 1000000
theorem L6(x:NK):Bj x=(L.nameTbl.find? λe=>e.2.1 == x).map (·.2.2):=by
 unfold Bj bJ;generalize L.nameTbl=l
 induction l with
 |nil=>rfl
 |cons e l ih=>
  rw[List.find?_cons,List.findSome?_cons];by_cases h:e.2.1=x;·simp[h]
  ·have:(e.2.1 == x)=F:=by simpa using h
   simpa[this,h] using ih
theorem Gi{w:Y}{B n:G}{k o:Int}{u:zaf}(hM:bC w B n Bj)(hk:okK (k,o,u)):(Instr.lookup TM (.map (O B)) (.agg #[.int .i64 k,.int .i64 o,.bool u]) F).run PP w=.ok (.string (mkS (L.mnemR k o u))) w:=by
 have:=hM.look (k,o,u) hk;rw[L6] at this;exact this
theorem Gj(k o:Int)(u:zaf)(hk:okK (k,o,u))(m:Int)(w:Y)(hm:w.cell? ⟨0,0,U⟩=O (.int .i64 m)) (htab:Lib.TabIs PP w "strings.asciiSpace" .u8 Lib.asciiSpaceTab) :
  Calls PP 125 #[.int .i64 k,.int .i64 o,.bool u] w λe w'=>e=.returned (.string (mkS (L.mnemR k o u)))/\Below w.heap.size w w':=by
 go_enter Tryz.func125,Tryz.ntmps125
 go_wp2_with (go_at_call 179;refine(E9 m _ hm htab).mono ?_;rintro e wa ⟨B,rfl,hB,hM,hb⟩;have hl:=Gi hM hk)
 go_ret
 exact⟨rfl,hb⟩
end
end Rv
namespace Rv
open Go Go.RowKit Go.Proofs
noncomputable section
set_option maxRecDepth 1000000
abbrev SP:Program:=Tryz.prog
abbrev opW(w:Y)(t:zac)(v:N)(f1 f2:FuncId):Y:=
 (w.alloc (.cells #[v] t)).alloc (.cells #[.func (.func f1) #[] #[.pointer (O ⟨w.heap.size,0,U⟩)],.func (.func f2) #[] #[.pointer (O ⟨w.heap.size,0,U⟩)]] 180)
abbrev opV(B:G)(f1 f2:FuncId):N:=.agg #[.func (.func f1) #[] #[.pointer (O ⟨B,0,U⟩)],.func (.func f2) #[] #[.pointer (O ⟨B,0,U⟩)]]
theorem rF{fn:Func}{u:Tmp}{t:zac}(h:fn.results=#[.cell u t]){tmps:Array N}{a:Addr}{P:Program}{w:Y}{v:N}(ha:tmps.getD u undef=.pointer (O a))(hv:(loadVar t a).run P w=.ok v w) :
  (results fn tmps).run P w=.ok v w:=by
 have e:asAddr (tmps.getD u undef)=pure a:=by rw[ha];rfl
 unfold results;rw[h];simp only[List.mapM_toArray,List.mapM_cons,List.mapM_nil,e];simp[hv,Result.andThen]
theorem JB(g:FuncId)(w:Y):Calls SP 180 #[.func (.func g) #[] #[]] w λe w'=>
  e=.returned (opV w.heap.size 227 228)/\w'=opW w 236 (.func (.func g) #[] #[]) 227 228:=by
 go_enter Tryz.func180,Tryz.ntmps180
 go_wp2
 refine bodyPost_ret (v:=opV w.heap.size 227 228) (rF rfl rfl ?_) rfl ⟨rfl,rfl⟩
 go_simp
theorem Ae(s:ByteArray)(w:Y):Calls SP 184 #[.string s] w λe w'=>
  e=.returned (opV w.heap.size 229 231)/\w'=opW w 9 (.string s) 229 231:=by
 go_enter Tryz.func184,Tryz.ntmps184
 go_wp2
 refine bodyPost_ret (v:=opV w.heap.size 229 231) (rF rfl rfl ?_) rfl ⟨rfl,rfl⟩
 go_simp
abbrev TMo:zac:=238
theorem Lt{P:Program}{mt kt vt:zac}(hm:P.underlying mt=O (.map kt vt))(hk:P.underlying kt=O (.int .i64)){W:Y}{B:G}{es:Array MapEntry}{cl:G}{n:Int}{val:N}(hB:B=W.heap.size)(hf:Instr.findNow (.int .i64) (.int .i64 n) es.toList 0=O U) :
  (Instr.mapUpdate mt (.map (O B)) (.int .i64 n) val).run P (W.alloc (.map es cl))=.ok () (W.alloc (.map (es.push { key:=.int .i64 n,val:=val,born:=cl }) (cl+1))):=by
 subst hB;have hb:(W.alloc (.map es cl)).heap[W.heap.size]?=O (.map es cl):=by
  show(W.heap.push (.map es cl))[W.heap.size]?=_;exact Array.getElem?_push_size
 have hc:(Instr.checkKey F 10000 kt (.int .i64 n)).run P (W.alloc (.map es cl))=.ok () (W.alloc (.map es cl)):=MapKept.run_checkKey (k:=.int .i64 n) hk (by simp[MapKept.IsKey]) F 9999;generalize hX:W.alloc (.map es cl)=X at hb hc⊢;have h1:(Instr.mapUpdate mt (.map (O W.heap.size)) (.int .i64 n) val).run P X=.ok () { X with heap:=X.heap.setIfInBounds W.heap.size (.map (es.push { key:=.int .i64 n,val:=val,born:=cl }) (cl+1)) }:=by
  unfold Instr.mapUpdate;rw[NR,run_underlying hm];simp only[NG];rw[NR,MapKept.run_getObj_map hb];simp only[NG];rw[NR,hc];simp only[NG];rw[NR,MapKept.run_findKey hk hf];simp only[NG];exact MapKept.run_setObj_map _ hb
 rw[h1];subst hX;have h2:(W.heap.push (.map es cl)).setIfInBounds W.heap.size (.map (es.push { key:=.int .i64 n,val:=val,born:=cl }) (cl+1))=W.heap.push (.map (es.push { key:=.int .i64 n,val:=val,born:=cl }) (cl+1)):=by
  apply Array.ext';rw[Array.toList_setIfInBounds,Array.toList_push,Array.toList_push,List.set_append_right _ _ (by simp)];simp
 show Result.ok () { (W.alloc (.map es cl)) with heap:=(W.heap.push (.map es cl)).setIfInBounds W.heap.size _ }=_;rw[h2];rfl
theorem Je{P:Program}{mt kt vt:zac}(hm:P.underlying mt=O (.map kt vt))(hk:P.underlying kt=O (.int .i64)){W:Y}{B:G}{es:Array MapEntry}{cl i:G}{n:Int}{val:N}(hb:W.heap[B]?=O (.map es cl))(hf:Instr.findNow (.int .i64) (.int .i64 n) es.toList 0=O (O (i,val))) :
  (Instr.lookup mt (.map (O B)) (.int .i64 n) F).run P W=.ok val W:=by
 have hc:∀b,(Instr.checkKey b 10000 kt (.int .i64 n)).run P W=.ok () W:=λb=>MapKept.run_checkKey (k:=.int .i64 n) hk (by simp[MapKept.IsKey]) b 9999
 simp[Instr.lookup,run_underlying hm,MapKept.run_getObj_map hb,hc,MapKept.run_findKey hk hf,Result.andThen]
theorem De{W:Y}{B:G}{es:Array MapEntry}{cl:G}{n:Int}{val:N}(hB:B=W.heap.size)(hf:Instr.findNow (.int .i64) (.int .i64 n) es.toList 0=O U) :
  (Instr.mapUpdate TMo (.map (O B)) (.int .i64 n) val).run SP (W.alloc (.map es cl))=.ok () (W.alloc (.map (es.push { key:=.int .i64 n,val:=val,born:=cl }) (cl+1))):=
 Lt Tryz.underlying238 Tryz.underlying3 hB hf
theorem pg{W:Y}{B:G}{es:Array MapEntry}{cl i:G}{n:Int}{val:N}(hb:W.heap[B]?=O (.map es cl))(hf:Instr.findNow (.int .i64) (.int .i64 n) es.toList 0=O (O (i,val))) :
  (Instr.lookup TMo (.map (O B)) (.int .i64 n) F).run SP W=.ok val W:=
 Je Tryz.underlying238 Tryz.underlying3 hb hf
end
end Rv
namespace Rv
open Go Go.RowKit Go.Proofs
noncomputable section
set_option maxRecDepth 1000000
def H5(p:Prop):Prop:=p
theorem Nu{p:Prop}(h:p):H5 p:=h
theorem H5.out{p:Prop}(h:H5 p):p:=h
def dH:Y->E Obj->Y
 |w,[]=>w
 |w,o::l=>dH (w.alloc o) l
theorem eQ:∀(l:E Obj) (w:Y),(dH w l).heap.size=w.heap.size+l.length/\(∀i,i<w.heap.size->(dH w l).heap[i]?=w.heap[i]?)/\∀i,(dH w l).heap[w.heap.size+i]?=if i<l.length then l[i]? else U
 |[],w=>⟨by simp[dH],λi hi=>rfl,λi=>by simp[dH]⟩
 |o::l,w=>by
  obtain⟨h1,h2,h3⟩:=eQ l (w.alloc o);have hs:(w.alloc o).heap.size=w.heap.size+1:=by show(w.heap.push o).size=_;simp
  have ho:∀i,i<w.heap.size->(w.alloc o).heap[i]?=w.heap[i]?:=λi hi=>by
   show(w.heap.push o)[i]?=_;rw[Array.getElem?_push,zai (by omega)]
  have hn:(w.alloc o).heap[w.heap.size]?=O o:=by
   show(w.heap.push o)[w.heap.size]?=_;exact Array.getElem?_push_size
  refine⟨by simp only[dH];rw[h1,hs];simp;omega,λi hi=>?_,λi=>?_⟩
  ·simp only[dH];rw[h2 i (by omega),ho i hi]
  ·simp only[dH];cases i with
   |zero=>rw[Nat.add_zero,h2 _ (by omega),hn];simp
   |succ i=>
    have:=h3 i;rw[hs] at this;rw[show w.heap.size+(i+1)=w.heap.size+1+i by omega,this];simp
theorem sz(w:Y)(o:Obj):(w.alloc o).heap.size=w.heap.size+1:=by show(w.heap.push o).size=_;simp
def fn2(B:G)(f1 f2:FuncId):Obj:=.cells #[.func (.func f1) #[] #[.pointer (O ⟨B,0,U⟩)],.func (.func f2) #[] #[.pointer (O ⟨B,0,U⟩)]] 180
def opsL(B:G):E Obj:=[
 .cells #[.func (.func 181) #[] #[]] 236,fn2 B 227 228,fn2 B 227 228,
 .cells #[.func (.func 182) #[] #[]] 236,fn2 (B+3) 227 228,fn2 (B+3) 227 228,
 .cells #[.func (.func 183) #[] #[]] 236,fn2 (B+6) 227 228,fn2 (B+6) 227 228,
 .cells #[.string ⟨#[]⟩] 9,fn2 (B+9) 229 231,fn2 (B+9) 229 231,
 .cells #[.func (.func 185) #[] #[],.func (.func 186) #[] #[]] 180]
abbrev OT:Ty:=.pair .fn (.pair .fn .nil)
def EH(g:FuncId):OT.D:=((227,[.cf (g,[])]),(228,[.cf (g,[])]),())
def Jj(s:Str):OT.D:=((229,[.c0 (.cs s)]),(231,[.c0 (.cs s)]),())
def opA:OT.D:=EH 181
def opB:OT.D:=EH 182
def opC:OT.D:=EH 183
def opE:OT.D:=Jj []
def opQ:OT.D:=Jj [61]
def opN:OT.D:=((185,[]),(186,[]),())
def opsR(k o:Int):E OT.D:=
 if k=1 then(if o=0 then[opA,opC] else[opA,opB,opC]) else
 if k=2 then(if o=0 then[opA,opE] else[opA,opB,opE]) else
 if k=3\/k=4 then[opA] else
 if k=5 then[opA,opB,opE] else
 if k=6 then[opC] else
 if k=7\/k=9 then[opE] else
 if k=8 then[opA,opQ] else
 if k=10 then[opN] else[]
theorem Cw{t:Ty}{w:Y}{ok:G->Prop}:∀{xs:E t.D}{dss:E (E N)}{i:G}{x:t.D},aj (λx ds=>Rd w ok t x ds) xs dss->xs[i]?=O x->∃ds,Rd w ok t x ds/\∀j v,ds[j]?=O v->dss.flatten[i*t.size+j]?=O v
 |[],_,i,x,_,h=>by simp at h
 |_::_,[],_,_,h,_=>h.elim
 |y::xs,ds::dss,0,x,h,hx=>by
  simp only[Oh,ND] at hx;subst hx;refine⟨ds,h.1,λj v hj=>?_⟩;have:=(NS.1 hj).1;rw[List.flatten_cons,Nat.zero_mul,Nat.zero_add,Ou this];exact hj
 |y::xs,ds::dss,i+1,x,h,hx=>by
  obtain⟨d,h1,h2⟩:=Cw h.2 (i:=i) (by simpa using hx);refine⟨d,h1,λj v hj=>?_⟩;have hl:=h.1.length;rw[List.flatten_cons,List.getElem?_append_right (by rw[hl,Nat.succ_mul];omega),hl];rw[show(i+1)*t.size+j-t.size=i*t.size+j by rw[Nat.succ_mul];omega];exact h2 j v hj
theorem ML{t:Ty}{w:Y}{ok:G->Prop}{g:G}{cs:Array N}{T:zac}{xs:E t.D}{dss:E (E N)}(hg:w.heap[g]?=O (.cells cs T (0,0)))(hok:ok g)(hd:aj (λx ds=>Rd w ok t x ds) xs dss)(hc:cs.toList=dss.flatten){n:G}(hn:n=xs.length) :
  Rd w ok (.sl t) xs [.slice (O ⟨g,0,U⟩) n n]:=by
 subst hn;refine⟨_,_,rfl,NL _,λi x hx=>?_⟩;obtain⟨ds,h1,h2⟩:=Cw hd hx;refine⟨g,0,ds,rfl,hok,(Array.getElem?_eq_some_iff.1 hg).1,h1,λj v hj=>?_⟩;have:=h2 j v hj;unfold World.cell?;simp only[hg,Nat.zero_add];rw[<- hc] at this;simpa using this
structure lZ (B:G) (w:Y):Prop where
 at_:∀i,i<13->w.heap[B+i]?=(opsL B)[i]?
 lt:B+13<=w.heap.size
theorem lZ.cell{B:G}{w:Y}(H:lZ B w){i:G}(hi:i<13){v:N}{t:zac}(h:(opsL B)[i]?=O (.cells #[v] t (0,0))):w.cell? ⟨B+i,0,U⟩=O v:=by
 have:=(H.at_ i hi).trans h;unfold World.cell?;simp only[this];rfl
theorem lZ.reg{B:G}{w:Y}(H:lZ B w){i:G}{g:FuncId}(hi:i<13)(h:(opsL B)[i]?=O (.cells #[.func (.func g) #[] #[]] 236 (0,0))):Rd w (λg=>B<=g) OT (EH g) [fnV 227 [B+i],fnV 228 [B+i]]:=by
 have hc:lY w (λg=>B<=g) (B+i) (.cf (g,[])):=⟨Nat.le_add_right _ _,by have:=H.lt;omega,[],H.cell hi h,trivial⟩
 exact⟨[_],[_],rfl,⟨[B+i],rfl,hc,trivial⟩,[_],[],rfl,⟨[B+i],rfl,hc,trivial⟩,rfl⟩
theorem Gz{B g:G}{w:Y}{s:Str}(h:w.cell? ⟨g,0,U⟩=O (.string (mkS s)))(hB:B<=g)(hg:g<w.heap.size):Rd w (λg=>B<=g) OT (Jj s) [fnV 229 [g],fnV 231 [g]]:=by
 have hc:lY w (λg=>B<=g) g (.c0 (.cs s)):=⟨hB,hg,h⟩
 exact⟨[_],[_],rfl,⟨[g],rfl,hc,trivial⟩,[_],[],rfl,⟨[g],rfl,hc,trivial⟩,rfl⟩
theorem lZ.num{B:G}{w:Y}(H:lZ B w):Rd w (λg=>B<=g) OT opE [fnV 229 [B+9],fnV 231 [B+9]]:=Gz (H.cell (i:=9) (by omega) rfl) (by omega) (by have:=H.lt;omega)
theorem MK{ok:G->Prop}{w:Y}:Rd w ok OT opN [fnV 185 [],fnV 186 []]:=⟨[_],[_],rfl,⟨[],rfl,trivial⟩,[_],[],rfl,⟨[],rfl,trivial⟩,rfl⟩
theorem oz:∀(l:E Obj) {w0 w:Y},Below w0.heap.size w0 w->w0.heap.size<=w.heap.size->Below w0.heap.size w0 (dH w l)
 |[],_,_,h,_=>h
 |o::l,_,w,h,hs=>oz l (h.alloc hs o) (by rw[sz];omega)
theorem Mx{X:Y}{g:G}{u v:N}(h0:X.cell? ⟨g,0,U⟩=O u)(h1:X.cell? ⟨g,1,U⟩=O v):(Instr.loadAt 180 (.pointer (O ⟨g,0,U⟩))).run SP X=.ok (.agg #[u,v]) X:=by go_simp
theorem Ki{X:Y}{g:G}{u v:N}(h0:X.cell? ⟨g,0,U⟩=O u)(h1:X.cell? ⟨g,1,U⟩=O v){a:Act}{o:Oper}{t:Tmp}(ho:o.op=.load 180 (.tmp t))(ht:a.eval (.tmp t)=.pointer (O ⟨g,0,U⟩)):(execOp a.eval o).run SP X=.ok (.value (.agg #[u,v])) X:=by
 have h:=Mx h0 h1;simp[execOp,ho,ht,h,Result.andThen]
theorem FN:∀args w,(callFunc 184 args).run SP w=.ok (.enter 184 args) w:=enters_of Tryz.func184 (by kernel_rfl) rfl
theorem K6{X:Y}{g:G}{u v:N}(h0:X.cell? ⟨g,0,U⟩=O u)(h1:X.cell? ⟨g,1,U⟩=O v){a:Act}{o:Oper}{t:Tmp}(ho:o.op=.load 180 (.tmp t))(ht:a.eval (.tmp t)=.pointer (O ⟨g,0,U⟩)):(execOp a.eval o).run SP X.drew=.ok (.value (.agg #[u,v])) X.drew:=
 Ki (X:=X.drew) h0 h1 ho ht
theorem Iq{X:Y}{a:Act}{o:Oper}{s:ByteArray}{t:zac}(ho:o.op=.call { callee:=.value (.func 184),args:=#[.const (.string s)],argTypes:=#[t] }):(execOp a.eval o).run SP X=.ok (.enter 184 #[.string s]) X:=by
 have hf:a.eval (.func 184)=.func (.func 184) #[] #[]:=rfl;have hc:∀v,a.eval (.const v)=v:=λ_=>rfl
 simp[execOp,ho,resolve,Deferred.ofValue,invoke,hf,hc,FN]
theorem Gp{X:Y}{a:Act}{o:Oper}{s:ByteArray}{t:zac}(ho:o.op=.call { callee:=.value (.func 184),args:=#[.const (.string s)],argTypes:=#[t] }){K:Act->Y->Prop}{Q:Exit->Act->Y->Prop}
  (hK:K (a.put o.dst (opV X.heap.size 229 231)) (opW X 9 (.string s) 229 231)):o.wp SP a X K Q:=by
 unfold Oper.wp;rw[Iq ho,Oper.upon_enter];refine(Ae s X).mono ?_;rintro e w' ⟨rfl,rfl⟩;exact hK
theorem xh{X:Y}{o1 o2:Obj}{a:Addr}{v:N}(h:X.cell? a=O v)(hs:a.block<X.heap.size):((X.drew.alloc o1).alloc o2).cell? a=O v:=by
 rw[<- h];refine World.cell?_of_block ?_;show((X.heap.push o1).push o2)[a.block]?=X.heap[a.block]?;rw[Array.getElem?_push,zai (by rw[Array.size_push];omega),Array.getElem?_push,zai (by omega)]
structure zf (w W:Y):Prop where
 size:W.heap.size=w.heap.size+13
 at_:∀i,i<13->W.heap[w.heap.size+i]?=(opsL w.heap.size)[i]?
 below:Below w.heap.size w W
theorem zf.at2{w W:Y}(h:zf w W):∀(l:E Obj),lZ w.heap.size (dH W l)/\Below w.heap.size w (dH W l):=λl=>by
 obtain⟨h1,h2,_⟩:=eQ l W;have hs:=h.size;exact⟨⟨λi hi=>by rw[h2 _ (by omega)];exact h.at_ i hi,by omega⟩,oz l h.below (by omega)⟩
theorem Gw(W:Y)(l:E Obj)(o:Obj):(dH W (l++[o])).heap[W.heap.size+l.length]?=O o:=by
 rw[(eQ _ W).2.2];simp
abbrev nu(k o:Int)(w:Y)(e:Ending)(w':Y):Prop:=Below w.heap.size w w'/\∃v,e=.returned v/\Rd w' (λg=>w.heap.size<=g) (.sl OT) (opsR k o) [v]
theorem eG{w W:Y}(h:zf w W)(l:E Obj){cs:Array N}{T:zac}{xs:E OT.D}{dss:E (E N)}{g n:G}(hg:g=W.heap.size+l.length)(hn:n=xs.length)(hc:cs.toList=dss.flatten)
  (hd:lZ w.heap.size (dH W (l++[.cells cs T (0,0)]))->aj (λx ds=>Rd (dH W (l++[.cells cs T (0,0)])) (λg=>w.heap.size<=g) OT x ds) xs dss) :
  Below w.heap.size w (dH W (l++[.cells cs T (0,0)]))/\∃v,Ending.returned (.slice (O ⟨g,0,U⟩) n n)=.returned v/\Rd (dH W (l++[.cells cs T (0,0)])) (λg=>w.heap.size<=g) (.sl OT) xs [v]:=by
 obtain⟨h1,h2⟩:=h.at2 (l++[.cells cs T (0,0)]);subst hg;have hs:=h.size;exact⟨h2,_,rfl,ML (Gw W l _) (by omega) (hd h1) hc hn⟩
abbrev Jo(w W:Y)(mo:Obj):E Obj:=[mo,.cells #[.string ⟨#[61]⟩] 9,.cells #[.func (.func 229) #[] #[.pointer (O ⟨W.heap.size+1,0,U⟩)],.func (.func 231) #[] #[.pointer (O ⟨W.heap.size+1,0,U⟩)]] 180]
theorem Ai{w W:Y}(h:zf w W)(o:Int)(mo:Obj):nu 8 o w (.returned (.slice (O ⟨W.heap.size+1+1+1,0,U⟩) 2 2))
  (dH W (Jo w W mo++[.cells #[.func (.func 227) #[] #[.pointer (O ⟨w.heap.size,0,U⟩)],.func (.func 228) #[] #[.pointer (O ⟨w.heap.size,0,U⟩)],.func (.func 229) #[] #[.pointer (O ⟨W.heap.size+1,0,U⟩)],.func (.func 231) #[] #[.pointer (O ⟨W.heap.size+1,0,U⟩)]] 180])).drew:=by
 have hs:=h.size;obtain⟨h1,v,h2,h3⟩:=eG h (Jo w W mo) (cs:=#[.func (.func 227) #[] #[.pointer (O ⟨w.heap.size,0,U⟩)],.func (.func 228) #[] #[.pointer (O ⟨w.heap.size,0,U⟩)],.func (.func 229) #[] #[.pointer (O ⟨W.heap.size+1,0,U⟩)],.func (.func 231) #[] #[.pointer (O ⟨W.heap.size+1,0,U⟩)]]) (T:=180) (xs:=[opA,opQ]) (dss:=[[_,_],[_,_]]) (g:=W.heap.size+1+1+1) (n:=2) rfl rfl rfl λH=>⟨H.reg (i:=0) (by omega) rfl,Gz (s:=[61]) (by
  unfold World.cell?;have:=(eQ (Jo w W mo++[.cells #[.func (.func 227) #[] #[.pointer (O ⟨w.heap.size,0,U⟩)],.func (.func 228) #[] #[.pointer (O ⟨w.heap.size,0,U⟩)],.func (.func 229) #[] #[.pointer (O ⟨W.heap.size+1,0,U⟩)],.func (.func 231) #[] #[.pointer (O ⟨W.heap.size+1,0,U⟩)]] 180]) W).2.2 1;rw[zah (by simp)] at this;simp only[this];rfl) (by omega) (by rw[(eQ _ _).1];simp),trivial⟩
 refine⟨h1.drew,v,h2,h3.mono (NL _) λg hg _=>⟨rfl,hg⟩⟩
set_option maxHeartbeats 4000000 in
theorem Jp(k o:Int)(w:Y):Calls SP 128 #[.int .i64 k,.int .i64 o] w (nu k o w):=by
 go_enter Tryz.func128,Tryz.ntmps128
 go_wp2_with (first
  |(go_at_call 180;refine(JB _ _).mono ?_;rintro e wa ⟨rfl,rfl⟩)
  |(go_at_call 184;refine(Ae _ _).mono ?_;rintro e wa ⟨rfl,rfl⟩)
  )
 simp only[opW,sz];show Oper.upon SP _ _ _ _ ((Sem.run SP (Instr.makeMap 238 U) (dH w (opsL w.heap.size))).andThen _);obtain⟨W,hW⟩:∃W,W=dH w (opsL w.heap.size):=⟨_,rfl⟩
 rw[<- hW];have hs:W.heap.size=w.heap.size+13:=by rw[hW,(eQ _ _).1];rfl
 have hat:∀i,W.heap[w.heap.size+i]?=if i<13 then(opsL w.heap.size)[i]? else U:=λi=>by rw[hW,(eQ _ _).2.2];rfl
 have hold:∀i,i<w.heap.size->W.heap[i]?=w.heap[i]?:=λi hi=>by rw[hW];exact(eQ _ _).2.1 i hi
 have hob:∀(ob:Obj) (i:G),i<13->(W.alloc ob).heap[w.heap.size+i]?=(opsL w.heap.size)[i]?:=λob i hi=>by
  show(W.heap.push ob)[_]?=_;rw[Array.getElem?_push,zai (by omega),hat i,zah hi]
 have cc:∀(ob:Obj) (i:G) (cs:Array N) (t:zac) (j:G) (v:N),i<13->(opsL w.heap.size)[i]?=O (.cells cs t (0,0))->cs[j]?=O v->(W.alloc ob).cell? ⟨w.heap.size+i,j,U⟩=O v:=λob i cs t j v hi hc hv=>by
  have h:=(hob ob i hi).trans hc;unfold World.cell?;simp only[h];exact hv
 have a0:∀ob,(W.alloc ob).cell? ⟨w.heap.size+2,0,U⟩=O (.func (.func 227) #[] #[.pointer (O ⟨w.heap.size,0,U⟩)]):=λob=>cc ob 2 _ _ 0 _ (by omega) rfl rfl
 have a1:∀ob,(W.alloc ob).cell? ⟨w.heap.size+2,1,U⟩=O (.func (.func 228) #[] #[.pointer (O ⟨w.heap.size,0,U⟩)]):=λob=>cc ob 2 _ _ 1 _ (by omega) rfl rfl
 have b0:∀ob,(W.alloc ob).cell? ⟨w.heap.size+5,0,U⟩=O (.func (.func 227) #[] #[.pointer (O ⟨w.heap.size+3,0,U⟩)]):=λob=>cc ob 5 _ _ 0 _ (by omega) rfl rfl
 have b1:∀ob,(W.alloc ob).cell? ⟨w.heap.size+5,1,U⟩=O (.func (.func 228) #[] #[.pointer (O ⟨w.heap.size+3,0,U⟩)]):=λob=>cc ob 5 _ _ 1 _ (by omega) rfl rfl
 have c0:∀ob,(W.alloc ob).cell? ⟨w.heap.size+8,0,U⟩=O (.func (.func 227) #[] #[.pointer (O ⟨w.heap.size+6,0,U⟩)]):=λob=>cc ob 8 _ _ 0 _ (by omega) rfl rfl
 have c1:∀ob,(W.alloc ob).cell? ⟨w.heap.size+8,1,U⟩=O (.func (.func 228) #[] #[.pointer (O ⟨w.heap.size+6,0,U⟩)]):=λob=>cc ob 8 _ _ 1 _ (by omega) rfl rfl
 have e0:∀ob,(W.alloc ob).cell? ⟨w.heap.size+11,0,U⟩=O (.func (.func 229) #[] #[.pointer (O ⟨w.heap.size+9,0,U⟩)]):=λob=>cc ob 11 _ _ 0 _ (by omega) rfl rfl
 have e1:∀ob,(W.alloc ob).cell? ⟨w.heap.size+11,1,U⟩=O (.func (.func 231) #[] #[.pointer (O ⟨w.heap.size+9,0,U⟩)]):=λob=>cc ob 11 _ _ 1 _ (by omega) rfl rfl
 have n0:∀ob,(W.alloc ob).cell? ⟨w.heap.size+12,0,U⟩=O (.func (.func 185) #[] #[]):=λob=>cc ob 12 _ _ 0 _ (by omega) rfl rfl
 have n1:∀ob,(W.alloc ob).cell? ⟨w.heap.size+12,1,U⟩=O (.func (.func 186) #[] #[]):=λob=>cc ob 12 _ _ 1 _ (by omega) rfl rfl
 have HW:=Nu (p:=zf w W) ⟨hs,λi hi=>by rw[hat i,zah hi],by rw[hW];exact oz _ (Below.refl _ _) (NL _)⟩;clear hW hs hat hold hob cc;rw[run_makeMap];simp only[NG]
 go_wp2
 rw[De rfl (by rfl)];simp only[NG]
 go_wp2
 rw[De rfl (by rfl)];simp only[NG];rcases(show k=1\/k=2\/k=3\/k=4\/k=5\/k=6\/k=7\/k=8\/k=9\/k=10\/(k≠1/\k≠2/\k≠3/\k≠4/\k≠5/\k≠6/\k≠7/\k≠8/\k≠9/\k≠10) by omega) with rfl|rfl|rfl|rfl|rfl|rfl|rfl|rfl|rfl|rfl|hk
 ·by_cases ho:o=0
  ·subst ho
   go_wp2
   rw[pg (show(W.heap.push _)[W.heap.size]?=_ from Array.getElem?_push_size) rfl];simp only[NG]
   go_wp2
   go_ret
   exact eG HW.out [_] rfl rfl (dss:=[[_,_],[_,_]]) rfl λH=>⟨H.reg (i:=0) (by omega) rfl,H.reg (i:=6) (by omega) rfl,trivial⟩
  ·go_wp2
   rw[pg (show(W.heap.push _)[W.heap.size]?=_ from Array.getElem?_push_size) rfl];simp only[NG]
   go_wp2
   go_ret
   have e:opsR 1 o=[opA,opB,opC]:=by simp[opsR,ho]
   unfold nu;rw[e];exact eG HW.out [_] rfl rfl (dss:=[[_,_],[_,_],[_,_]]) rfl λH=>⟨H.reg (i:=0) (by omega) rfl,H.reg (i:=3) (by omega) rfl,H.reg (i:=6) (by omega) rfl,trivial⟩
 ·by_cases ho:o=0
  ·subst ho
   go_wp2
   rw[pg (show(W.heap.push _)[W.heap.size]?=_ from Array.getElem?_push_size) rfl];simp only[NG]
   go_wp2
   go_ret
   exact eG HW.out [_] rfl rfl (dss:=[[_,_],[_,_]]) rfl λH=>⟨H.reg (i:=0) (by omega) rfl,H.num,trivial⟩
  ·go_wp2
   rw[pg (show(W.heap.push _)[W.heap.size]?=_ from Array.getElem?_push_size) rfl];simp only[NG]
   go_wp2
   go_ret
   have e:opsR 2 o=[opA,opB,opE]:=by simp[opsR,ho]
   unfold nu;rw[e];exact eG HW.out [_] rfl rfl (dss:=[[_,_],[_,_],[_,_]]) rfl λH=>⟨H.reg (i:=0) (by omega) rfl,H.reg (i:=3) (by omega) rfl,H.num,trivial⟩
 ·go_wp2
  go_ret
  exact eG HW.out [_] rfl rfl (dss:=[[_,_]]) rfl λH=>⟨H.reg (i:=0) (by omega) rfl,trivial⟩
 ·go_wp2
  go_ret
  exact eG HW.out [_] rfl rfl (dss:=[[_,_]]) rfl λH=>⟨H.reg (i:=0) (by omega) rfl,trivial⟩
 ·go_wp2
  go_ret
  exact eG HW.out [_] rfl rfl (dss:=[[_,_],[_,_],[_,_]]) rfl λH=>⟨H.reg (i:=0) (by omega) rfl,H.reg (i:=3) (by omega) rfl,H.num,trivial⟩
 ·go_wp2
  go_ret
  exact eG HW.out [_] rfl rfl (dss:=[[_,_]]) rfl λH=>⟨H.reg (i:=6) (by omega) rfl,trivial⟩
 ·go_wp2
  go_ret
  exact eG HW.out [_] rfl rfl (dss:=[[_,_]]) rfl λH=>⟨H.num,trivial⟩
 ·go_wp2_with fail
  have mixed:SP.follows .mixedOrders=Z:=by kernel_rfl
  refine wp_region_any (by kernel_rfl) ?_;change wpAny _ _ _ _ _ _ _ (World.drew (W.alloc _));refine wpAny_ready (rs:=[0,1]) (by kernel_rfl) (by simp) ?_;refine AllReady.cons rfl (λK hK=>?_) (AllReady.cons rfl (λK hK=>?_) AllReady.nil)
  ·rw[zah (by rfl)];refine(dM (K6 (a0 _) (a1 _) (by rfl) (by rfl)) (hK _ _ ?_));clear hK K;refine wpAny_ready (rs:=[1]) (by kernel_rfl) (by simp) ?_;refine AllReady.cons rfl (λK hK=>?_) AllReady.nil;rw[zah (by rfl)];refine(Gp (by rfl) (hK _ _ ?_));clear hK K;refine wpAny_ready (rs:=[2]) (by kernel_rfl) (by simp) ?_;refine AllReady.cons rfl (λK hK=>?_) AllReady.nil;rw[zah (by rfl)]
   go_simp
   refine hK _ _ ?_;clear hK K;refine wpAny_ready (rs:=[3]) (by kernel_rfl) (by simp) ?_;refine AllReady.cons rfl (λK hK=>?_) AllReady.nil;rw[zah (by rfl)]
   go_simp
   refine hK _ _ ?_;clear hK K;refine wpAny_done (by kernel_rfl) ?_ _
   go_wp2
   go_ret
   have e:(W.alloc (.map #[{ key:=.int .i64 1,val:=.agg #[.func (.func 227) #[] #[.pointer (O ⟨w.heap.size+6,0,U⟩)],.func (.func 228) #[] #[.pointer (O ⟨w.heap.size+6,0,U⟩)]],born:=0 },{ key:=.int .i64 2,val:=.agg #[.func (.func 229) #[] #[.pointer (O ⟨w.heap.size+9,0,U⟩)],.func (.func 231) #[] #[.pointer (O ⟨w.heap.size+9,0,U⟩)]],born:=1 }] 2)).drew.heap.size=W.heap.size+1:=sz W _;simp only[opW,e];exact Ai HW.out o _
  ·rw[zah (by rfl)];refine(Gp (by rfl) (hK _ _ ?_));clear hK K;refine wpAny_ready (rs:=[0]) (by kernel_rfl) (by simp) ?_;refine AllReady.cons rfl (λK hK=>?_) AllReady.nil;rw[zah (by rfl)];refine(dM (Ki (xh (a0 _) (by have:=HW.out.size;simp;omega)) (xh (a1 _) (by have:=HW.out.size;simp;omega)) (by rfl) (by rfl)) (hK _ _ ?_));clear hK K;refine wpAny_ready (rs:=[2]) (by kernel_rfl) (by simp) ?_;refine AllReady.cons rfl (λK hK=>?_) AllReady.nil;rw[zah (by rfl)]
   go_simp
   refine hK _ _ ?_;clear hK K;refine wpAny_ready (rs:=[3]) (by kernel_rfl) (by simp) ?_;refine AllReady.cons rfl (λK hK=>?_) AllReady.nil;rw[zah (by rfl)]
   go_simp
   refine hK _ _ ?_;clear hK K;refine wpAny_done (by kernel_rfl) ?_ _
   go_wp2
   go_ret
   exact Ai HW.out o _
 ·go_wp2
  go_ret
  exact eG HW.out [_] rfl rfl (dss:=[[_,_]]) rfl λH=>⟨H.num,trivial⟩
 ·go_wp2
  go_ret
  exact eG HW.out [_] rfl rfl (dss:=[[_,_]]) rfl λH=>⟨MK,trivial⟩
 ·obtain⟨h1,h2,h3,h4,h5,h6,h7,h8,h9,h10⟩:=hk
  go_wp2
  go_ret
  have e:opsR k o=[]:=by simp[opsR,h1,h2,h3,h4,h5,h6,h7,h8,h9,h10]
  unfold nu;rw[e];obtain⟨_,hb⟩:=HW.out.at2 [_];exact⟨hb,_,rfl,U,0,rfl,NL _,λi x hx=>by simp at hx⟩
end
end Rv
namespace Rv
open Go Go.RowKit Go.Proofs
noncomputable section
set_option maxRecDepth 1000000
theorem F7(a:zad Addr)(c:G)(sep:ByteArray)(w:Y):Calls Tryz.prog 82 #[.slice a 0 c,.string sep] w λe w'=>e=.returned (.string ⟨#[]⟩)/\w'=w:=by
 go_enter Tryz.func82,Tryz.ntmps82
 go_wp2
 go_ret
 exact⟨rfl,rfl⟩
theorem join_one(bk o c:G)(x sep:ByteArray)(w:Y)(hc:w.cell? ⟨bk,o,U⟩=O (.string x)):Calls Tryz.prog 82 #[.slice (O ⟨bk,o,U⟩) 1 c,.string sep] w λe w'=>e=.returned (.string x)/\w'=w:=by
 go_enter Tryz.func82,Tryz.ntmps82
 go_wp2
 go_ret
 exact⟨rfl,rfl⟩
set_option maxHeartbeats 16000000 in
theorem F6(bk o c:G)(xs:E ByteArray)(sep:ByteArray)(w:Y)
  (hcells:∀(j:G) x,xs[j]?=O x->w.cell? ⟨bk,o+j,U⟩=O (.string x))
  (hbk:bk<w.heap.size) (h2:2<=xs.length) (hN:xs.length<=140737488355328) (hcap:xs.length<=c)
  (hlen:(Lib.join (xs.map (·.data.toList)) sep.data.toList).length<=140737488355328) :
  Calls Tryz.prog 82 #[.slice (O ⟨bk,o,U⟩) xs.length c,.string sep] w λe w'=>e=.returned (.string ⟨(Lib.join (xs.map (·.data.toList)) sep.data.toList).toArray⟩)/\Below w.heap.size w w':=by
 have HC:=hidR hcells;clear hcells;obtain⟨x0,r,hxs⟩:∃x0 r,xs=x0::r:=by
  cases xs with
  |nil=>simp at h2
  |cons a t=>exact⟨a,t,rfl⟩
 have hjl:sep.size*(xs.length-1)+Lib.lens (xs.map (·.data.toList))<=140737488355328:=by
  have:=Lib.join_length x0.data.toList (r.map (·.data.toList)) sep.data.toList;rw[hxs] at hlen⊢;simp only[NY] at hlen⊢;rw[this,Ow] at hlen;rw[Lib.size_eq,N7,Nat.add_sub_cancel];exact hlen
 have hmul:sep.size*(xs.length-1)<=140737488355328:=by omega
 generalize hM:sep.size*(xs.length-1)=M at hjl hmul;have hcast:((xs.length:Int)-1)=((xs.length-1:G):Int):=by omega
 have hlt:sep.size<9223372036854775807 / (xs.length-1):=by
  have:sep.size+1<=9223372036854775807 / (xs.length-1):=by
   rw[Nat.le_div_iff_mul_le (by omega),Nat.add_mul,hM];omega
  omega
 have hdv:¬(9223372036854775807 / ((xs.length:Int)-1)<=(sep.size:Int)):=by
  have e:(9223372036854775807:Int) / ((xs.length-1:G):Int)=((9223372036854775807 / (xs.length-1):G):Int):=IntWalk.up_div (x:=9223372036854775807) rfl rfl;rw[hcast,e];generalize 9223372036854775807 / (xs.length-1)=q at hlt;omega
 have hprod:wrap64 ((sep.size:Int)*((xs.length:Int)-1))=(M:Int):=by
  have e:(sep.size:Int)*((xs.length-1:G):Int)=((sep.size*(xs.length-1):G):Int):=IntWalk.up_mul rfl rfl;rw[hcast,e,hM];exact IntWalk.wrap64_in _ ⟨by omega,by omega⟩
 have hM0:sep.size=0->M=0:=λh=>by rw[<- hM,h,Nat.zero_mul]
 clear hlt hcast;have hne0:((xs.length:Int) == 0)=F:=beq_eq_false_iff_ne.2 (by omega);have hne1:((xs.length:Int) == 1)=F:=beq_eq_false_iff_ne.2 (by omega);have Hxs:=hidR hxs;have Hlen:=hidR hlen;clear hxs hlen
 go_enter Tryz.func82,Tryz.ntmps82
 go_wp2_with fail
 all_goals (
  go_loop [5,41] (λn i=>∃k:G,k<=xs.length/\i=.int .i64 k/\n=.int .i64 ((M+Lib.lens ((xs.map (·.data.toList)).take k):G):Int)) (λ_ i=>xs.length-(intOf i).toNat)
  case atStart=>exact⟨0,Nat.zero_le _,rfl,by first|(simp[Lib.lens];done)|(have:=hM0 (by omega);simp[Lib.lens,this])⟩
  case round=>
   obtain⟨k,hk,rfl,rfl⟩:=hrel;by_cases hkn:k<xs.length
   ·obtain⟨x,hx⟩:∃x,xs[k]?=O x:=⟨xs[k],NQ hkn⟩
    have hc:=HC.out k x hx;have hstep:=Lib.lens_take_succ (xs.map (·.data.toList)) k x.data.toList (by simp[hx]);have hbound:Lib.lens ((xs.map (·.data.toList)).take (k+1))<=Lib.lens (xs.map (·.data.toList)):=Lib.lens_take_le _ _;rw[<- Lib.size_eq] at hstep;generalize hA1:Lib.lens ((xs.map (·.data.toList)).take (k+1))=A1 at hstep hbound;generalize Lib.lens ((xs.map (·.data.toList)).take k)=A0 at hstep;have HA1:=hidR hA1;clear hA1
    go_wp2
    exact⟨⟨k+1,by omega,by go_num,by rw[HA1.out];refine zaj _ ?_;omega⟩,by simp[intOf];omega⟩
   ·have hke:k=xs.length:=by omega
    subst hke;have hall:(xs.map (·.data.toList)).take xs.length=xs.map (·.data.toList):=List.take_of_length_le (by simp);rw[hall];generalize hT:Lib.lens (xs.map (·.data.toList))=T at hjl;have HT:=hidR hT;clear hT hall
    go_wp2_with fail
    have hMT:((M:Int)+(T:Int))=((M+T:G):Int):=by omega
    rw[hMT];refine(FZ w.heap.size w.heap.size (M+T) _ (NL _) (heap_alloc_new w _) (by simp) (by omega)).mono ?_;rintro e w1 ⟨rfl,h1,hb1⟩;have hb1':Below w.heap.size w w1:=((Below.refl w.heap.size w).alloc (NL _) _).trans hb1;have hx0:xs[0]?=O x0:=by rw[Hxs.out];rfl
    have hc0:w1.cell? ⟨bk,o,U⟩=O (.string x0):=by
     rw[hb1'.cell (p:=⟨bk,o,U⟩) hbk];exact HC.out 0 x0 hx0
    have H1:=hidR (Lib.IsBuilderF.of (Or.inr h1:Lib.IsBuilder TB TU w.heap.size w.heap.size [] w1));have Hb1:=hidR hb1';have hBw1:w.heap.size<=w1.heap.size:=hb1'.size;clear h1 hb1 hb1' hMT;have hwhole:Lib.join (xs.map (·.data.toList)) sep.data.toList=x0.data.toList++Lib.joinTail sep.data.toList (r.map (·.data.toList)):=by
     rw[Hxs.out,NY,Lib.join_cons]
    have hCle:∀k,(x0.data.toList++Lib.joinTail sep.data.toList ((r.map (·.data.toList)).take k)).length<=140737488355328:=λk=>by
     have h1:=Hlen.out;rw[hwhole,NP] at h1;have h2:=Lib.joinTail_take_le sep.data.toList (r.map (·.data.toList)) k;rw[NP];omega
    have HCle:=hidR hCle;have Hwhole:=hidR hwhole;clear hCle hwhole
    go_wp2_with fail
    refine(ol w.heap.size w.heap.size [] x0 w1 H1.out (by have:=HCle.out 0;simp[Lib.joinTail] at this⊢;omega) hBw1).mono ?_;rintro e w2 ⟨rfl,h2',hb2⟩;have hstart:([]:E N)++Lib.strCells x0=Lib.byteCells (x0.data.toList++Lib.joinTail sep.data.toList ((r.map (·.data.toList)).take 0)):=by
     simp[Lib.joinTail,Lib.strCells_eq]
    rw[hstart] at h2';have H2:=hidR h2';have Hb2:=hidR (Hb1.out.trans hb2);clear h2' hb2 hstart;have hrl:r.length=xs.length-1:=by rw[Hxs.out];simp
    go_wp2_with fail
    go_loopw [65] (λi wr=>∃k:G,k<=r.length/\i=.int .i64 k/\Hid (Lib.IsBuilderF TB TU w.heap.size w.heap.size (Lib.byteCells (x0.data.toList++Lib.joinTail sep.data.toList ((r.map (·.data.toList)).take k))) wr)/\Hid (Below w.heap.size w wr)) (λi _=>r.length-(intOf i).toNat)
    case atStart=>exact⟨0,Nat.zero_le _,rfl,H2,Hb2⟩
    case round=>
     obtain⟨k,hk',rfl,HB,HW⟩:=hrel;by_cases hkr:k<r.length
     ·obtain⟨y,hy⟩:∃y,r[k]?=O y:=⟨r[k],NQ hkr⟩
      have hxy:xs[k+1]?=O y:=by rw[Hxs.out];simpa using hy
      have hcy:wr.cell? ⟨bk,o+1+k,U⟩=O (.string y):=by
       rw[HW.out.cell (p:=⟨bk,o+1+k,U⟩) hbk,show o+1+k=o+(k+1) by omega];exact HC.out (k+1) y hxy
      have hBw:w.heap.size<=wr.heap.size:=HW.out.size;have hnext:Lib.byteCells (x0.data.toList++Lib.joinTail sep.data.toList ((r.map (·.data.toList)).take k))++Lib.strCells sep++Lib.strCells y=Lib.byteCells (x0.data.toList++Lib.joinTail sep.data.toList ((r.map (·.data.toList)).take (k+1))):=by
       rw[Lib.joinTail_take_succ sep.data.toList (r.map (·.data.toList)) k y.data.toList (by simp[hy]),Lib.strCells_eq,Lib.strCells_eq,<- Lib.byteCells_append,<- Lib.byteCells_append,NW,NW,NW]
      have hl1:=HCle.out (k+1);rw[Lib.joinTail_take_succ sep.data.toList (r.map (·.data.toList)) k y.data.toList (by simp[hy])] at hl1;simp only[NP,<- Lib.size_eq] at hl1;have hl0:(Lib.byteCells (x0.data.toList++Lib.joinTail sep.data.toList ((r.map (·.data.toList)).take k))).length=x0.size+(Lib.joinTail sep.data.toList ((r.map (·.data.toList)).take k)).length:=by
       rw[Lib.byteCells_length,NP,<- Lib.size_eq]
      generalize (Lib.joinTail sep.data.toList ((r.map (·.data.toList)).take k)).length=J at hl0 hl1;have Hn:=hidR hnext;clear hnext hy hxy
      go_wp2_with fail
      refine(ol w.heap.size w.heap.size _ sep wr HB.out (by rw[hl0];omega) hBw).mono ?_;rintro e w3 ⟨rfl,h3,hb3⟩;have hBw3:w.heap.size<=w3.heap.size:=Og hBw hb3.size;have H3:=hidR h3;have Hb3:=hidR hb3;clear h3 hb3
      go_wp2_with fail
      refine(ol w.heap.size w.heap.size _ y w3 H3.out (by rw[NP,hl0,Lib.strCells_length];omega) hBw3).mono ?_;rintro e w4 ⟨rfl,h4,hb4⟩;rw[Hn.out] at h4;have H4:=hidR h4;have Hb4:=hidR ((HW.out.trans Hb3.out).trans hb4);clear h4 hb4
      go_wp2
      exact⟨⟨k+1,by omega,by go_num,H4,Hb4⟩,by simp[intOf];omega⟩
     ·have hke:k=r.length:=by omega
      subst hke;have hfull:(r.map (·.data.toList)).take r.length=r.map (·.data.toList):=List.take_of_length_le (by simp);have hB':=HB.out;rw[hfull,<- Hwhole.out] at hB';have hBw:w.heap.size<=wr.heap.size:=HW.out.size
      go_wp2_with fail
      refine(Tryz.Builder_String_any_k w.heap.size w.heap.size _ wr hB' hBw).mono ?_;rintro e w5 ⟨rfl,_,hb5,_⟩;have Hb5:=hidR (HW.out.trans hb5);clear hb5 hB'
      go_wp2
      go_ret
      exact⟨rfl,Hb5.out⟩)
theorem Bc(sep:Str):∀xs:E Str,Lib.join xs sep=L.sjoinR sep xs
 |[]=>rfl
 |x::r=>by rw[Lib.join_cons];rfl
theorem um(s:Str):(mkS s).data.toList=s:=rfl
theorem CP(xs:E Str):(xs.map mkS).map (·.data.toList)=xs:=by
 rw[List.map_map];refine(List.map_congr_left λa _=>?_).trans (List.map_id xs);exact um a
theorem EZ(xs:E Str)(sep:Str)(v:N)(w:Y)(hv:eD w .str xs v)(h1:(L.sjoinR sep xs).length<=140737488355328)(h2:xs.length<=140737488355328) :
  Calls Tryz.prog 82 #[v,.string (mkS sep)] w λe w'=>e=.returned (.string (mkS (L.sjoinR sep xs)))/\Below w.heap.size w w':=by
 obtain⟨A,c,rfl,hc,hx⟩:=hv
 match xs,hx,hc,h1,h2 with
 |[],_,_,_,_=>exact(F7 A c (mkS sep) w).mono λe w' ⟨h,hw⟩=>⟨h,by rw[hw];exact Below.refl _ _⟩
 |[x],hx,_,_,_=>
  obtain⟨g,o,ds,rfl,hg,hd,hat⟩:=hx 0 x rfl;have hd:ds=[.string (mkS x)]:=hd;subst hd;have:=hat 0 _ rfl;refine(join_one g o c (mkS x) (mkS sep) w (by simpa using this)).mono λe w' ⟨h,hw⟩=>⟨?_,by rw[hw];exact Below.refl _ _⟩
  rw[h];simp[L.sjoinR]
 |x::y::r,hx,hc,h1,h2=>
  obtain⟨g,o,_,rfl,hg,_,_⟩:=hx 0 x rfl;have hl:((x::y::r).map mkS).length=(x::y::r).length:=Ow _;have:=F6 g o c ((x::y::r).map mkS) (mkS sep) w (λj z hz=>by
   rw[OI] at hz;obtain⟨a,ha,rfl⟩:=Option.map_eq_some_iff.1 hz;obtain⟨g',o',ds,e,_,hd,hat⟩:=hx j a ha;simp only[ND,Addr.mk.injEq,and_true] at e;obtain⟨rfl,rfl⟩:=e;have hd:ds=[.string (mkS a)]:=hd;subst hd;have:=hat 0 _ rfl;simpa[Ty.size] using this) hg (by simp) (by rw[hl];exact h2) (by rw[hl];exact hc) (by rw[CP,um,Bc];exact h1)
  rw[hl] at this;refine this.mono λe w' ⟨h,hw⟩=>⟨?_,hw⟩
  rw[h,CP,um,Bc];rfl
end
end Rv
namespace Rv
open Go Go.RowKit Go.Proofs Go.Lib
noncomputable section
set_option maxRecDepth 1000000
abbrev IEL:zac:=70
section
variable(w:Y){v:N}{n:G}{xs news:E N}(hown:w.ownsRow 0 IEL 2 v n xs)(gv cv:G)(curv:Array N)(hgv:w.heap[gv]?=O (.cells curv IEL (0,0)))(hcv:1<=cv)(hcvs:curv.size=cv*2)(hnews:curv.toList.take 2=news)
 (h1x:∀u∈xs,u.oneCell'=Z) (h1v:∀u∈news,u.oneCell'=Z) (hb:(n+1)*24<=140737488355328)
end
end
end Rv
namespace Rv
open Go Go.RowKit Go.Proofs Go.Lib
noncomputable section
set_option maxRecDepth 1000000
abbrev KP:Program:=Tryz.prog
abbrev KSL:zac:=22
abbrev KEL:zac:=51
theorem KA:∃i,KP.info? KEL=O i/\i.zero=O (.int .u32 0)/\i.size=1/\i.bytes=4:=by
 obtain⟨i,h1,h2,h3,h4⟩:=info_parts (show(KP.info? KEL).map (λi=>(i.zero,i.size,i.bytes))=O (O (.int .u32 0),1,4) by kernel_rfl);exact⟨i,h1,h2,h3,h4⟩
def Mc(w:Y)(n:G)(zs:E N)(e:Ending)(w':Y):Prop:=
 ∃v',e=.returned v'/\w'.ownsRow w.heap.size KEL 1 v' n zs/\Below w.heap.size w w'
set_option maxHeartbeats 2000000 in
theorem KD(a:Addr)(n c:G)(cs:E N)(w:Y)(hl:cs.length=n)(hbig:n*4<=140737488355328)(hc:∀j u,cs[j]?=O u->w.cell? (a.add j)=O u)(h1:∀u∈cs,u.oneCell'=Z) :
  Calls KP 109 #[.slice (O a) n c] w (Mc w n cs):=by
 obtain⟨i0,hi,hz0,hz1,hz2⟩:=KA;have q22:∀(w:Y) (a:zad Addr) (n c n' c':G),(binOp .eql KSL (.slice a n c) (.slice U n' c')).run KP w=.ok (.bool a.isNone) w:=λw a n c n' c'=>Lib.run_eql_slice_nil w _ _ a n c n' c' Tryz.underlying22
 have u22:∀w,Sem.run KP (underlying KSL) w=.ok (TypeDesc.slice KEL) w:=run_underlying Tryz.underlying22;have A:Aside (∀j u,cs[j]?=O u->w.cell? (a.add j)=O u):=hc;clear hc
 go_enter Tryz.func109,Tryz.ntmps109
 go_wp2_with (at_builtin;refine wpList_append_own _ rfl _ _ KSL rfl w.heap.size KEL i0 (.int .u32 0) 1 4 Tryz.underlying22 hi hz0 hz1 hz2 rfl (by decide) _ _ _ rfl (World.ownsRow_made w #[] 0 (NL _) (Nat.zero_le _) rfl) a n c cs rfl ?qc1 ?qc2 ?qc3 ?qc4 ?qc5 ?qc6 ?_)
 case qc1=>omega
 case qc2=>
  intro j u hj;exact Lib.cell?_alloc_some _ (A.out j u hj)
 case qc3=>exact h1
 case qc4=>unfold maxLen;omega
 case qc5=>omega
 case qc6=>simp
 intro v' w1 hown hgrow hnil
 go_wp2
 go_ret
 refine⟨v',rfl,by simpa using hown,?_⟩;exact((Below.refl _ w).alloc (NL _) _).grown hgrow (by simp) (by intro k hk;simp[Value.ownBlock] at hk;omega)
set_option maxHeartbeats 1000000 in
theorem KC(n c:G)(w:Y):Calls KP 109 #[.slice U n c] w λe w'=>e=.returned (.slice U 0 0)/\w'=w:=by
 have q22:∀(w:Y) (a:zad Addr) (n c n' c':G),(binOp .eql KSL (.slice a n c) (.slice U n' c')).run KP w=.ok (.bool a.isNone) w:=λw a n c n' c'=>Lib.run_eql_slice_nil w _ _ a n c n' c' Tryz.underlying22
 go_enter Tryz.func109,Tryz.ntmps109
 go_wp2
 go_ret
 exact⟨rfl,rfl⟩
abbrev kTU:Ty:=.int .u32
abbrev kuC(x:Int):N:=.int .u32 x
theorem Mt{w:Y}{ok:G->Prop}{xs:E Int}{cur:E N}(h:cur.take xs.length=xs.map kuC):bi w ok kTU xs cur:=by
 intro j x hj;have hl:j<xs.length:=(NS.1 hj).1;have hx:xs[j]=x:=(NS.1 hj).2;show(cur.drop (j*1)).take 1=[kuC x]
 have h1:(cur.drop (j*1)).take 1=((cur.take xs.length).drop j).take 1:=by
  rw[List.drop_take,List.take_take,Nat.min_eq_left (by omega),Nat.mul_one]
 rw[h1,h,<- List.map_drop,Oe hl,hx];rfl
def wu:Spec:=⟨⟨[(0,.c (.sl kTU))],[]⟩,⟨[(0,.c (.row KEL kTU))],[]⟩,λx=>L.cloneO x.1⟩
set_option maxHeartbeats 1000000 in
theorem Mi{W:Y->Prop}:Sat KP W 109 wu:=by
 rintro⟨xs,u⟩ y hy C γ vals hCL hCn R;have hCn:C.nl=0:=hCn;have hy:L.cloneO xs=O y:=hy;unfold L.cloneO at hy;split at hy
 case isFalse=>cases hy
 case isTrue hbig=>
 obtain rfl:=NF hy;have hsz:vals.size=1:=R.size;have s0:av C γ _ C.w0 (.sl U kTU xs) (vals.getD 0 undef):=R.slot 0 (.v (.c (.sl U kTU xs))) rfl;obtain⟨_,A,c,hv0,hcap,hx⟩:=s0;have hv:vals=#[.slice A xs.length c]:=by
  rw[<- hv0];apply Array.ext';obtain⟨l⟩:=vals
  match l,hsz with
  |[a],_=>rfl
 have hfin:∀(w':Y) (v':N),w'.ownsRow C.w0.heap.size KEL 1 v' xs.length (xs.map kuC)->Below C.w0.heap.size C.w0 w' ->
   ∃(γ':Gam) (rs:Array N),Ending.returned v'=.returned (if h:rs.size=1 then rs[0] else .tuple rs)/\Rel C γ' w' (wu.r.mk' nmJ wu.r.slots.length (xs,())) rs:=by
  intro w' v' hown hb;have hfr:∀g,g<C.w0.heap.size->w'.heap[g]?=C.w0.heap[g]?:=λg hg=>hb.block g hg
  obtain⟨γ0,hOwn,hBox⟩:∃γ0:zad (G×G),eX γ0 xs.length v'/\((γ0=U/\xs=[])\/∃g c cur,γ0=O (g,c)/\C.w0.heap.size<=g/\w'.heap[g]?=O (.cells cur KEL (0,0))/\xs.length<=c/\c<=maxLen/\cur.size=c*1/\cur.toList.take (xs.length*1)=xs.map kuC):=by
   rcases hown.2 with⟨h1,h2⟩|⟨g,cap,cur,h1,h2,h3,h4,h5,h6,h7⟩;·exact⟨U,⟨h2,h1⟩,.inl ⟨rfl,List.eq_nil_of_length_eq_zero h2⟩⟩
   ·exact⟨O (g,cap),h1,.inr ⟨g,cap,cur,rfl,h2,h3,h4,h5,h6,h7⟩⟩
  refine⟨λj=>if j=15 then γ0 else U,#[v'],rfl,rfl,?_,?_⟩
  ·intro j v hj
   match j,hj with
   |0,hj=>
    obtain rfl:=NF hj;have h1:v'.oneCell'=Z:=by
     cases γ0 with
     |none=>rw[hOwn.2];rfl
     |some p=>rw[show v'=_ from hOwn];rfl
    exact⟨h1,_,rfl,NL _,λ_ n hn=>by
     have hn:O xs.length=O n:=hn;obtain rfl:=NF hn;exact hOwn⟩
   |j+1,hj=>cases hj
  ·have hh:∀j e,(wu.r.mk' nmJ wu.r.slots.length (xs,())).h j=O e->j=15/\e=⟨0,0,.row KEL kTU xs⟩:=λj e hj=>by
    have hj:(if 15=j then O (⟨0,0,.row KEL kTU xs⟩:En) else U)=O e:=by
     have:(if j=15 then O (⟨0,0,.row KEL kTU xs⟩:En) else U)=O e:=hj;rw[<- this];congr 1;exact propext eq_comm
    split at hj;·rename_i h;exact⟨h.symm,(NF hj).symm⟩
    ·cases hj
   exact {
    box:=λj e hj=>by
     obtain⟨rfl,rfl⟩:=hh j e hj;rcases hBox with⟨h1,h2⟩|⟨g,c,cur,h1,h2,h3,h4,h5,h6,h7⟩;·exact .inl ⟨h1,h2⟩
     ·exact .inr ⟨g,c,cur,h1,h3,h4,h5,h6,by decide,Mt (by rwa [Nat.mul_one] at h7)⟩
    inj:=λa b e e' g c d ha _ hb _ _ _=>by rw[(hh a e ha).1,(hh b e' hb).1]
    own:=λa e g c ha _ hγ=>by
     obtain⟨rfl,rfl⟩:=hh a e ha;have hγ:γ0=O (g,c):=hγ;rcases hBox with⟨h1,h2⟩|⟨g',c',cur,h1,h2,_⟩;·rw[h1] at hγ;cases hγ
     ·rw[h1] at hγ;cases hγ;exact R.inv.new g h2
    frame:=λg hg _=>hfr g hg
    size:=hb.size
    os:=hb.os
    tape:=hb.tape
    output:=hb.output
    new:=R.inv.new
    rd:=R.inv.rd
    laid:=R.inv.stable C.w0 w' R.inv.laid λg hno=>by
     by_cases hlt:g<C.w0.heap.size;·exact hfr g hlt
     ·exact absurd (R.inv.new g (by omega)) hno
    stable:=R.inv.stable
    lent:=λj hj=>by omega }
 rw[hv];cases A with
 |none=>
  have hnil:xs=[]:=by
   cases xs with
   |nil=>rfl
   |cons x r=>obtain⟨g,o,ds,h,_⟩:=hx 0 x rfl;cases h
  subst hnil;refine(KC _ c C.w0).mono ?_;rintro e w' ⟨rfl,rfl⟩;exact hfin _ _ ⟨rfl,.inl ⟨rfl,rfl⟩⟩ (Below.refl _ _)
 |some a=>
  refine(KD a xs.length c (xs.map kuC) C.w0 (by simp) hbig (λj u hj=>?_) (λu hu=>by obtain⟨x,_,rfl⟩:=N8.1 hu;rfl)).mono ?_
  ·rw[OI] at hj;cases hxj:xs[j]? with
   |none=>rw[hxj] at hj;cases hj
   |some x=>
    rw[hxj] at hj;obtain rfl:=NF hj;obtain⟨g,o,ds,h,_,_,hrd,hcell⟩:=hx j x hxj;cases h;have hds:ds=[kuC x]:=hrd;have:=hcell 0 (kuC x) (by rw[hds];rfl);rw[show o+j*kTU.size+0=o+j by rw[show kTU.size=1 from rfl,Nat.mul_one,Nat.add_zero]] at this;rw[gu];exact this
  ·rintro e w' ⟨v',rfl,hown,hb⟩;exact hfin w' v' hown hb
end
end Rv
namespace Rv
open Go Go.RowKit
theorem eD.one{w:Y}{t:Ty}{xs:E t.D}{v:N}(h:eD w t xs v):v.oneCell'=Z:=by
 obtain⟨A,c,rfl,_⟩:=h;rfl
theorem eD.rep{w:Y}{L:Y->Prop}{t:Ty}{xs:E t.D}{v:N}(h:eD w t xs v):av (top w L) (λ_=>U) (Heap.ofList []) w (.sl U t xs) v:=by
 refine⟨h.one,?_⟩;obtain⟨A,c,hv,hc,hx⟩:=h;refine⟨A,c,hv,hc,λi x hi=>?_⟩;obtain⟨g,o,ds,h1,h2,h3,h4⟩:=hx i x hi;exact⟨g,o,ds,h1,⟨trivial,λk e c hk=>by cases hk⟩,h2,h3.mono (NL _) (λg _ _=>⟨rfl,trivial,λk e c hk=>by cases hk⟩),h4⟩
theorem eD.of{C:Ctx}{γ:Gam}{h:Heap}{w:Y}{t:Ty}{xs:E t.D}{v:N}(hr:av C γ h w (.sl U t xs) v):eD w t xs v:=by
 obtain⟨_,A,c,hv,hc,hx⟩:=hr;refine⟨A,c,hv,hc,λi y hy=>?_⟩;obtain⟨g,o,ds,h3,_,h5,h6,h7⟩:=hx i y hy;exact⟨g,o,ds,h3,h5,h6.mono (NL _) (λ_ _ _=>⟨rfl,trivial⟩),h7⟩
theorem eD.later{w w':Y}{t:Ty}{xs:E t.D}{v:N}(h:eD w t xs v)(hs:w.heap.size<=w'.heap.size)(hb:∀g,g<w.heap.size->w'.heap[g]?=w.heap[g]?):eD w' t xs v:=by
 obtain⟨A,c,hv,hc,hx⟩:=h;refine⟨A,c,hv,hc,λi x hi=>?_⟩;obtain⟨g,o,ds,h1,h2,h3,h4⟩:=hx i x hi;exact⟨g,o,ds,h1,Ot h2 hs,h3.mono hs (λg _ hg=>⟨hb g hg,trivial⟩),λj u hj=>(World.cell?_of_block (hb g h2)).trans (h4 j u hj)⟩
section
variable{P:Program}{L:Y->Prop}{w:Y}
def eu(L:Y->Prop)(n:G):Prop:=∀a b:Y,L a->(∀g,g<n->b.heap[g]?=a.heap[g]?)->L b
theorem eu.later{n m:G}(h:eu L n)(hm:n<=m):eu L m:=λa b ha hb=>h a b ha λg hg=>hb g (Ot hg hm)
theorem oh{st:St}{args:Array N}(hh:st.h=Heap.ofList [])(hsz:args.size=st.s.length)(hs:∀i v,st.s[i]?=O v->aZ (top w L) (λ_=>U) (Heap.ofList []) w v (args.getD i undef))(hL:L w)(hst:eu L w.heap.size) :
  Rel (top w L) (λ_=>U) w st args:=⟨hsz,by rw[hh];exact hs,by rw[hh];exact Dv hL hst⟩
theorem kF{γ:Gam}{w':Y}{st:St}{rs:Array N}(R:Rel (top w L) γ w' st rs):Below w.heap.size w w':=
 ⟨R.inv.os,R.inv.tape,R.inv.output,R.inv.size,λk hk=>R.inv.frame k hk (by show ¬w.heap.size<=k;omega)⟩
abbrev oTU:Ty:=.int .u32
abbrev oTI:Ty:=.int .i64
abbrev oTS:Ty:=.pair .str (.pair (.int .i64) .nil)
abbrev oC:E CD:=[.sl oTU,.sl oTI,.sl oTS]
abbrev oOT:=E Int
abbrev oOY:=E (E UInt8×Int×zak)
def bX(w:Y)(ws ss:oOT)(ys:oOY)(v:N):Prop:=∃v1 v2 v3,v=.agg #[v1,v2,v3]/\eD w oTU ws v1/\eD w oTI ss v2/\eD w oTS ys v3
theorem bX.later{w':Y}{ws ss:oOT}{ys:oOY}{v:N}(h:bX w ws ss ys v)(hs:w.heap.size<=w'.heap.size)(hb:∀g,g<w.heap.size->w'.heap[g]?=w.heap[g]?):bX w' ws ss ys v:=by
 obtain⟨v1,v2,v3,rfl,h1,h2,h3⟩:=h;exact⟨v1,v2,v3,rfl,h1.later hs hb,h2.later hs hb,h3.later hs hb⟩
theorem bX.rep{ws ss:oOT}{ys:oOY}{v:N}(h:bX w ws ss ys v):aZ (top w L) (λ_=>U) (Heap.ofList []) w (.v (.agg [.sl U oTU ws,.sl U oTI ss,.sl U oTS ys])) v:=by
 obtain⟨v1,v2,v3,rfl,h1,h2,h3⟩:=h;exact⟨[v1,v2,v3],rfl,h1.rep,h2.rep,h3.rep,trivial⟩
theorem bX.of{C:Ctx}{γ:Gam}{h:Heap}{ws ss:oOT}{ys:oOY}{v:N}(hr:aZ C γ h w (.v (.agg [.sl U oTU ws,.sl U oTI ss,.sl U oTS ys])) v):bX w ws ss ys v:=by
 obtain⟨vs,rfl,ha⟩:=hr
 match vs,ha with
 |[v1,v2,v3],⟨h1,h2,h3,_⟩=>exact⟨v1,v2,v3,rfl,eD.of h1,eD.of h2,eD.of h3⟩
theorem kr{f:FuncId}{g:oOT->oOT->oOY->zad (Int×zak)}(hs:Sat P L f (ah ⟨[(0,.agg oC)],[]⟩ ⟨[(0,Si)],[]⟩ g)){ws ss:oOT}{ys:oOY}{y:Int}(hg:g ws ss ys=O (y,())){v:N}(hv:bX w ws ss ys v)(hL:L w)(hst:eu L w.heap.size) :
  Calls P f #[v] w λe w'=>e=.returned (.int .i64 y)/\Below w.heap.size w w':=by
 have R:Rel (top w L) (λ_=>U) (top w L).w0 ((⟨[(0,.agg oC)],[]⟩:Shape).mk' nmJ 1 (ws,ss,ys,())) #[v]:=by
  refine oh rfl rfl (λi x hi=>?_) hL hst
  match i,hi with
  |0,hi=>obtain rfl:=NF hi;exact hv.rep
  |i+1,hi=>cases hi
 refine(hs (ws,ss,ys,()) (y,()) hg (top w L) (λ_=>U) #[v] rfl rfl R).mono λe w' ⟨γ',rs,he,R'⟩=>?_
 have h0:rs.getD 0 undef=.int .i64 y:=R'.slot 0 (.v (.c (.int .i64 y))) rfl;have hsz:rs.size=1:=R'.size;have hrs:rs=#[.int .i64 y]:=by
  match rs,hsz,h0 with
  |⟨[v]⟩,_,h0=>simp at h0;rw[h0]
 subst hrs;exact⟨he,kF R'⟩
theorem DX{f:FuncId}{g:oOT->oOT->oOY->Int->zad (Int×zaf×zak)}(hs:Sat P L f (ah ⟨[(0,.agg oC),(1,Si)],[]⟩ ⟨[(0,Si),(1,SB)],[]⟩ g)){ws ss:oOT}{ys:oOY}{i y:Int}{b:zaf}(hg:g ws ss ys i=O (y,b,())){v:N}(hv:bX w ws ss ys v)(hL:L w)(hst:eu L w.heap.size) :
  Calls P f #[v,.int .i64 i] w λe w'=>e=.returned (.tuple #[.int .i64 y,.bool b])/\Below w.heap.size w w':=by
 have R:Rel (top w L) (λ_=>U) (top w L).w0 ((⟨[(0,.agg oC),(1,Si)],[]⟩:Shape).mk' nmJ 2 (ws,ss,ys,i,())) #[v,.int .i64 i]:=by
  refine oh rfl rfl (λj x hj=>?_) hL hst
  match j,hj with
  |0,hj=>obtain rfl:=NF hj;exact hv.rep
  |1,hj=>obtain rfl:=NF hj;exact rfl
  |j+2,hj=>cases hj
 refine(hs (ws,ss,ys,i,()) (y,b,()) hg (top w L) (λ_=>U) #[v,.int .i64 i] rfl rfl R).mono λe w' ⟨γ',rs,he,R'⟩=>?_
 have h0:rs.getD 0 undef=.int .i64 y:=R'.slot 0 (.v (.c (.int .i64 y))) rfl;have h1:rs.getD 1 undef=.bool b:=R'.slot 1 (.v (.c (.bool b))) rfl;have hsz:rs.size=2:=R'.size;have hrs:rs=#[.int .i64 y,.bool b]:=by
  match rs,hsz,h0,h1 with
  |⟨[u,v]⟩,_,h0,h1=>simp at h0 h1;rw[h0,h1]
 subst hrs;exact⟨he,kF R'⟩
end
end Rv
namespace Rv
open Go Go.RowKit
abbrev nV(k:IntKind)(x:Int):N:=.int k x
theorem Jk{w:Y}{ok:G->Prop}{k:IntKind}{xs:E Int}{cur:E N}(h:cur.take xs.length=xs.map (nV k)):bi w ok (.int k) xs cur:=by
 intro j x hj;have hl:j<xs.length:=(NS.1 hj).1;have hx:xs[j]=x:=(NS.1 hj).2;show(cur.drop (j*1)).take 1=[nV k x]
 have h1:(cur.drop (j*1)).take 1=((cur.take xs.length).drop j).take 1:=by
  rw[List.drop_take,List.take_take,Nat.min_eq_left (by omega),Nat.mul_one]
 rw[h1,h,<- List.map_drop,Oe hl,hx];rfl
def iO(w0 w':Y)(e:zac)(k:IntKind)(xs:E Int)(v:N)(γ:zad (G×G)):Prop:=
 eX γ xs.length v/\((γ=U/\xs=[])\/∃g c cur,γ=O (g,c)/\w0.heap.size<=g/\w'.heap[g]?=O (.cells cur e (0,0))/\xs.length<=c/\c<=maxLen/\cur.size=c*1/\cur.toList.take xs.length=xs.map (nV k))
theorem iO.of{w0 w':Y}{e:zac}{k:IntKind}{xs:E Int}{v:N}(h:w'.ownsRow w0.heap.size e 1 v xs.length (xs.map (nV k))):∃γ,iO w0 w' e k xs v γ:=by
 rcases h.2 with⟨h1,h2⟩|⟨g,cap,cur,h1,h2,h3,h4,h5,h6,h7⟩;·exact⟨U,⟨h2,h1⟩,.inl ⟨rfl,List.eq_nil_of_length_eq_zero h2⟩⟩
 ·exact⟨O (g,cap),h1,.inr ⟨g,cap,cur,rfl,h2,h3,h4,h5,h6,by rwa [Nat.mul_one] at h7⟩⟩
theorem iO.nil(w0 w':Y)(e:zac)(k:IntKind):iO w0 w' e k [] (.slice U 0 0) U:=⟨⟨rfl,rfl⟩,.inl ⟨rfl,rfl⟩⟩
theorem iO.one{w0 w':Y}{e:zac}{k:IntKind}{xs:E Int}{v:N}{γ:zad (G×G)}(h:iO w0 w' e k xs v γ):v.oneCell'=Z:=by
 have:=h.1;cases γ with
 |none=>rw[this.2];rfl
 |some p=>rw[show v=_ from this];rfl
section
variable{C:Ctx}{γ0:Gam}{h0:Heap}{w':Y}
theorem Le(I:Inv C γ0 h0 C.w0)(hn:C.nl=0)(hb:Below C.w0.heap.size C.w0 w'){γ:Gam}{h:Heap}
  (hh:∀j e,h j=O e->∃ek k xs v,e=⟨0,0,.row ek (.int k) xs⟩/\iO C.w0 w' ek k xs v (γ j)) (hi:∀a b g c d,(h a).isSome=Z->(h b).isSome=Z->γ a=O (g,c)->γ b=O (g,d)->a=b):Inv C γ h w':=by
 have hfr:∀g,g<C.w0.heap.size->w'.heap[g]?=C.w0.heap[g]?:=λg hg=>hb.block g hg
 exact {
  box:=λj e hj=>by
   obtain⟨ek,k,xs,v,rfl,_,hx⟩:=hh j e hj;rcases hx with⟨h1,h2⟩|⟨g,c,cur,h1,h2,h3,h4,h5,h6,h7⟩;·exact .inl ⟨h1,h2⟩
   ·exact .inr ⟨g,c,cur,h1,h3,h4,h5,h6,Nat.zero_lt_one,Jk h7⟩
  inj:=λa b e e' g c d ha _ hb' _ h1 h2=>hi a b g c d (by rw[ha];rfl) (by rw[hb'];rfl) h1 h2
  own:=λa e g c ha _ hγ=>by
   obtain⟨ek,k,xs,v,rfl,_,hx⟩:=hh a e ha;rcases hx with⟨h1,h2⟩|⟨g',c',cur,h1,h2,_⟩;·rw[h1] at hγ;cases hγ
   ·rw[h1] at hγ;cases hγ;exact I.new g h2
  frame:=λg hg _=>hfr g hg
  size:=hb.size
  os:=hb.os
  tape:=hb.tape
  output:=hb.output
  new:=I.new
  rd:=I.rd
  laid:=I.stable C.w0 w' I.laid λg hno=>by
   by_cases hlt:g<C.w0.heap.size;·exact hfr g hlt
   ·exact absurd (I.new g (by omega)) hno
  stable:=I.stable
  lent:=λj hj=>by omega }
theorem AJ(I:Inv C γ0 h0 C.w0)(hn:C.nl=0)(hb:Below C.w0.heap.size C.w0 w'){ek:zac}{k:IntKind}{xs:E Int}{y:Int}{v:N}{γ:zad (G×G)}(h:iO C.w0 w' ek k xs v γ) :
  ∃(γ':Gam) (rs:Array N),Ending.returned (.tuple #[v,.int .i64 y])=.returned (if h:rs.size=1 then rs[0] else .tuple rs)/\Rel C γ' w' ((⟨[(0,.c (.row ek (.int k))),(1,Si)],[]⟩:Shape).mk' nmJ 2 (xs,y,())) rs:=by
 refine⟨λj=>if j=15 then γ else U,#[v,.int .i64 y],rfl,rfl,?_,?_⟩
 ·intro j u hj
  match j,hj with
  |0,hj=>
   obtain rfl:=NF hj;exact⟨h.one,_,rfl,NL _,λ_ n hn=>by
    have hn:O xs.length=O n:=hn;obtain rfl:=NF hn;exact h.1⟩
  |1,hj=>obtain rfl:=NF hj;exact rfl
  |j+2,hj=>cases hj
 ·refine Le I hn hb (λj e hj=>?_) (λa b g c d ha hb' h1 h2=>?_)
  ·have hj:(if j=15 then O (⟨0,0,.row ek (.int k) xs⟩:En) else U)=O e:=hj;split at hj
   ·rename_i hj';subst hj';exact⟨ek,k,xs,v,(NF hj).symm,h⟩
   ·cases hj
  ·split at h1
   ·split at h2
    ·omega
    ·cases h2
   ·cases h1
end
end Rv
namespace Rv
open Go Go.RowKit Go.Proofs Go.Lib
noncomputable section
set_option maxRecDepth 1000000
abbrev QP:Program:=Tryz.prog
section
variable{L:Y->Prop}{nm:E UInt8->zad (zaf×zak)}(hs:Sat QP L 68 (ah ⟨[(0,Ss)],[]⟩ ⟨[(0,SB)],[]⟩ nm)){s:E UInt8}{w:Y}(hL:L w)(hst:eu L w.heap.size)
end
end
end Rv
