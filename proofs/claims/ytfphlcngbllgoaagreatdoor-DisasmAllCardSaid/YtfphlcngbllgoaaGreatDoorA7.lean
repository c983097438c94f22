/- Texts put together. -/
import Derived.Shelf.SlIterI.Nil
import Derived.Shelf.SortM.Plain
import Derived.Shelf.SortM.SortNone
import Derived.Test.YtfphlcngbllgoaaGreatDoorA6
import Derived.RangeFuncNested
set_option linter.all false
open Option renaming some→O,none→U
open _root_ renaming Int→S,List→Z,Nat→G,Option→M,congrArg→zaa,Unit→zab,Bool→zah,if_pos→zai,if_neg→zaj
open Go renaming World→Y,Value→E,TypeId→zaf
open Go.IntKind renaming i64→zac
noncomputable section
namespace Rv
open Go Go.Maps
theorem uj{x y:S}:∀{l:Z S},y∈L.insN x l↔y=x\/y∈l
 |[]=>by simp[L.insN]
 |z::r=>by
  unfold L.insN;split;·simp
  ·split
   ·rename_i h;subst h;simp
   ·simp only[NT,uj (l:=r)];constructor
    ·rintro(h|h|h)<;>simp[h]
    ·rintro(h|h|h)<;>simp[h]
theorem CE{x:S}:∀{l:Z S},l.Pairwise (· < ·)->(L.insN x l).Pairwise (· < ·)
 |[],_=>by simp[L.insN]
 |z::r,h=>by
  obtain⟨h1,h2⟩:=List.pairwise_cons.1 h;unfold L.insN;split
  ·rename_i hx;exact List.pairwise_cons.2 ⟨λy hy=>by
    rcases NT.1 hy with rfl|hy;·exact hx
    ·have:=h1 y hy;omega,h⟩
  ·split
   ·exact h
   ·refine List.pairwise_cons.2 ⟨λy hy=>?_,CE h2⟩;rcases uj.1 hy with rfl|hy
    ·omega
    ·exact h1 y hy
section
variable{P:Program}{k e m:zaf}{w:Y}{B n:G}{ks:Z S}
def eO(P:Program)(k e:zaf)(w:Y)(B n:G)(ks:Z S):Prop:=
 ∃D:DataW zab,w.ownsMap P k (plainElem P e) B n D/\∀x,has D (.int .i64 x)=true↔x∈ks
theorem eO.made(w:Y):eO P k e (w.alloc (.map #[] 0)) w.heap.size 0 []:=
 ⟨.map [],World.ownsMap_made _ _ _ _,λx=>by simp[has]⟩
theorem eO.kept{w':Y}{row:M G}(h:eO P k e w B n ks)(hg:w.grownBy w' row)(hne:O B≠row):eO P k e w' B n ks:=by
 obtain⟨D,h1,h2⟩:=h;exact⟨D,h1.kept hg hne,h2⟩
theorem eO.same{w':Y}(h:eO P k e w B n ks)(hg:w'.heap[B]?=w.heap[B]?):eO P k e w' B n ks:=by
 obtain⟨D,⟨es,c,hb,r⟩,h2⟩:=h;exact⟨D,⟨es,c,hg.trans hb,r⟩,h2⟩
theorem eO.lt(h:eO P k e w B n ks):B<w.heap.size:=by
 obtain⟨D,h1,_⟩:=h;exact h1.lt
theorem eO.put(h:eO P k e w B n ks)(hk:P.underlying k=O (.int .i64))(he:P.underlying e=O .bool)(hm:P.underlying m=O (.map k e))(hn:n<maxLen){x:S}(hx:(Lit.int .i64 x).wf=true) :
  ∃w',(Instr.mapUpdate m (.map (O B)) (.int .i64 x) (.bool true)).run P w=.ok () w'/\eO P k e w' B (n+1) (L.insN x ks)/\w.grownBy w' (O B):=by
 obtain⟨D,h1,h2⟩:=h;have hD:IsMap D:=by
  obtain⟨es,c,_,_,_,rfl⟩:=h1;exact⟨_,rfl⟩
 have hkey:keyOf P k (.int .i64 x)=O (.int .i64 x):=by simp[keyOf,hk,mapKey,hx]
 obtain⟨w',hr,ho,hg⟩:=h1.update (int_keyed hk) hm hn hkey (plainElem_bool he true);refine⟨w',hr,⟨_,ho,λy=>?_⟩,hg⟩;rw[uj];by_cases hy:y=x;·subst hy;exact⟨λ_=>.inl rfl,λ_=>has_put_same hD (show WideAt.IsKeyLit (.int .i64 y) from trivial) _⟩
 ·rw[has_put_other (by simpa using hy),h2 y];exact⟨.inr,λh=>h.resolve_left hy⟩
theorem EX{D:DataW zab}(hown:w.ownsMap P k (plainElem P e) B n D)(hk:P.underlying k=O (.int .i64))(hm:∀x,has D (.int .i64 x)=true↔x∈ks)(hs:ks.Pairwise (· < ·)){ss:Z S}(h:ss.Perm (intKeys D)) :
  ss.mergeSort (λx y=>decide (x<=y))=ks:=by
 obtain⟨es,hD,hpw,_⟩:=hown.entries (int_keyed hk);obtain⟨es',hD',hko⟩:=hown.keysOf;obtain rfl:es=es':=by rw[hD] at hD';simpa using hD'
 subst hD;have hnd:ks.Nodup:=hs.imp λh=>by omega
 have hp:ks.Perm (intKeys (.map es)):=perm_intKeys hpw (λp hp=>by obtain⟨v,hv⟩:=hko p hp;obtain⟨x,_,hx,_⟩:=Maps.keyOf_i64 hk hv;exact⟨x,hx⟩) hnd (λx=>(hm x).symm);have h1:ss.mergeSort leI=ks.mergeSort leI:=mergeSort_of_perm_i (h.trans hp.symm);refine h1.trans (List.mergeSort_of_pairwise (hs.imp λh=>?_));exact decide_eq_true (by omega)
end
end Rv
namespace Go.Proofs
open Go.Shelf
def Tryz.keysI_ren:Go.Shelf.Ren:=⟨λ|7=>72|10=>117|n=>n,λ|23=>119|26=>3|3=>4|28=>122|0=>0|27=>121|33=>114|4=>4|n=>n,λ|n=>n⟩
theorem Tryz.keysI:Go.Proofs.SlLaysZI.n7 Tryz.prog Tryz.keysI_ren:={
  mixed:=by kernel_rfl
  f7:=⟨Tryz.f72.name,by decide,Tryz.func72.trans (zaa O (by kernel_rfl))⟩
  f10:=⟨Tryz.f117.name,by decide,Tryz.func117.trans (zaa O (by kernel_rfl))⟩
  t0:=Tryz.underlying0
  a0:=Tryz.isAgg0
  z0:=Tryz.sizeOf0
  v0:=Tryz.zeroValue0
  t4:=Tryz.underlying4
  a4:=Tryz.isAgg4
  z4:=Tryz.sizeOf4
  v4:=Tryz.zeroValue4
  t23:=Tryz.underlying119
  a23:=Tryz.isAgg119
  z23:=Tryz.sizeOf119
  v23:=Tryz.zeroValue119
  t26:=Tryz.underlying3
  a26:=Tryz.isAgg3
  z26:=Tryz.sizeOf3
  v26:=Tryz.zeroValue3
  t27:=Tryz.underlying121
  a27:=Tryz.isAgg121
  z27:=Tryz.sizeOf121
  v27:=Tryz.zeroValue121
  t28:=Tryz.underlying122
  a28:=Tryz.isAgg122
  z28:=Tryz.sizeOf122
  v28:=Tryz.zeroValue122
  t33:=Tryz.underlying114
  a33:=Tryz.isAgg114
  z33:=Tryz.sizeOf114
  v33:=Tryz.zeroValue114 }
def Tryz.sortedI_ren:Go.Shelf.Ren:=⟨λ|6=>71|8=>115|9=>116|11=>173|13=>175|12=>174|23=>221|24=>222|14=>213|15=>214|16=>215|17=>216|18=>217|19=>218|20=>118|21=>219|22=>220|25=>253|26=>254|27=>255|28=>256|29=>257|30=>176|31=>277|n=>n,λ|26=>3|28=>122|24=>23|0=>0|3=>3|37=>135|48=>51|50=>247|4=>4|40=>257|39=>256|45=>86|5=>5|9=>9|51=>275|55=>235|57=>302|58=>303|33=>114|n=>n,λ|n=>n⟩
theorem Tryz.sortedI:Go.Proofs.SlLaysZI.n6 Tryz.prog Tryz.sortedI_ren:={
  mixed:=by kernel_rfl
  f6:=⟨Tryz.f71.name,by decide,Tryz.func71.trans (zaa O (by kernel_rfl))⟩
  f8:=⟨Tryz.f115.name,by decide,Tryz.func115.trans (zaa O (by kernel_rfl))⟩
  f11:=⟨Tryz.f173.name,by decide,Tryz.func173.trans (zaa O (by kernel_rfl))⟩
  t0:=Tryz.underlying0
  a0:=Tryz.isAgg0
  z0:=Tryz.sizeOf0
  v0:=Tryz.zeroValue0
  t24:=Tryz.underlying23
  a24:=Tryz.isAgg23
  z24:=Tryz.sizeOf23
  v24:=Tryz.zeroValue23
  t26:=Tryz.underlying3
  a26:=Tryz.isAgg3
  z26:=Tryz.sizeOf3
  v26:=Tryz.zeroValue3
  t28:=Tryz.underlying122
  a28:=Tryz.isAgg122
  z28:=Tryz.sizeOf122
  v28:=Tryz.zeroValue122
  i26:=by kernel_rfl }
def Tryz.sortI_ren:Go.Shelf.Ren:=⟨λ|5=>116|8=>175|7=>174|19=>221|20=>222|10=>213|11=>214|12=>215|13=>216|14=>217|15=>218|16=>118|17=>219|18=>220|30=>253|31=>254|32=>255|33=>256|34=>257|35=>176|40=>277|n=>n,λ|23=>23|25=>3|3=>3|32=>135|22=>23|0=>0|44=>51|46=>247|4=>4|36=>257|35=>256|41=>86|5=>5|9=>9|53=>275|57=>235|63=>302|64=>303|n=>n,λ|n=>n⟩
theorem Tryz.sortI:Go.Proofs.SlLaysM.n5 Tryz.prog Tryz.sortI_ren:={
  mixed:=by kernel_rfl
  f5:=⟨Tryz.f116.name,by decide,Tryz.func116.trans (zaa O (by kernel_rfl))⟩
  f7:=⟨Tryz.f174.name,by decide,Tryz.func174.trans (zaa O (by kernel_rfl))⟩
  f8:=Tryz.func175.trans (zaa O (by kernel_rfl))
  f10:=⟨Tryz.f213.name,by decide,Tryz.func213.trans (zaa O (by kernel_rfl))⟩
  f11:=⟨Tryz.f214.name,by decide,Tryz.func214.trans (zaa O (by kernel_rfl))⟩
  f12:=⟨Tryz.f215.name,by decide,Tryz.func215.trans (zaa O (by kernel_rfl))⟩
  f13:=⟨Tryz.f216.name,by decide,Tryz.func216.trans (zaa O (by kernel_rfl))⟩
  f14:=⟨Tryz.f217.name,by decide,Tryz.func217.trans (zaa O (by kernel_rfl))⟩
  f15:=⟨Tryz.f218.name,by decide,Tryz.func218.trans (zaa O (by kernel_rfl))⟩
  f16:=⟨Tryz.f118.name,by decide,Tryz.func118.trans (zaa O (by kernel_rfl))⟩
  f17:=⟨Tryz.f219.name,by decide,Tryz.func219.trans (zaa O (by kernel_rfl))⟩
  f18:=⟨Tryz.f220.name,by decide,Tryz.func220.trans (zaa O (by kernel_rfl))⟩
  f19:=Tryz.func221.trans (zaa O (by kernel_rfl))
  f20:=Tryz.func222.trans (zaa O (by kernel_rfl))
  f30:=⟨Tryz.f253.name,by decide,Tryz.func253.trans (zaa O (by kernel_rfl))⟩
  f31:=Tryz.func254.trans (zaa O (by kernel_rfl))
  f32:=Tryz.func255.trans (zaa O (by kernel_rfl))
  f33:=⟨Tryz.f256.name,by decide,Tryz.func256.trans (zaa O (by kernel_rfl))⟩
  f34:=⟨Tryz.f257.name,by decide,Tryz.func257.trans (zaa O (by kernel_rfl))⟩
  f35:=⟨Tryz.f176.name,by decide,Tryz.func176.trans (zaa O (by kernel_rfl))⟩
  f40:=⟨Tryz.f277.name,by decide,Tryz.func277.trans (zaa O (by kernel_rfl))⟩
  t0:=Tryz.underlying0
  a0:=Tryz.isAgg0
  z0:=Tryz.sizeOf0
  v0:=Tryz.zeroValue0
  t3:=Tryz.underlying3
  a3:=Tryz.isAgg3
  z3:=Tryz.sizeOf3
  v3:=Tryz.zeroValue3
  t4:=Tryz.underlying4
  a4:=Tryz.isAgg4
  z4:=Tryz.sizeOf4
  v4:=Tryz.zeroValue4
  t5:=Tryz.underlying5
  a5:=Tryz.isAgg5
  z5:=Tryz.sizeOf5
  v5:=Tryz.zeroValue5
  t9:=Tryz.underlying9
  a9:=Tryz.isAgg9
  z9:=Tryz.sizeOf9
  v9:=Tryz.zeroValue9
  t22:=Tryz.underlying23
  a22:=Tryz.isAgg23
  z22:=Tryz.sizeOf23
  v22:=Tryz.zeroValue23
  t23:=Tryz.underlying23
  a23:=Tryz.isAgg23
  z23:=Tryz.sizeOf23
  v23:=Tryz.zeroValue23
  t25:=Tryz.underlying3
  a25:=Tryz.isAgg3
  z25:=Tryz.sizeOf3
  v25:=Tryz.zeroValue3
  t32:=Tryz.underlying135
  a32:=Tryz.isAgg135
  z32:=Tryz.sizeOf135
  v32:=Tryz.zeroValue135
  t35:=Tryz.underlying256
  a35:=Tryz.isAgg256
  z35:=Tryz.sizeOf256
  v35:=Tryz.zeroValue256
  t36:=Tryz.underlying257
  a36:=Tryz.isAgg257
  z36:=Tryz.sizeOf257
  v36:=Tryz.zeroValue257
  t41:=Tryz.underlying86
  a41:=Tryz.isAgg86
  z41:=Tryz.sizeOf86
  v41:=Tryz.zeroValue86
  t44:=Tryz.underlying51
  a44:=Tryz.isAgg51
  z44:=Tryz.sizeOf51
  v44:=Tryz.zeroValue51
  t46:=Tryz.underlying247
  a46:=Tryz.isAgg247
  z46:=Tryz.sizeOf247
  v46:=Tryz.zeroValue247
  t53:=Tryz.underlying275
  a53:=Tryz.isAgg275
  z53:=Tryz.sizeOf275
  v53:=Tryz.zeroValue275
  t57:=Tryz.underlying235
  a57:=Tryz.isAgg235
  z57:=Tryz.sizeOf235
  v57:=Tryz.zeroValue235
  t63:=Tryz.underlying302
  a63:=Tryz.isAgg302
  z63:=Tryz.sizeOf302
  v63:=Tryz.zeroValue302
  t64:=Tryz.underlying303
  a64:=Tryz.isAgg303
  z64:=Tryz.sizeOf303
  v64:=Tryz.zeroValue303 }
end Go.Proofs
namespace Rv
open Go Go.RowKit Go.Proofs Go.Lib Go.Maps Go.Shelf Go.Sort
noncomputable section
set_option maxRecDepth 1000000
abbrev GP:Program:=Tryz.prog
abbrev GM:zaf:=119
abbrev GI:zaf:=3
abbrev GB:zaf:=4
def yZ:Prop:=∀(W:Y) (B n:G) (ks:Z S),eO GP GI GB W B n ks->ks.Pairwise (· < ·)->n<=4000000 ->
 Calls GP 72 #[.map (O B)] W (λe w'=>e=.returned (.func (.func 117) #[] #[.pointer (O ⟨W.heap.size,0,U⟩)])/\w'=W.alloc (.cells #[.map (O B)] GM)) /\
 Calls GP 71 #[.func (.func 117) #[] #[.pointer (O ⟨W.heap.size,0,U⟩)]] (W.alloc (.cells #[.map (O B)] GM)) (λe w'=>∃v,e=.returned v/\w'.ownsRow W.heap.size GI 1 v ks.length (ks.map (nV .i64))/\Below W.heap.size W w')
theorem JW(m:G):AnyZI.SortsIn GP Tryz.sortedI_ren Fence.wide m:=
 ⟨λblk off cap ss W hH hblk hsz=>callsIn_wide.2 (AnyM.slices_Sort_int Tryz.sortI blk off cap ss W hH hblk hsz),
 λp cap W=>callsIn_wide.2 (AnyM.slices_Sort_int_none Tryz.sortI p cap W)⟩
set_option maxHeartbeats 1000000 in
theorem KZ:yZ:=by
 intro W B n ks ⟨D,hown,hD⟩ hs hn;have hbl:=hown.lt;have hsz:Maps.size D<=n:=by
  obtain⟨es,c,_,_,hs,rfl⟩:=hown;simpa[Maps.size,length_sorted] using hs
 refine⟨callsIn_wide.1 (AnyZI.keys_in Tryz.keysI Fence.wide 5 trivial rfl (O B) W),?_⟩;have hseq:SeqGives Fence.wide 2 GP 117 #[.pointer (O ⟨W.heap.size,0,U⟩)] encZ (λss=>ss.Perm (intKeys D)) (Maps.size D) (W.alloc (.cells #[.map (O B)] GM)):=
  AnyZI.keys_gives (ρ:=Tryz.keysI_ren) { Tryz.keysI with } Fence.wide _ trivial rfl (by omega) W.heap.size B n D _ (by simp) (by simp) (by
   obtain⟨es,clock,hb,Ft,hs,hD⟩:=hown;exact⟨es,clock,(Below.heap_alloc _ _ B hbl).trans hb,Ft,hs,hD⟩)
 have cS:=AnyZI.sorted_in Tryz.sortedI Fence.wide 5 trivial trivial trivial trivial rfl (by omega) (JW _) (enters_of Tryz.func116 (by kernel_rfl) rfl) 117 #[.pointer (O ⟨W.heap.size,0,U⟩)] trivial (enters_of Tryz.func117 (by kernel_rfl) rfl) _ _ (by unfold maxLen;omega) (by omega) _ hseq;change CallsIn _ _ GP 71 _ _ _ at cS;refine(callsIn_wide.1 cS).mono ?_;rintro e w' ⟨v,ss,rfl,hS,hrow,hnil,hb⟩;have hmk:=EX hown Tryz.underlying3 hD hs hS;have hlen:ss.length=ks.length:=by rw[<- hmk,List.length_mergeSort]
 rw[hmk,hlen] at hrow;exact⟨v,rfl,ownsRow_base_a hrow (by simp),((Below.refl _ W).alloc (NL _) _).trans (hb.mono (by simp))⟩
end
end Rv
namespace Rv
open Go Go.RowKit Go.Proofs Go.Lib Go.Maps
noncomputable section
set_option maxRecDepth 1000000
theorem cell_below{w w':Y}{n:G}(hb:Below n w w'){g o:G}{v:E}(hg:g<n)(h:w.cell? ⟨g,o,U⟩=O v):w'.cell? ⟨g,o,U⟩=O v:=
 (World.cell?_of_block (hb.block g hg)).trans h
section
variable{W:Y->Prop}{may:oOT->oOT->oOY->M (S×zab)}{jump:oOT->oOT->oOY->S->M (S×zah×zab)}
 (hMay:Sat GP W 29 (ah ⟨[(0,.agg oC)],[]⟩ ⟨[(0,Si)],[]⟩ may)) (hJump:Sat GP W 42 (ah ⟨[(0,.agg oC),(1,Si)],[]⟩ ⟨[(0,Si),(1,SB)],[]⟩ jump))
 {ws ss:oOT} {ys:oOY} {w:Y} (hL:W w) (hst:eu W w.heap.size)
theorem bX.parts{w:Y}{ws ss:oOT}{ys:oOY}{v:E}(h:bX w ws ss ys v):∃A1 c1 A2 c2 A3 c3,v=.agg #[.slice A1 ws.length c1,.slice A2 ss.length c2,.slice A3 ys.length c3]:=by
 obtain⟨v1,v2,v3,rfl,⟨A1,c1,rfl,_⟩,⟨A2,c2,rfl,_⟩,⟨A3,c3,rfl,_⟩⟩:=h;exact⟨A1,c1,A2,c2,A3,c3,rfl⟩
theorem eD.num{w:Y}{k:IntKind}{xs:Z S}{A:M Addr}{n c:G}(h:eD w (.int k) xs (.slice A n c)){i:G}{x:S}(hi:xs[i]?=O x):∃g o,A=O ⟨g,o,U⟩/\g<w.heap.size/\w.cell? ⟨g,o+i,U⟩=O (.int k x):=by
 obtain⟨A',c',e,hc,hx⟩:=h;obtain⟨g,o,ds,rfl,hg,hr,hcell⟩:=hx i x hi;have hr:ds=[.int k x]:=hr;have h0:=hcell 0 (.int k x) (by rw[hr];rfl);have e1:o+i*(Ty.int k).size+0=o+i:=by show o+i*1+0=o+i;omega
 rw[e1] at h0;cases e;exact⟨g,o,rfl,hg,h0⟩
structure mM (w w1 wr:Y) (n:G) (acc:Z S):Prop where
 fr:∀g,g<w1.heap.size->wr.heap[g]?=w1.heap[g]?
 bel:Below w.heap.size w wr
 set:eO GP GI GB wr w1.heap.size n acc
 srt:acc.Pairwise (· < ·)
theorem mM.put{w w1 wr wr':Y}{n:G}{acc:Z S}(h:mM w w1 wr n acc)(hw:w.heap.size<=w1.heap.size){x:S}(hs:eO GP GI GB wr' w1.heap.size (n+1) (L.insN x acc))(hg:wr.grownBy wr' (O w1.heap.size)):mM w w1 wr' (n+1) (L.insN x acc):=
 ⟨λg hl=>(hg.block g (by have:=h.set.lt;omega) (by intro e;cases e;omega)).trans (h.fr g hl),h.bel.grown hg h.bel.size (λk e=>by cases e;exact hw),hs,CE h.srt⟩
theorem mM.call{w w1 wr wr':Y}{n:G}{acc:Z S}(h:mM w w1 wr n acc)(hb:Below wr.heap.size wr wr'):mM w w1 wr' n acc:=
 ⟨λg hl=>(hb.block g (by have:=h.set.lt;omega)).trans (h.fr g hl),h.bel.trans (hb.mono h.bel.size),h.set.same (hb.block _ h.set.lt),h.srt⟩
theorem MV{x:S}(h:-9223372036854775808<=x/\x<=9223372036854775807):(Lit.int .i64 x).wf=true:=by
 have e:wrap64 x=x:=by unfold wrap64;omega
 rw[<- e];exact wrap64_wf _
theorem drop_at{α:Type}{l:Z α}{i:G}{x:α}(h:l[i]?=O x):l.drop i=x::l.drop (i+1):=by
 obtain⟨h1,h2⟩:=NS.1 h;rw[Oe h1,h2]
theorem Gb{ws r acc a0:Z S}{s:S}(h:L.labS ws (s::r) acc=O a0):∃(m:G) (x:S),s=(m:S)/\ws[m]?=O x/\0<=x/\x<=4294967295/\L.labS ws r (L.insN (if x % 4=0 then x else 0) acc)=O a0:=by
 rw[L.labS] at h;split at h
 ·rename_i h0;split at h
  ·rename_i x hx;split at h
   ·rename_i hb;exact⟨s.toNat,x,(Int.toNat_of_nonneg h0).symm,hx,hb.1,hb.2,h⟩
   ·cases h
  ·cases h
 ·cases h
theorem Ga{j:S->M (S×zah×zab)}{n:G}{i:S}{acc ks:Z S}(h:L.labJ j (n+1) i acc=O ks):∃x b,j i=O (x,b,())/\(b=true->(-9223372036854775808<=x/\x<=9223372036854775807)/\L.labJ j n (i+1) (L.insN x acc)=O ks)/\(b=false->L.labJ j n (i+1) acc=O ks):=by
 rw[L.labJ] at h;split at h
 ·rename_i x b u hj;refine⟨x,b,hj,λhb=>?_,λhb=>?_⟩
  ·rw[zai hb] at h;split at h
   ·rename_i hx;exact⟨hx,h⟩
   ·cases h
  ·rw[zaj (by rw[hb];decide)] at h;exact h
 ·cases h
theorem wL{w w1:Y}{v1 v2 v3:E}(hb:Below (w.alloc (.cells #[v1,v2,v3] 26)).heap.size (w.alloc (.cells #[v1,v2,v3] 26)) w1) :
  w1.heap[w.heap.size]?=O (.cells #[v1,v2,v3] 26 (0,0))/\∀W:Y,(∀g,g<w1.heap.size->W.heap[g]?=w1.heap[g]?)->W.cell? ⟨w.heap.size,0,U⟩=O v1/\W.cell? ⟨w.heap.size,1,U⟩=O v2/\W.cell? ⟨w.heap.size,2,U⟩=O v3:=by
 have h0:w1.heap[w.heap.size]?=O (.cells #[v1,v2,v3] 26 (0,0)):=(hb.block _ (by simp)).trans (World.alloc_heap_new w _);refine⟨h0,λW hW=>?_⟩;have h1:=(hW _ (Array.getElem?_eq_some_iff.1 h0).1).trans h0;exact⟨by simp[World.cell?,h1],by simp[World.cell?,h1],by simp[World.cell?,h1]⟩
include hMay hL hst
set_option maxHeartbeats 1000000 in
theorem K4{e:S}(he:may ws ss ys=O (e,()))(h0:e≠0){v:E}(hv:bX w ws ss ys v) :
  Calls GP 30 #[v] w λr w'=>r=.returned (.tuple #[.slice U 0 0,.int .i64 e])/\Below w.heap.size w w':=by
 obtain⟨A1,c1,A2,c2,A3,c3,rfl⟩:=hv.parts;have hm:=kr (w:=w.alloc (.cells #[.slice A1 ws.length c1,.slice A2 ss.length c2,.slice A3 ys.length c3] 26)) hMay he (hv.later (by simp) (λg hg=>Below.heap_alloc _ _ g hg)) (hst _ _ hL (λg hg=>Below.heap_alloc _ _ g hg)) (hst.later (by simp));have hv':Aside (bX w ws ss ys (.agg #[.slice A1 ws.length c1,.slice A2 ss.length c2,.slice A3 ys.length c3])):=hv;clear hv
 go_enter Tryz.func30,Tryz.ntmps30
 go_wp2_with (go_at_call 29;refine hm.mono ?_;rintro r w1 ⟨rfl,hb⟩)
 go_ret2
 exact⟨rfl,((Below.refl _ w).alloc (NL _) _).trans (hb.mono (by simp))⟩
include hJump
set_option maxHeartbeats 1000000 in
theorem I8(hK:yZ)(he:may ws ss ys=O (0,())){a0 ks:Z S}(ha:L.labS ws ss []=O a0)(hr:L.labJ (jump ws ss ys) ws.length 0 a0=O ks)(hw:ws.length<=1000000)(hs:ss.length<=1000000){v:E}(hv:bX w ws ss ys v) :
  Calls GP 30 #[v] w λr w'=>∃v',r=.returned (.tuple #[v',.int .i64 0])/\Below w.heap.size w w'/\w'.ownsRow w.heap.size GI 1 v' ks.length (ks.map (nV .i64)):=by
 obtain⟨A1,c1,A2,c2,A3,c3,rfl⟩:=hv.parts;have hm:=kr (w:=w.alloc (.cells #[.slice A1 ws.length c1,.slice A2 ss.length c2,.slice A3 ys.length c3] 26)) hMay he (hv.later (by simp) (λg hg=>Below.heap_alloc _ _ g hg)) (hst _ _ hL (λg hg=>Below.heap_alloc _ _ g hg)) (hst.later (by simp));have hmm:=@run_makeMap GP
 go_enter Tryz.func30,Tryz.ntmps30
 go_wp2_with (go_at_call 29;refine hm.mono ?_;rintro r w1 ⟨rfl,hb⟩;obtain⟨hb0,hcb⟩:=wL (w:=w) hb;have hk1:=hcb (w1.alloc (.map #[] 0)) (λg hg=>Below.heap_alloc _ _ g hg))
 have I0:mM w w1 (w1.alloc (.map #[] 0)) 0 []:=⟨λg hg=>Below.heap_alloc _ _ g hg,(((Below.refl _ w).alloc (NL _) _).trans (hb.mono (by simp))).alloc (by have:=hb.size;simp at this;omega) _,eO.made w1,List.Pairwise.nil⟩
 have hw1:w.heap.size<=w1.heap.size:=by have:=hb.size;simp at this;omega
 obtain⟨v1',v2',v3',e,hs1,hs2,_⟩:=id hv;cases e;have A0:Aside (bX w ws ss ys (.agg #[.slice A1 ws.length c1,.slice A2 ss.length c2,.slice A3 ys.length c3])/\L.labJ (jump ws ss ys) ws.length 0 a0=O ks):=⟨hv,hr⟩
 clear hm hk1 hv hr he hb
 go_loopg [21] ss.length (λk s21 wr=>∃(i n:G) (acc:Z S),s21=.int .i64 i/\k+i=ss.length/\n<=i/\mM w w1 wr n acc/\L.labS ws (ss.drop i) acc=O a0)
 case atStart=>exact⟨0,0,[],rfl,rfl,NL _,I0,ha⟩
 case round=>
  obtain⟨i,n,acc,rfl,hki,hn,I,hl⟩:=hrel;obtain⟨hx1,hx2,hx3⟩:=hcb wr I.fr;by_cases hi:i<ss.length
  ·obtain⟨s,hs'⟩:∃s,ss[i]?=O s:=⟨_,NQ hi⟩
   rw[drop_at hs'] at hl;obtain⟨m,x,rfl,hx,hx0,hx4,hl'⟩:=Gb hl;obtain⟨g2,o2,rfl,hg2,hc2⟩:=hs2.num hs';obtain⟨g1,o1,rfl,hg1,hc1⟩:=hs1.num hx;have hc2':=cell_below I.bel hg2 hc2;have hc1':=cell_below I.bel hg1 hc1;have hml:m<ws.length:=(NS.1 hx).1;obtain⟨w',hrun,hset,hgr⟩:=I.set.put (m:=GM) Tryz.underlying3 Tryz.underlying4 Tryz.underlying119 (by unfold maxLen;omega) (x:=if x % 4=0 then x else 0) (MV (by split<;>omega));have I':=I.put hw1 hset hgr;have A:Aside (I.bel.size=I.bel.size/\mM w w1 w' (n+1) (L.insN (if x % 4=0 then x else 0) acc)/\L.labS ws (ss.drop (i+1)) (L.insN (if x % 4=0 then x else 0) acc)=O a0):=⟨rfl,I',hl'⟩
   clear I' hl' hset hgr hl hs' hx hc1 hc2;have hw63:zac.wrap x=x:=IntWalk.i64_in _ (by omega);have hwi:zac.wrap ((i:S)+1)=((i+1:G):S):=IntWalk.i64_in _ (by omega);by_cases h4:x % 4=0
   ·have ht:Int.tmod x 4=0:=by rw[Oj hx0];exact h4
    rw[zai h4] at hrun A
    go_wp2
    obtain⟨_,I',hl'⟩:=A.out
    go_roundg (gk-1)
    case rel=>exact⟨i+1,n+1,_,rfl,by omega,by omega,I',hl'⟩
    case measure=>omega
   ·have ht:¬Int.tmod x 4=0:=by rw[Oj hx0];exact h4
    rw[zaj h4] at hrun A
    go_wp2
    obtain⟨_,I',hl'⟩:=A.out
    go_roundg (gk-1)
    case rel=>exact⟨i+1,n+1,_,rfl,by omega,by omega,I',hl'⟩
    case measure=>omega
  ·have hl0:acc=a0:=by
    rw[List.drop_eq_nil_of_le (by omega),L.labS] at hl;exact NF hl
   subst hl0;have hn0:n<=ss.length:=by omega
   go_wp2
   clear hx1 hx2 hx3;obtain⟨hv,hr⟩:=A0.out
   go_loopg [40] ws.length (λk s40 wr=>∃(i n:G) (acc:Z S),s40=.int .i64 i/\k+i=ws.length/\n<=ss.length+i/\mM w w1 wr n acc/\L.labJ (jump ws ss ys) k (i:S) acc=O ks)
   case atStart=>exact⟨0,n,acc,rfl,rfl,by omega,I,hr⟩
   case round=>
    obtain⟨i,n,acc,rfl,hki,hn,I,hl⟩:=hrel;obtain⟨hx1,hx2,hx3⟩:=hcb wr I.fr;have A1:Aside (L.labJ (jump ws ss ys) gk (i:S) acc=O ks/\bX w ws ss ys (.agg #[.slice A1 ws.length c1,.slice A2 ss.length c2,.slice A3 ys.length c3])):=⟨hl,hv⟩
    by_cases hi:i<ws.length
    ·obtain⟨gk',rfl⟩:∃k,gk=k+1:=⟨gk-1,by omega⟩
     obtain⟨x,b,hj,ht,hf⟩:=Ga hl;have hJ:=DX (w:=wr) hJump hj (hv.later I.bel.size (λg hg=>I.bel.block g hg)) (hst _ _ hL (λg hg=>I.bel.block g hg)) (hst.later I.bel.size);have hwi:zac.wrap ((i:S)+1)=((i+1:G):S):=IntWalk.i64_in _ (by omega);have A2:Aside ((b=true->(-9223372036854775808<=x/\x<=9223372036854775807)/\L.labJ (jump ws ss ys) gk' ((i:S)+1) (L.insN x acc)=O ks)/\(b=false->L.labJ (jump ws ss ys) gk' ((i:S)+1) acc=O ks)):=⟨ht,hf⟩
     clear hl hj ht hf hv hr I0;cases b with
     |false=>
      go_wp2_with (go_at_call 42;refine hJ.mono ?_;rintro r w2 ⟨rfl,hb2⟩)
      go_roundg gk'
      case rel=>exact⟨i+1,n,acc,rfl,by omega,by omega,I.call hb2,A2.out.2 (by simp)⟩
      case measure=>omega
     |true=>
      go_wp2_with (go_at_call 42;refine hJ.mono ?_;rintro r w2 ⟨rfl,hb2⟩;obtain⟨hxb,hl2⟩:=A2.out.1 rfl;obtain⟨w',hrun,hset,hgr⟩:=(I.call hb2).set.put (m:=GM) Tryz.underlying3 Tryz.underlying4 Tryz.underlying119 (by unfold maxLen;omega) (MV hxb))
      go_roundg gk'
      case rel=>exact⟨i+1,n+1,_,rfl,by omega,by omega,(I.call hb2).put hw1 hset hgr,hl2⟩
      case measure=>omega
    ·obtain rfl:gk=0:=by omega
     have hks:acc=ks:=by rw[L.labJ] at hl;exact NF hl
     subst hks;obtain⟨k1,k2⟩:=hK wr w1.heap.size n acc I.set I.srt (by omega)
     go_wp2_with (first|(go_at_call 72;refine k1.mono ?_;rintro r w2 ⟨rfl,rfl⟩)|(go_at_call 71;refine k2.mono ?_;rintro r w3 ⟨v',rfl,hown,hb3⟩))
     go_ret2
     exact⟨v',rfl,I.bel.trans (hb3.mono I.bel.size),ownsRow_base_a hown I.bel.size⟩
end
set_option maxHeartbeats 1000000 in
theorem K5(hK:yZ){LL:Y->Prop}{may:oOT->oOT->oOY->M (S×zab)}{jump:oOT->oOT->oOY->S->M (S×zah×zab)}
  (hMay:Sat GP LL 29 (ah ⟨[(0,.agg oC)],[]⟩ ⟨[(0,Si)],[]⟩ may)) (hJump:Sat GP LL 42 (ah ⟨[(0,.agg oC),(1,Si)],[]⟩ ⟨[(0,Si),(1,SB)],[]⟩ jump)) :
  Sat GP LL 30 (ah ⟨[(0,.agg oC)],[]⟩ ⟨[(0,.c (.row GI (.int .i64))),(1,Si)],[]⟩ (λa b c=>L.labelOfO may jump a b c)):=by
 rintro⟨(ws:Z S),(ss:Z S),(ys:oOY),u⟩ y hy C γ vals hCL hCn R;have hCn:C.nl=0:=hCn;have hy:L.labelOfO may jump ws ss ys=O y:=hy;have hsz:vals.size=1:=R.size;have hv:∃v,vals=#[v]/\bX C.w0 ws ss ys v:=by
  have s0:aZ C γ _ C.w0 (.v (.agg [.sl U oTU ws,.sl U oTI ss,.sl U oTS ys])) (vals.getD 0 undef):=R.slot 0 _ rfl;refine⟨vals.getD 0 undef,?_,bX.of s0⟩;apply Array.ext';obtain⟨l⟩:=vals
  match l,hsz with
  |[a],_=>rfl
 obtain⟨v,rfl,hv⟩:=hv;have hL:LL C.w0:=by rw[<- hCL];exact R.inv.laid
 have hst:eu LL C.w0.heap.size:=λa b' ha hb=>by
  rw[<- hCL] at ha⊢;exact R.inv.stable a b' ha λg hg=>hb g (by
   by_cases h:g<C.w0.heap.size;·exact h
   ·exact absurd (R.inv.new g (by omega)) hg)
 unfold L.labelOfO at hy;split at hy
 ·rename_i e u' he;split at hy
  ·rename_i h0;subst h0;split at hy
   ·rename_i hb;split at hy
    ·rename_i a0 ha;split at hy
     ·rename_i ks hr;obtain rfl:=NF hy;refine(I8 hMay hJump hL hst hK he ha hr hb.1 hb.2 hv).mono ?_;rintro e w' ⟨v',rfl,hbl,ho⟩;obtain⟨γ1,h1⟩:=iO.of (k:=.i64) ho;exact AJ R.inv hCn hbl h1
     ·cases hy
    ·cases hy
   ·cases hy
  ·rename_i h0;obtain rfl:=NF hy;refine(K4 hMay hL hst he h0 hv).mono ?_;rintro e w' ⟨rfl,hbl⟩;exact AJ R.inv hCn hbl (iO.nil _ _ _ _)
 ·cases hy
end
end Rv
namespace Rv
open Go Go.RowKit Go.Proofs Go.Lib
noncomputable section
set_option maxRecDepth 1000000
abbrev dTI:Ty:=.pair (.int .i64) (.pair (.int .u32) (.pair .str .nil))
abbrev dTS:Ty:=.pair (.int .i64) (.pair (.int .i64) (.pair (.int .i64) (.pair (.int .i64) (.pair (.int .i64) (.pair .bool (.pair (.sl dTI) (.pair .str .nil)))))))
abbrev dTL:Ty:=.pair .str (.pair dTS .nil)
abbrev DSL:zaf:=29
abbrev DEL:zaf:=78
structure JJ (R:G->Prop) (w W0:Y) (bo l:G) (ls:Z dTL.D) (v:E) (cells:Z E) (ok:G->Prop) (W:Y):Prop where
 fr:∀g,g<W0.heap.size->g≠bo->g≠l->W.heap[g]?=W0.heap[g]?
 bel:Below w.heap.size w W
 size:W0.heap.size<=W.heap.size
 box:W.heap[bo]?=O (.cells #[v] DSL (0,0))
 row:W.ownsRow 0 DEL 9 v ls.length cells
 own:∀g,v.ownBlock=O g->W0.heap.size<=g
 rep:bi W ok dTL ls cells
 okl:∀g,ok g->g<W.heap.size/\(R g/\g<w.heap.size\/W0.heap.size<=g/\v.ownBlock≠O g)
theorem lN{w w':Y}{ok ok':G->Prop}{t:Ty}{xs:Z t.D}{cur:Z E}(hs:w.heap.size<=w'.heap.size)(hb:∀g,ok g->g<w.heap.size->w'.heap[g]?=w.heap[g]?/\ok' g)(h:bi w ok t xs cur):bi w' ok' t xs cur:=
 λi x hi=>(h i x hi).mono hs hb
section
variable{R:G->Prop}{w W0:Y}{bo l:G}{ls:Z dTL.D}{v:E}{cells:Z E}{ok:G->Prop}{W W':Y}
 (h1:w.heap.size<=bo) (h2:bo<W0.heap.size) (h3:w.heap.size<=l) (h4:l<W0.heap.size) (h5:bo≠l)
theorem JJ.own_lt(h:JJ R w W0 bo l ls v cells ok W){g:G}(hg:v.ownBlock=O g):g<W.heap.size:=by
 rcases h.row.2 with⟨h1,_⟩|⟨g',cap,cur,h1,_,h3,_⟩;·rw[h1] at hg;cases hg
 ·rw[h1] at hg;cases hg;exact(Array.getElem?_eq_some_iff.1 h3).1
include h3 h4 h5 in
theorem JJ.step(h:JJ R w W0 bo l ls v cells ok W)(hb:∀g,g<W.heap.size->g≠l->W'.heap[g]?=W.heap[g]?)(hw:Below w.heap.size w W')(hs:W.heap.size<=W'.heap.size):JJ R w W0 bo l ls v cells ok W':=by
 have hbo:bo<W.heap.size:=(Array.getElem?_eq_some_iff.1 h.box).1;have hok:∀g,ok g->g≠l:=λg hg e=>by
  rcases(h.okl g hg).2 with⟨_,h6⟩|⟨h6,_⟩<;>omega
 refine⟨λg hg g1 g2=>(hb g (by have:=h.size;omega) g2).trans (h.fr g hg g1 g2),hw,Og h.size hs,(hb bo hbo h5).trans h.box,?_,h.own,lN hs (λg hg hl=>⟨hb g hl (hok g hg),hg⟩) h.rep,λg hg=>⟨by have:=(h.okl g hg).1;omega,(h.okl g hg).2⟩⟩;rcases h.row with⟨hl,⟨rfl,h0⟩|⟨g,cap,cur,rfl,hb0,hg,r⟩⟩;·exact⟨hl,.inl ⟨rfl,h0⟩⟩
 ·have hW:=h.own g rfl;exact⟨hl,.inr ⟨g,cap,cur,rfl,hb0,(hb g (Array.getElem?_eq_some_iff.1 hg).1 (by omega)).trans hg,r⟩⟩
include h3 h4 h5 in
theorem JJ.below(h:JJ R w W0 bo l ls v cells ok W)(hb:Below W.heap.size W W'):JJ R w W0 bo l ls v cells ok W':=
 h.step h3 h4 h5 (λg hg _=>hb.block g hg) (h.bel.trans (hb.mono h.bel.size)) hb.size
include h3 h4 h5 in
theorem JJ.call(h:JJ R w W0 bo l ls v cells ok W)(hb:Below W.heap.size W W'){t:Ty}{x:t.D}{vs:Z E}(hx:Rd W' (λg=>R g/\g<w.heap.size\/W.heap.size<=g) t x vs) :
  ∃ok',JJ R w W0 bo l ls v cells ok' W'/\Rd W' ok' t x vs:=by
 have hJ:=h.below h3 h4 h5 hb;refine⟨λg=>ok g\/(g<W'.heap.size/\(R g/\g<w.heap.size\/W.heap.size<=g)),⟨hJ.fr,hJ.bel,hJ.size,hJ.box,hJ.row,hJ.own,lN (NL _) (λg hg _=>⟨rfl,.inl hg⟩) hJ.rep,?_⟩,hx.mono (NL _) (λg hg hl=>⟨rfl,.inr ⟨hl,hg⟩⟩)⟩;rintro g (hg|⟨hl,hg⟩);·exact hJ.okl g hg
 ·refine⟨hl,hg.imp id λhg=>⟨by have:=h.size;omega,λe=>?_⟩⟩;have:=h.own_lt e;omega
theorem GQ{w:Y}{ok:G->Prop}{t:Ty}{xs:Z t.D}{x:t.D}{cs vs:Z E}(hl:cs.length=xs.length*t.size)(h:bi w ok t xs cs)(hx:Rd w ok t x vs):bi w ok t (xs++[x]) (cs++vs):=by
 have hv:=hx.length;intro i y hi;by_cases hlt:i<xs.length
 ·rw[Ou hlt] at hi;have hle:i*t.size+t.size<=xs.length*t.size:=by
   rw[<- Nat.succ_mul];exact Nat.mul_le_mul_right _ hlt
  have e:((cs++vs).drop (i*t.size)).take t.size=(cs.drop (i*t.size)).take t.size:=by
   rw[List.drop_append_of_le_length (by rw[hl];omega),List.take_append_of_le_length (by rw[List.length_drop,hl];omega)]
  rw[e];exact h i y hi
 ·have hi0:i=xs.length:=by
   have:=(NS.1 hi).1;simp at this;omega
  subst hi0;rw[List.getElem?_append_right (NL _),Nat.sub_self] at hi;obtain rfl:=NF hi;rw[<- hl,List.drop_left,List.take_of_length_le (by omega)];exact hx
include h1 h2 h3 h4 h5 in
theorem JJ.put(h:JJ R w W0 bo l ls v cells ok W){x:dTL.D}{vs:Z E}(hx:Rd W ok dTL x vs){v':E}(hb:∀g,g<W.heap.size->g≠bo->g≠l->v.ownBlock≠O g->W'.heap[g]?=W.heap[g]?)(hw:Below w.heap.size w W')(hs:W.heap.size<=W'.heap.size)
  (hbox:W'.heap[bo]?=O (.cells #[v'] DSL (0,0))) (hrow:W'.ownsRow 0 DEL 9 v' (ls.length+1) (cells++vs)) (hown:∀g,v'.ownBlock=O g->v.ownBlock=O g\/W.heap.size<=g) :
  JJ R w W0 bo l (ls++[x]) v' (cells++vs) ok W':=by
 have hok:∀g,ok g->g≠bo/\g≠l/\v.ownBlock≠O g:=λg hg=>by
  rcases(h.okl g hg).2 with⟨_,h6⟩|⟨h6,h7⟩;·refine⟨by omega,by omega,λe=>?_⟩;have:=h.own g e;have:=h.bel.size;have:=h.size;omega
  ·exact⟨by omega,by omega,h7⟩
 have hmv:∀g,ok g->g<W.heap.size->W'.heap[g]?=W.heap[g]?/\ok g:=λg hg hl=>⟨hb g hl (hok g hg).1 (hok g hg).2.1 (hok g hg).2.2,hg⟩
 refine⟨λg hg g1 g2=>(hb g (by have:=h.size;omega) g1 g2 (λe=>by have:=h.own g e;omega)).trans (h.fr g hg g1 g2),hw,Og h.size hs,hbox,by rw[NP,List.length_singleton];exact hrow,λg hg=>?_,lN hs hmv (GQ h.row.1 h.rep hx),λg hg=>⟨by have:=(h.okl g hg).1;omega,?_⟩⟩
 ·rcases hown g hg with h6|h6
  ·exact h.own g h6
  ·have:=h.size;omega
 ·refine(h.okl g hg).2.imp id λh6=>⟨h6.1,λe=>?_⟩
  rcases hown g e with h7|h7;·exact h6.2 h7
  ·have:=(h.okl g hg).1;omega
end
end
end Rv
namespace Rv
open Go Go.RowKit Go.Proofs Go.Lib
noncomputable section
set_option maxRecDepth 1000000
abbrev dC:Z CD:=[ki,ki,ki,ki,ki,.bool,.sl dTI,.str]
abbrev dST:=S×S×S×S×S×zah×Z (S×S×Str×zab)×Str×zab
section
variable{P:Program}{L:Y->Prop}{w:Y}
def rR(w:Y)(L:Y->Prop)(R:G->Prop):Ctx:={ w0:=w,own:=λg=>w.heap.size<=g,rd:=λg=>R g\/w.heap.size<=g,L:=L }
theorem J5{R:G->Prop}{st:St}{args:Array E}(hh:st.h=Heap.ofList [])(hsz:args.size=st.s.length)(hs:∀i v,st.s[i]?=O v->aZ (rR w L R) (λ_=>U) (Heap.ofList []) w v (args.getD i undef))(hL:L w)(hst:eu L w.heap.size) :
  Rel (rR w L R) (λ_=>U) w st args:=⟨hsz,by rw[hh];exact hs,by
 rw[hh];exact {
  box:=λk e hk=>by cases hk
  inj:=λk k' e e' g c c' hk=>by cases hk
  own:=λk e g c hk=>by cases hk
  frame:=λ_ _ _=>rfl
  size:=NL _
  os:=rfl
  tape:=rfl
  output:=rfl
  new:=λ_ h=>h
  rd:=λ_ h=>.inr h
  laid:=hL
  stable:=λa b ha hb=>hst a b ha λg hg=>hb g (by show ¬w.heap.size<=g;omega)
  lent:=λj hj=>by cases hj }⟩
theorem Fb{R:G->Prop}{γ:Gam}{w':Y}{st:St}{rs:Array E}(H:Rel (rR w L R) γ w' st rs):Below w.heap.size w w':=
 ⟨H.inv.os,H.inv.tape,H.inv.output,H.inv.size,λk hk=>H.inv.frame k hk (by show ¬w.heap.size<=k;omega)⟩
theorem wS{R:G->Prop}{t:Ty}{xs:Z t.D}{v:E}(h:Rd w R (.sl t) xs [v]):av (rR w L R) (λ_=>U) (Heap.ofList []) w (.sl U t xs) v:=by
 obtain⟨A,c,e,hc,hx⟩:=h;obtain rfl:v=.slice A xs.length c:=by simpa using e
 refine⟨rfl,A,c,rfl,hc,λi x hi=>?_⟩;obtain⟨g,o,ds,h1,h2,h3,h4,h5⟩:=hx i x hi;exact⟨g,o,ds,h1,⟨.inl h2,λk e c hk=>by cases hk⟩,h3,h4.mono (NL _) (λg hg _=>⟨rfl,.inl hg,λk e c hk=>by cases hk⟩),h5⟩
theorem vN{C:Ctx}{γ:Gam}{h:Heap}{t:Ty}{xs:Z t.D}{v:E}(hr:av C γ h w (.sl U t xs) v):Rd w C.rd (.sl t) xs [v]:=by
 obtain⟨_,A,c,hv,hc,hx⟩:=hr;refine⟨A,c,by rw[hv],hc,λi y hy=>?_⟩;obtain⟨g,o,ds,h3,h4,h5,h6,h7⟩:=hx i y hy;exact⟨g,o,ds,h3,h4.1,h5,h6.mono (NL _) (λg hg _=>⟨rfl,hg.1⟩),h7⟩
theorem Fy{f:FuncId}{g:S->M (Str×zab)}(hs:Sat P L f (ah ⟨[(0,Si)],[]⟩ ⟨[(0,Ss)],[]⟩ g)){i:S}{y:Str}(hg:g i=O (y,()))(hL:L w)(hst:eu L w.heap.size) :
  Calls P f #[.int .i64 i] w λe w'=>e=.returned (.string (mkS y))/\Below w.heap.size w w':=by
 have R:Rel (top w L) (λ_=>U) (top w L).w0 ((⟨[(0,Si)],[]⟩:Shape).mk' nmJ 1 (i,())) #[.int .i64 i]:=by
  refine oh rfl rfl (λj x hj=>?_) hL hst
  match j,hj with
  |0,hj=>obtain rfl:=NF hj;exact rfl
  |j+1,hj=>cases hj
 refine(hs (i,()) (y,()) hg (top w L) (λ_=>U) #[.int .i64 i] rfl rfl R).mono λe w' ⟨γ',rs,he,R'⟩=>?_
 have h0:rs.getD 0 undef=.string (mkS y):=R'.slot 0 (.v (.c (.str y))) rfl;have hsz:rs.size=1:=R'.size;have hrs:rs=#[.string (mkS y)]:=by
  match rs,hsz,h0 with
  |⟨[v]⟩,_,h0=>simp at h0;rw[h0]
 subst hrs;exact⟨he,kF R'⟩
theorem Iy{f:FuncId}{g:Z S->S->M (S×zah×zab)}(hs:Sat P L f (ah ⟨[(0,.c (.sl oTI)),(1,Si)],[]⟩ ⟨[(0,Si),(1,SB)],[]⟩ g)){xs:Z S}{i y:S}{b:zah}(hg:g xs i=O (y,b,())){v:E}(hv:eD w oTI xs v)(hL:L w)(hst:eu L w.heap.size) :
  Calls P f #[v,.int .i64 i] w λe w'=>e=.returned (.tuple #[.int .i64 y,.bool b])/\Below w.heap.size w w':=by
 have R:Rel (top w L) (λ_=>U) (top w L).w0 ((⟨[(0,.c (.sl oTI)),(1,Si)],[]⟩:Shape).mk' nmJ 2 (xs,i,())) #[v,.int .i64 i]:=by
  refine oh rfl rfl (λj x hj=>?_) hL hst
  match j,hj with
  |0,hj=>obtain rfl:=NF hj;exact hv.rep
  |1,hj=>obtain rfl:=NF hj;exact rfl
  |j+2,hj=>cases hj
 refine(hs (xs,i,()) (y,b,()) hg (top w L) (λ_=>U) #[v,.int .i64 i] rfl rfl R).mono λe w' ⟨γ',rs,he,R'⟩=>?_
 have h0:rs.getD 0 undef=.int .i64 y:=R'.slot 0 (.v (.c (.int .i64 y))) rfl;have h1:rs.getD 1 undef=.bool b:=R'.slot 1 (.v (.c (.bool b))) rfl;have hsz:rs.size=2:=R'.size;have hrs:rs=#[.int .i64 y,.bool b]:=by
  match rs,hsz,h0,h1 with
  |⟨[u,v]⟩,_,h0,h1=>simp at h0 h1;rw[h0,h1]
 subst hrs;exact⟨he,kF R'⟩
theorem DY{f:FuncId}{g:oOT->oOT->oOY->S->M dST}(hs:Sat P L f (ah ⟨[(0,.agg oC),(1,Si)],[]⟩ ⟨[(0,.agg dC)],[]⟩ g)){R:G->Prop}{ws ss:oOT}{ys:oOY}{i:S}{y:dST}(hg:g ws ss ys i=O y){v1 v2 v3:E}
  (hv1:Rd w R (.sl oTU) ws [v1]) (hv2:Rd w R (.sl oTI) ss [v2]) (hv3:Rd w R (.sl oTS) ys [v3]) (hL:L w) (hst:eu L w.heap.size) :
  Calls P f #[.agg #[v1,v2,v3],.int .i64 i] w λe w'=>∃c0 c1 c2 c3 c4 c5 c6 c7,e=.returned (.agg #[c0,c1,c2,c3,c4,c5,c6,c7])/\Rd w' (λg=>R g\/w.heap.size<=g) dTS (show dTS.D from y) [c0,c1,c2,c3,c4,c5,c6,c7]/\Below w.heap.size w w':=by
 obtain⟨y0,y1,y2,y3,y4,y5,y6,y7,u⟩:=y;have Rr:Rel (rR w L R) (λ_=>U) (rR w L R).w0 ((⟨[(0,.agg oC),(1,Si)],[]⟩:Shape).mk' nmJ 2 (ws,ss,ys,i,())) #[.agg #[v1,v2,v3],.int .i64 i]:=by
  refine J5 rfl rfl (λj x hj=>?_) hL hst
  match j,hj with
  |0,hj=>obtain rfl:=NF hj;exact⟨[v1,v2,v3],rfl,wS hv1,wS hv2,wS hv3,trivial⟩
  |1,hj=>obtain rfl:=NF hj;exact rfl
  |j+2,hj=>cases hj
 refine(hs (ws,ss,ys,i,()) (y0,y1,y2,y3,y4,y5,y6,y7,()) hg (rR w L R) (λ_=>U) #[.agg #[v1,v2,v3],.int .i64 i] rfl rfl Rr).mono λe w' ⟨γ',rs,he,R'⟩=>?_
 have h0:aZ (rR w L R) γ' _ w' (.v (.agg [.int .i64 y0,.int .i64 y1,.int .i64 y2,.int .i64 y3,.int .i64 y4,.bool y5,.sl U dTI y6,.str y7])) (rs.getD 0 undef):=R'.slot 0 _ rfl;have hsz:rs.size=1:=R'.size;obtain⟨vs,hv,ha⟩:=h0;have hrs:rs=#[.agg vs.toArray]:=by
  match rs,hsz,hv with
  |⟨[u]⟩,_,hv=>simp at hv;rw[hv]
 subst hrs
 match vs,ha with
 |[c0,c1,c2,c3,c4,c5,c6,c7],⟨e0,e1,e2,e3,e4,e5,e6,e7,_⟩=>
  refine⟨c0,c1,c2,c3,c4,c5,c6,c7,he,?_,Fb R'⟩;exact⟨[c0],_,rfl,by rw[e0];rfl,[c1],_,rfl,by rw[e1];rfl,[c2],_,rfl,by rw[e2];rfl,[c3],_,rfl,by rw[e3];rfl,[c4],_,rfl,by rw[e4];rfl,[c5],_,rfl,by rw[e5];rfl,[c6],[c7],rfl,vN e6,[c7],[],rfl,by rw[e7];rfl,rfl⟩
theorem Ar{W:Y}{ok:G->Prop}(nm:Str)(k:S)(s:Str):Rd W ok dTL (show dTL.D from(nm,Rv.L.st0 k s,())) [.string (mkS nm),.int .i64 k,.int .i64 0,.int .i64 0,.int .i64 0,.int .i64 0,.bool false,.slice U 0 0,.string (mkS s)]:=
 ⟨[.string (mkS nm)],_,rfl,rfl,[.int .i64 k,.int .i64 0,.int .i64 0,.int .i64 0,.int .i64 0,.bool false,.slice U 0 0,.string (mkS s)],[],rfl,
  ⟨[.int .i64 k],_,rfl,rfl,[.int .i64 0],_,rfl,rfl,[.int .i64 0],_,rfl,rfl,[.int .i64 0],_,rfl,rfl,[.int .i64 0],_,rfl,rfl,[.bool false],_,rfl,rfl,[.slice U 0 0],[.string (mkS s)],rfl,⟨U,0,rfl,NL _,λi x h=>by cases h⟩,[.string (mkS s)],[],rfl,rfl,rfl⟩,rfl⟩
theorem Lx{W:Y}{ok:G->Prop}{y:dST}{vs:Z E}(h:Rd W ok dTS (show dTS.D from y) vs):Rd W ok dTL (show dTL.D from(([]:Str),y,())) (.string (mkS [])::vs):=
 ⟨[.string (mkS [])],vs,rfl,rfl,vs,[],(N9 _).symm,h,rfl⟩
theorem Dh{W:Y}{ok:G->Prop}{y:dST}{c0 c1 c2 c3 c4 c5 c6 c7:E}(h:Rd W ok dTS (show dTS.D from y) [c0,c1,c2,c3,c4,c5,c6,c7]) :
  ∃A c,c0=.int .i64 y.1/\c1=.int .i64 y.2.1/\c2=.int .i64 y.2.2.1/\c3=.int .i64 y.2.2.2.1/\c4=.int .i64 y.2.2.2.2.1/\c5=.bool y.2.2.2.2.2.1/\c6=.slice A y.2.2.2.2.2.2.1.length c/\c7=.string (mkS y.2.2.2.2.2.2.2.1):=by
 obtain⟨a0,r0,e0,h0,a1,r1,e1,h1,a2,r2,e2,h2,a3,r3,e3,h3,a4,r4,e4,h4,a5,r5,e5,h5,a6,r6,e6,⟨A,c,h6,_⟩,a7,r7,e7,h7,h8⟩:=h;have h0:a0=[.int .i64 y.1]:=h0;have h1:a1=[.int .i64 y.2.1]:=h1;have h2:a2=[.int .i64 y.2.2.1]:=h2;have h3:a3=[.int .i64 y.2.2.2.1]:=h3;have h4:a4=[.int .i64 y.2.2.2.2.1]:=h4;have h5:a5=[.bool y.2.2.2.2.2.1]:=h5;have h7:a7=[.string (mkS y.2.2.2.2.2.2.2.1)]:=h7;have h8:r7=[]:=h8;subst h0 h1 h2 h3 h4 h5 h6 h7 h8 e7 e6 e5 e4 e3 e2 e1;simp only[List.cons_append,Oc,List.cons.injEq] at e0;obtain⟨e0,e1,e2,e3,e4,e5,e6,e7,_⟩:=e0;exact⟨A,c,e0,e1,e2,e3,e4,e5,e6,e7⟩
end
end
end Rv
namespace Rv
open Go Go.RowKit Go.Proofs Go.Lib Go.Shelf
noncomputable section
set_option maxRecDepth 1000000
attribute [local go_sem] Oper.semAt_some
structure lh (LW:Y->Prop) (R:G->Prop) (w W0:Y) (bo l bl bp:G) (ws ss:oOT) (ys:oOY) (ps:oOT) (v1 v2 v3 v5:E):Prop where
 h1:w.heap.size<=bo
 h2:bo<W0.heap.size
 h3:w.heap.size<=l
 h4:l<W0.heap.size
 h5:bo≠l
 l1:bl<W0.heap.size
 l2:bl≠bo
 l3:bl≠l
 l4:W0.heap[bl]?=O (.cells #[v1,v2,v3] 26 (0,0))
 p1:bp<W0.heap.size
 p2:bp≠bo
 p3:bp≠l
 p4:W0.heap[bp]?=O (.cells #[v5] 23 (0,0))
 r1:Rd w R (.sl oTU) ws [v1]
 r2:Rd w R (.sl oTI) ss [v2]
 r3:Rd w R (.sl oTS) ys [v3]
 rp:∀W:Y,(∀g,g<W0.heap.size->g≠bo->g≠l->W.heap[g]?=W0.heap[g]?)->W0.heap.size<=W.heap.size->eD W oTI ps v5
 lw:LW w
 st:eu LW w.heap.size
section
variable{LW:Y->Prop}{R:G->Prop}{w W0 W:Y}{bo l bl bp:G}{ws ss:oOT}{ys:oOY}{ps:oOT}{v1 v2 v3 v5:E}(H:lh LW R w W0 bo l bl bp ws ss ys ps v1 v2 v3 v5)
 {ls:Z dTL.D} {v:E} {cells:Z E} {ok:G->Prop}
include H
theorem lh.cell(h:JJ R w W0 bo l ls v cells ok W):W.cell? ⟨bl,0,U⟩=O v1/\W.cell? ⟨bl,1,U⟩=O v2/\W.cell? ⟨bl,2,U⟩=O v3/\W.cell? ⟨bp,0,U⟩=O v5:=by
 have e1:=(h.fr bl H.l1 H.l2 H.l3).trans H.l4;have e2:=(h.fr bp H.p1 H.p2 H.p3).trans H.p4;exact⟨by simp[World.cell?,e1],by simp[World.cell?,e1],by simp[World.cell?,e1],by simp[World.cell?,e2]⟩
theorem lh.lW(h:JJ R w W0 bo l ls v cells ok W):LW W/\eu LW W.heap.size:=
 ⟨H.st _ _ H.lw (λg hg=>h.bel.block g hg),H.st.later h.bel.size⟩
theorem lh.rd(h:JJ R w W0 bo l ls v cells ok W){t:Ty}{xs:Z t.D}{u:E}(hr:Rd w R (.sl t) xs [u]):Rd W (λg=>R g/\g<w.heap.size) (.sl t) xs [u]:=
 hr.mono h.bel.size λg hg hl=>⟨h.bel.block g hl,hg,hl⟩
theorem lh.sym(h:JJ R w W0 bo l ls v cells ok W){i:G}{s:Z UInt8×S×zab}(hi:ys[i]?=O s){A:M Addr}{n c:G}(hv:v3=.slice A n c):∃g o,A=O ⟨g,o,U⟩/\W.cell? ⟨g,o+i*2,U⟩=O (.string (mkS s.1))/\W.cell? ⟨g,o+i*2+1,U⟩=O (.int .i64 s.2.1):=by
 obtain⟨A',c',e,hc,hx⟩:=H.rd h H.r3;obtain⟨g,o,ds,rfl,_,_,hd,hcell⟩:=hx i s hi;subst hv;have e:=List.cons.inj e;obtain⟨e,_⟩:=e;cases e;obtain⟨d1,d2,rfl,h1,d3,d4,rfl,h2,h3⟩:=hd;have h1:d1=[.string (mkS s.1)]:=h1;have h2:d3=[.int .i64 s.2.1]:=h2;have h3:d4=[]:=h3;subst h1 h2 h3;exact⟨g,o,rfl,hcell 0 _ rfl,hcell 1 _ rfl⟩
omit H in
theorem zW{f:S->M (S×zah×zab)}{g:S->M (Str×zab)}{h:S->M dST}{n:G}:∀{k:G}{i:S}{acc mid:Z L.LnT},L.linI f g h ys n k i acc=O mid->acc.length<=mid.length
 |0,i,acc,mid,H=>by rw[L.linI] at H;rw[NF H];exact NL _
 |k+1,i,acc,mid,H=>by
  rw[L.linI] at H;split at H;·cases H
  ·split at H
   ·cases H
   ·split at H
    ·cases H
    ·have:=zW H;simp at this;omega
theorem lh.bs(h:JJ R w W0 bo l ls v cells ok W){f:FuncId}{bs:oOT->S->M (S×zah×zab)}(hs:Sat GP LW f (ah ⟨[(0,.c (.sl oTI)),(1,Si)],[]⟩ ⟨[(0,Si),(1,SB)],[]⟩ bs)){i y:S}{b:zah}(hg:bs ps i=O (y,b,())) :
  Calls GP f #[v5,.int .i64 i] W λe w'=>e=.returned (.tuple #[.int .i64 y,.bool b])/\Below W.heap.size W w':=
 Iy hs hg (H.rp W h.fr h.size) (H.lW h).1 (H.lW h).2
theorem lh.nm(h:JJ R w W0 bo l ls v cells ok W){f:FuncId}{nm:S->M (Str×zab)}(hs:Sat GP LW f (ah ⟨[(0,Si)],[]⟩ ⟨[(0,Ss)],[]⟩ nm)){i:S}{s:Str}(hg:nm i=O (s,())) :
  Calls GP f #[.int .i64 i] W λe w'=>e=.returned (.string (mkS s))/\Below W.heap.size W w':=
 Fy hs hg (H.lW h).1 (H.lW h).2
theorem lh.line(h:JJ R w W0 bo l ls v cells ok W){f:FuncId}{line:oOT->oOT->oOY->S->M dST}(hs:Sat GP LW f (ah ⟨[(0,.agg oC),(1,Si)],[]⟩ ⟨[(0,.agg dC)],[]⟩ line)){i:S}{y:dST}(hg:line ws ss ys i=O y) :
  Calls GP f #[.agg #[v1,v2,v3],.int .i64 i] W λe w'=>∃A c ok',e=.returned (.agg #[.int .i64 y.1,.int .i64 y.2.1,.int .i64 y.2.2.1,.int .i64 y.2.2.2.1,.int .i64 y.2.2.2.2.1,.bool y.2.2.2.2.2.1,.slice A y.2.2.2.2.2.2.1.length c,.string (mkS y.2.2.2.2.2.2.2.1)]) /\
   JJ R w W0 bo l ls v cells ok' w'/\Rd w' ok' dTL (show dTL.D from(([]:Str),y,())) [.string (mkS []),.int .i64 y.1,.int .i64 y.2.1,.int .i64 y.2.2.1,.int .i64 y.2.2.2.1,.int .i64 y.2.2.2.2.1,.bool y.2.2.2.2.2.1,.slice A y.2.2.2.2.2.2.1.length c,.string (mkS y.2.2.2.2.2.2.2.1)]/\Below W.heap.size W w':=by
 refine(DY hs hg (H.rd h H.r1) (H.rd h H.r2) (H.rd h H.r3) (H.lW h).1 (H.lW h).2).mono ?_;rintro e w' ⟨c0,c1,c2,c3,c4,c5,c6,c7,rfl,hr,hb⟩;obtain⟨A,c,rfl,rfl,rfl,rfl,rfl,rfl,rfl,rfl⟩:=Dh hr;obtain⟨ok',g1,g2⟩:=h.call H.h3 H.h4 H.h5 hb hr;exact⟨A,c,ok',rfl,g1,Lx g2,hb⟩
end
end
end Rv
namespace Rv
open Go Go.RowKit Go.Proofs Go.Lib Go.Shelf
noncomputable section
set_option maxRecDepth 1000000
attribute [local go_sem] Oper.semAt_some
section
variable{LW:Y->Prop}{R:G->Prop}{w W0:Y}{bo l bl bp:G}{ws ss:oOT}{ys:oOY}{ps:oOT}
 {bs:oOT->S->M (S×zah×zab)} {nm:S->M (Str×zab)} {line:oOT->oOT->oOY->S->M dST}
def JE(R:G->Prop)(w W0:Y)(bo l:G)(Rdy:Y->Prop)(ls:Z dTL.D)(W:Y):Prop:=(∃v cells ok,JJ R w W0 bo l ls v cells ok W)/\Rdy W
def YOk(R:G->Prop)(w W0:Y)(bo l:G)(Rdy:Y->Prop):Prop:=∀(ls:Z dTL.D) (x:dTL.D) (vs:Z E) v cells ok W,JJ R w W0 bo l ls v cells ok W->Rd W ok dTL x vs->Rdy W->ls.length<1000000 ->
 YieldAt Fence.wide 4 GP l #[.agg vs.toArray] W λe W'=>e=.returned (.bool true)/\JE R w W0 bo l Rdy (ls++[x]) W'
theorem Gd{f:S->M (S×zah×zab)}{g:S->M (Str×zab)}{h:S->M dST}{n k:G}{i:S}{acc mid:Z L.LnT}(H:L.linI f g h ys n (k+1) i acc=O mid) :
  ∃y b p q,f (4*i)=O (y,b,())/\((b=false/\p=[])\/(b=true/\∃s,g (4*i)=O (s,())/\p=[(s,L.st0 0 [],())]))/\((¬i<n/\q=[])\/(i<n/\∃s,h i=O s/\q=[([],s,())]))/\L.linI f g h ys n k (i+1) (acc++L.linS (4*i) ys++p++q)=O mid:=by
 rw[L.linI] at H;split at H;·cases H
 ·rename_i y b u hf;split at H
  ·cases H
  ·rename_i p hp;split at H
   ·cases H
   ·rename_i q hq;refine⟨y,b,p,q,hf,?_,?_,H⟩
    ·cases b with
     |false=>rw[zaj (by decide)] at hp;exact .inl ⟨rfl,(NF hp).symm⟩
     |true=>
      rw[zai rfl] at hp;split at hp;·rename_i s u hg;exact .inr ⟨rfl,s,hg,(NF hp).symm⟩
      ·cases hp
    ·split at hq
     ·rename_i hi;split at hq
      ·rename_i s hg;exact .inr ⟨hi,s,hg,(NF hq).symm⟩
      ·cases hq
     ·rename_i hi;exact .inl ⟨hi,(NF hq).symm⟩
set_option maxHeartbeats 2000000 in
theorem MB{A1 A2 A3 A5:M Addr}{c1 c2 c3 c5:G}(H:lh LW R w W0 bo l bl bp ws ss ys ps (.slice A1 ws.length c1) (.slice A2 ss.length c2) (.slice A3 ys.length c3) (.slice A5 ps.length c5))
  (hBs:Sat GP LW 74 (ah ⟨[(0,.c (.sl oTI)),(1,Si)],[]⟩ ⟨[(0,Si),(1,SB)],[]⟩ bs))
  (hNm:Sat GP LW 75 (ah ⟨[(0,Si)],[]⟩ ⟨[(0,Ss)],[]⟩ nm))
  (hLine:Sat GP LW 16 (ah ⟨[(0,.agg oC),(1,Si)],[]⟩ ⟨[(0,.agg dC)],[]⟩ line))
  {Rdy:Y->Prop} (hRdy:∀W W',Rdy W->Below W.heap.size W W'->Rdy W') (hY:YOk R w W0 bo l Rdy)
  (hws:ws.length<=100000) (hys:ys.length<=100000) {mid:Z dTL.D} (hm:L.linI (bs ps) nm (line ws ss ys) ys ws.length (ws.length+1) 0 []=O mid) (hlen:(mid++L.linX ys).length<=1000000) {W:Y} (hJ:JE R w W0 bo l Rdy [] W) :
  CallsIn Fence.wide 5 GP 73 #[.func (.yield l) #[] #[],.pointer (O ⟨bl,0,U⟩),.pointer (O ⟨bp,0,U⟩)] W λe W'=>(∃u,e=.returned u)/\JE R w W0 bo l Rdy (mid++L.linX ys) W':=by
 obtain⟨⟨v,cells,ok,hJJ⟩,hr⟩:=hJ;obtain⟨k1,k2,k3,k4⟩:=H.cell hJJ;have hR0:Aside (Rdy W/\JJ R w W0 bo l [] v cells ok W):=⟨hr,hJJ⟩
 clear hr hJJ;refine callsIn_of_wp Tryz.func73 rfl trivial ?_;simp only[Tryz.ntmps73,List.size_toArray,N7,Ol,Nat.reduceAdd,Nat.reduceSub,Array.replicate_succ,Array.replicate_zero,List.push_toArray,List.append_toArray,Oc,List.cons_append]
 gi_wp2
 gi_loopw [15] (λp wr=>∃(i:G) (ls:Z dTL.D),p=.int .i64 i/\i<=ws.length+1/\JE R w W0 bo l Rdy ls wr/\Aside (L.linI (bs ps) nm (line ws ss ys) ys ws.length (ws.length+1-i) (i:S) ls=O mid)) (λp wr=>ws.length+1-(Lib.intOf p).toNat)
 case atStart=>exact⟨0,[],rfl,Nat.zero_le _,⟨⟨v,cells,ok,hR0.out.2⟩,hR0.out.1⟩,hm⟩
 case round=>
  obtain⟨i,ls,rfl,hi1,⟨⟨v,cells,ok,hJ⟩,hr⟩,hA⟩:=hrel;obtain⟨k1,k2,k3,k4⟩:=H.cell hJ;by_cases hi:i<ws.length+1
  ·have hw1:zac.wrap (4*(i:S))=4*(i:S):=IntWalk.i64_in _ (by omega);have A6:Aside (Rdy wr/\JJ R w W0 bo l ls v cells ok wr):=⟨hr,hJ⟩
   obtain⟨kk,hkk⟩:∃kk,ws.length+1-i=kk+1:=⟨ws.length-i,by omega⟩
   obtain⟨y0,b0,p0,q0,hf0,hp0,hq0,hl0⟩:=Gd (by rw[<- hkk];exact hA.out);have hlb:(ls++L.linS (4*(i:S)) ys++p0++q0).length<=1000000:=by
    have h1:=zW hl0;have h2:=hlen;simp only[NP] at h1 h2⊢;omega
   have hlb2:ls.length+(L.linS (4*(i:S)) ys).length+p0.length+q0.length<=1000000:=by
    simp only[NP] at hlb;omega
   have B5:Aside (bs ps (4*(i:S))=O (y0,b0,())/\((b0=false/\p0=[])\/(b0=true/\∃s,nm (4*(i:S))=O (s,())/\p0=[(s,L.st0 0 [],())]))/\((¬i<ws.length/\q0=[])\/(i<ws.length/\∃s,line ws ss ys (i:S)=O s/\q0=[([],s,())]))/\L.linI (bs ps) nm (line ws ss ys) ys ws.length (ws.length-i) ((i:S)+1) (ls++L.linS (4*(i:S)) ys++p0++q0)=O mid):=⟨hf0,hp0,by simpa using hq0,by rw[show ws.length-i=kk by omega];exact hl0⟩
   clear hr hJ hf0 hp0 hq0 hl0 hlb hkk hA;have hdt:decide ((i:S)<(ws.length:S)+1)=true:=decide_eq_true (by omega)
   gi_wp2
   gi_loopw [21] (λp w2=>∃(j:G) (ls2:Z dTL.D),p=.int .i64 j/\j<=ys.length/\JE R w W0 bo l Rdy ls2 w2/\Aside (ls2++L.linS (4*(i:S)) (ys.drop j)=ls++L.linS (4*(i:S)) ys)) (λp w2=>ys.length-(Lib.intOf p).toNat)
   case atStart=>exact⟨0,ls,rfl,Nat.zero_le _,⟨⟨v,cells,ok,A6.out.2⟩,A6.out.1⟩,rfl⟩
   case round=>
    obtain⟨j,ls2,rfl,hj1,⟨⟨v2,cells2,ok2,hJ⟩,hr⟩,hA2⟩:=hrel;by_cases hj:j<ys.length
    ·obtain⟨sy,hsy⟩:∃sy,ys[j]?=O sy:=⟨_,NQ hj⟩
     obtain⟨g3,o3,rfl,q1,q2⟩:=H.sym hJ hsy rfl;have A7:Aside (Rdy wr/\JJ R w W0 bo l ls2 v2 cells2 ok2 wr):=⟨hr,hJ⟩
     have A8:Aside (lh LW R w W0 bo l bl bp ws ss ys ps (.slice A1 ws.length c1) (.slice A2 ss.length c2) (.slice (O ⟨g3,o3,U⟩) ys.length c3) (.slice A5 ps.length c5)):=H;have A9:Aside (ys[j]?=O sy):=hsy;clear hr hJ hsy H;have hwj:zac.wrap ((j:S)+1)=((j+1:G):S):=IntWalk.i64_in _ (by omega);by_cases hs:sy.2.1=4*(i:S)
     ·have hls:ls2++[((sy.1,L.st0 0 [],()):L.LnT)]++L.linS (4*(i:S)) (ys.drop (j+1))=ls++L.linS (4*(i:S)) ys:=by
       rw[<- hA2.out,drop_at A9.out,L.linS,zai hs,NW];rfl
      have hcnt:ls2.length<1000000:=by
       have e1:=zaa List.length hls;simp only[NP,List.length_singleton] at e1;omega
      have hb2:Below wr.heap.size wr (wr.alloc (.cells #[.string (mkS sy.1),.int .i64 (4*(i:S))] 70)):=(Below.refl _ wr).alloc (NL _) _;obtain⟨fn,tmps,assign,body,hy,hRd⟩:=hY ls2 (sy.1,L.st0 0 [],()) _ v2 cells2 ok2 _ (A7.out.2.below A8.out.h3 A8.out.h4 A8.out.h5 hb2) (Ar sy.1 0 []) (hRdy _ _ A7.out.1 hb2) hcnt;have hls:Aside (ls2++[((sy.1,L.st0 0 [],()):L.LnT)]++L.linS (4*(i:S)) (ys.drop (j+1))=ls++L.linS (4*(i:S)) ys):=hls;have hy:(Instr.yield l #[.agg #[.string (mkS sy.1),.int .i64 0,.int .i64 0,.int .i64 0,.int .i64 0,.int .i64 0,.bool false,.slice U 0 0,.string ⟨#[]⟩]]).run GP (wr.alloc (.cells #[.string (mkS sy.1),.int .i64 (4*(i:S))] 70))=_:=hy;rw[hs] at q2;clear hb2 hs
      gi_wp2
      refine hRd.mono ?_;rintro e W3 ⟨rfl,hE⟩
      gi_wp2
      refine⟨⟨j+1,_,rfl,by omega,hE,hls⟩,?_⟩;show ys.length-((j:S)+1).toNat<ys.length-(j:S).toNat
      omega
     ·have hs':(sy.2.1 == 4*(i:S))=false:=by simpa using hs
      have hls:Aside (ls2++L.linS (4*(i:S)) (ys.drop (j+1))=ls++L.linS (4*(i:S)) ys):=by
       have:=hA2.out;rw[drop_at A9.out,L.linS,zaj hs] at this;exact this
      have hE:Aside (JE R w W0 bo l Rdy ls2 (wr.alloc (.cells #[.string (mkS sy.1),.int .i64 sy.2.1] 70))):=by
       have hb2:Below wr.heap.size wr (wr.alloc (.cells #[.string (mkS sy.1),.int .i64 sy.2.1] 70)):=(Below.refl _ wr).alloc (NL _) _;exact⟨⟨v2,cells2,ok2,A7.out.2.below A8.out.h3 A8.out.h4 A8.out.h5 hb2⟩,hRdy _ _ A7.out.1 hb2⟩
      gi_wp2
      refine⟨λ_ h=>(by cases h),?_⟩
      gi_wp2
      refine⟨⟨j+1,_,rfl,by omega,hE,hls⟩,?_⟩;show ys.length-((j:S)+1).toNat<ys.length-(j:S).toNat
      omega
    ·have hls3:ls2=ls++L.linS (4*(i:S)) ys:=by
      have:=hA2.out;rw[List.drop_eq_nil_of_le (by omega),L.linS,N9] at this;exact this
     subst hls3;obtain⟨k1,k2,k3,k4⟩:=H.cell hJ;obtain⟨hf,hpp,hqq,hll⟩:=B5.out;have hll:Aside (L.linI (bs ps) nm (line ws ss ys) ys ws.length (ws.length+1-(i+1)) ((i+1:G):S) (ls++L.linS (4*(i:S)) ys++p0++q0)=O mid):=by
      rw[Nat.add_sub_add_right];exact hll
     have cB:=H.bs hJ hBs hf;clear hf B5 A6 hA2;have hwi:zac.wrap ((i:S)+1)=((i+1:G):S):=IntWalk.i64_in _ (by omega);rcases hpp with⟨rfl,rfl⟩|⟨rfl,s0,hnm,rfl⟩
     ·gi_wp2_with (refine⟨trivial,?_⟩;gi_at_call 74;refine(callsIn_wide.2 cB).mono ?_;rintro e w3 ⟨rfl,hb3⟩;have hJ3:=hJ.below H.h3 H.h4 H.h5 hb3;have hr3:=hRdy _ _ hr hb3;obtain⟨k1',k2',k3',k4'⟩:=H.cell hJ3)
      refine⟨trivial,?_⟩
      gi_wp2
      refine⟨λ_ h=>(by cases h),?_⟩;rcases hqq with⟨hni,rfl⟩|⟨hli,st,hst,rfl⟩
      ·have hE5:JE R w W0 bo l Rdy (ls++L.linS (4*(i:S)) ys++[]++[]) w3:=⟨⟨_,_,_,by simpa only[N9] using hJ3⟩,hr3⟩
       have hE5:Aside (JE R w W0 bo l Rdy (ls++L.linS (4*(i:S)) ys++[]++[]) w3):=hE5
       gi_wp2
       refine⟨trivial,?_⟩
       gi_wp2
       refine⟨⟨i+1,_,rfl,by omega,hE5,hll⟩,?_⟩;show ws.length+1-((i:S)+1).toNat<ws.length+1-(i:S).toNat
       omega
      ·have cL:=H.line hJ3 hLine hst
       gi_wp2_with (refine⟨trivial,?_⟩;gi_at_call 16;refine(callsIn_wide.2 cL).mono ?_;rintro e w6 ⟨A,c,ok6,rfl,hJ6,hx6,hb6⟩;obtain⟨fn,tmps,assign,body,hy,hRd⟩:=hY _ _ _ _ _ _ _ hJ6 hx6 (hRdy _ _ hr3 hb6) (by simp only[NP,List.length_singleton,N7,Ol] at hlb2⊢;omega);have hy:(Instr.yield l #[.agg #[.string ⟨#[]⟩,.int .i64 st.1,.int .i64 st.2.1,.int .i64 st.2.2.1,.int .i64 st.2.2.2.1,.int .i64 st.2.2.2.2.1,.bool st.2.2.2.2.2.1,.slice A st.2.2.2.2.2.2.1.length c,.string (mkS st.2.2.2.2.2.2.2.1)]]).run GP w6=_:=hy)
       refine hRd.mono ?_;rintro e W5 ⟨rfl,hE5⟩;have hE5:JE R w W0 bo l Rdy (ls++L.linS (4*(i:S)) ys++[]++[([],st,())]) W5:=by simpa only[N9] using hE5
       have hE5:Aside (JE R w W0 bo l Rdy (ls++L.linS (4*(i:S)) ys++[]++[([],st,())]) W5):=hE5
       gi_wp2
       refine⟨⟨i+1,_,rfl,by omega,hE5,hll⟩,?_⟩;show ws.length+1-((i:S)+1).toNat<ws.length+1-(i:S).toNat
       omega
     ·gi_wp2_with (first|(refine⟨trivial,?_⟩;gi_at_call 74;refine(callsIn_wide.2 cB).mono ?_;rintro e w3 ⟨rfl,hb3⟩;have hJ3:=hJ.below H.h3 H.h4 H.h5 hb3;have hr3:=hRdy _ _ hr hb3;obtain⟨k1',k2',k3',k4'⟩:=H.cell hJ3;have cN:=H.nm hJ3 hNm hnm)|(refine⟨trivial,?_⟩;gi_at_call 75;refine(callsIn_wide.2 cN).mono ?_;rintro e w4 ⟨rfl,hb4⟩;obtain⟨fn,tmps,assign,body,hy,hRd⟩:=hY _ _ _ _ _ _ _ (hJ3.below H.h3 H.h4 H.h5 hb4) (Ar s0 0 []) (hRdy _ _ hr3 hb4) (by simp only[NP,List.length_singleton,N7,Ol] at hlb2⊢;omega);have hy:(Instr.yield l #[.agg #[.string (mkS s0),.int .i64 0,.int .i64 0,.int .i64 0,.int .i64 0,.int .i64 0,.bool false,.slice U 0 0,.string ⟨#[]⟩]]).run GP w4=_:=hy))
      refine hRd.mono ?_;rintro e W7 ⟨rfl,⟨⟨v7,cells7,ok7,hJ7⟩,hr7⟩⟩;clear hy hRd;obtain⟨k1',k2',k3',k4'⟩:=H.cell hJ7;rcases hqq with⟨hni,rfl⟩|⟨hli,st,hst,rfl⟩
      ·have hE5:JE R w W0 bo l Rdy (ls++L.linS (4*(i:S)) ys++[(s0,L.st0 0 [],())]++[]) W7:=⟨⟨_,_,_,by simpa only[N9] using hJ7⟩,hr7⟩
       have hE5:Aside (JE R w W0 bo l Rdy (ls++L.linS (4*(i:S)) ys++[(s0,L.st0 0 [],())]++[]) W7):=hE5
       gi_wp2
       refine⟨trivial,?_⟩
       gi_wp2
       refine⟨λ_ h=>(by cases h),?_⟩
       gi_wp2
       refine⟨⟨i+1,_,rfl,by omega,hE5,hll⟩,?_⟩;show ws.length+1-((i:S)+1).toNat<ws.length+1-(i:S).toNat
       omega
      ·have cL:=H.line hJ7 hLine hst
       gi_wp2_with (refine⟨trivial,?_⟩;gi_at_call 16;refine(callsIn_wide.2 cL).mono ?_;rintro e w6 ⟨A,c,ok6,rfl,hJ6,hx6,hb6⟩;obtain⟨fn,tmps,assign,body,hy,hRd⟩:=hY _ _ _ _ _ _ _ hJ6 hx6 (hRdy _ _ hr7 hb6) (by simp only[NP,List.length_singleton,N7,Ol] at hlb2⊢;omega);have hy:(Instr.yield l #[.agg #[.string ⟨#[]⟩,.int .i64 st.1,.int .i64 st.2.1,.int .i64 st.2.2.1,.int .i64 st.2.2.2.1,.int .i64 st.2.2.2.2.1,.bool st.2.2.2.2.2.1,.slice A st.2.2.2.2.2.2.1.length c,.string (mkS st.2.2.2.2.2.2.2.1)]]).run GP w6=_:=hy)
       refine hRd.mono ?_;rintro e W5 ⟨rfl,hE5⟩;have hE5:JE R w W0 bo l Rdy (ls++L.linS (4*(i:S)) ys++[(s0,L.st0 0 [],())]++[([],st,())]) W5:=by simpa only[N9] using hE5
       have hE5:Aside (JE R w W0 bo l Rdy (ls++L.linS (4*(i:S)) ys++[(s0,L.st0 0 [],())]++[([],st,())]) W5):=hE5
       gi_wp2
       refine⟨⟨i+1,_,rfl,by omega,hE5,hll⟩,?_⟩;show ws.length+1-((i:S)+1).toNat<ws.length+1-(i:S).toNat
       omega
  ·have hmid:ls=mid:=by
    have:=hA.out;rw[show ws.length+1-i=0 by omega,L.linI] at this;exact NF this
   subst hmid;have B6:Aside (JE R w W0 bo l Rdy ls wr):=⟨⟨v,cells,ok,hJ⟩,hr⟩
   clear hJ hr hA hm
   gi_wp2
   gi_loopw [74] (λp w2=>∃(j:G) (ls2:Z dTL.D),p=.int .i64 j/\j<=ys.length/\JE R w W0 bo l Rdy ls2 w2/\Aside (ls2++L.linX (ys.drop j)=ls++L.linX ys)) (λp w2=>ys.length-(Lib.intOf p).toNat)
   case atStart=>exact⟨0,ls,rfl,Nat.zero_le _,B6.out,rfl⟩
   case round=>
    obtain⟨j,ls2,rfl,hj1,⟨⟨v2,cells2,ok2,hJ⟩,hr⟩,hA2⟩:=hrel;by_cases hj:j<ys.length
    ·obtain⟨sy,hsy⟩:∃sy,ys[j]?=O sy:=⟨_,NQ hj⟩
     obtain⟨g3,o3,rfl,q1,q2⟩:=H.sym hJ hsy rfl;have hwj:zac.wrap ((j:S)+1)=((j+1:G):S):=IntWalk.i64_in _ (by omega);have hls:ls2++[((([]:Str),L.st0 10 sy.1,()):L.LnT)]++L.linX (ys.drop (j+1))=ls++L.linX ys:=by
      rw[<- hA2.out,drop_at hsy,L.linX,NW];rfl
     have hcnt:ls2.length<1000000:=by
      have e1:=zaa List.length hls;have e2:=hlen;simp only[NP,List.length_singleton] at e1 e2;omega
     have hb2:Below wr.heap.size wr (wr.alloc (.cells #[.string (mkS sy.1),.int .i64 sy.2.1] 70)):=(Below.refl _ wr).alloc (NL _) _;obtain⟨fn,tmps,assign,body,hy,hRd⟩:=hY ls2 (([]:Str),L.st0 10 sy.1,()) _ v2 cells2 ok2 _ (hJ.below H.h3 H.h4 H.h5 hb2) (Ar [] 10 sy.1) (hRdy _ _ hr hb2) hcnt;have hls:Aside (ls2++[((([]:Str),L.st0 10 sy.1,()):L.LnT)]++L.linX (ys.drop (j+1))=ls++L.linX ys):=hls;have hy:(Instr.yield l #[.agg #[.string ⟨#[]⟩,.int .i64 10,.int .i64 0,.int .i64 0,.int .i64 0,.int .i64 0,.bool false,.slice U 0 0,.string (mkS sy.1)]]).run GP (wr.alloc (.cells #[.string (mkS sy.1),.int .i64 sy.2.1] 70))=_:=hy;clear hb2 hJ hr hsy H hA2
     gi_wp2
     refine hRd.mono ?_;rintro e W3 ⟨rfl,hE⟩;have hE:Aside (JE R w W0 bo l Rdy (ls2++[((([]:Str),L.st0 10 sy.1,()):L.LnT)]) W3):=hE
     gi_wp2
     refine⟨⟨j+1,_,rfl,by omega,hE,hls⟩,?_⟩;show ys.length-((j:S)+1).toNat<ys.length-(j:S).toNat
     omega
    ·have hls3:ls2=ls++L.linX ys:=by
      have:=hA2.out;rw[List.drop_eq_nil_of_le (by omega),L.linX,N9] at this;exact this
     subst hls3;have hE:Aside (JE R w W0 bo l Rdy (ls++L.linX ys) wr):=⟨⟨v2,cells2,ok2,hJ⟩,hr⟩
     clear hJ hr hA2
     gi_wp2
     go_end0
     exact⟨⟨_,rfl⟩,hE⟩
end
end
end Rv
namespace Rv
open Go Go.RowKit Go.Proofs Go.Lib Go.Shelf
noncomputable section
theorem MN{F:Fence}{n:G}{P:Program}{g:Operand}{ps:Array Tmp}{assign body:Code}{Q:Exit->Act->Y->Prop}{a:Act}{w:Y}(hro:F.round=U)(hdp:F.depth=U){gf:G}{lb:Array E}(hg:a.eval g=.func (.func gf) #[] lb)(hFg:F.fn gf)
  (eg:∀args w,(callFunc gf args).run P w=.ok (.enter gf args) w) (hps:ps.size=1) {X:Type} (J:Z X->Y->Prop) (JX:Z X->X->Z E->Y->Prop) (N:G) (fin:Z X)
  (hJ:∀ls W o,J ls W->J ls (W.putObj (w.heap.size+1) o)) (hJX:∀ls x vs W o,JX ls x vs W->JX ls x vs (W.putObj (w.heap.size+1) o))
  (h0:∀o,J [] ((w.alloc (.deferred (O []))).alloc o))
  (hseq:∀Rdy:Y->Prop,(∀W W',Rdy W->Below W.heap.size W W'->Rdy W')->(∀ls x vs W,JX ls x vs W->Rdy W->ls.length<N->YieldAt F (n-1-1) P (w.heap.size+1) #[.agg vs.toArray] W λe W'=>e=.returned (.bool true)/\J (ls++[x]) W'/\Rdy W') ->
   ∀W,J [] W->Rdy W->CallsIn F (n-1) P gf (#[.func (.yield (w.heap.size+1)) #[] #[]]++lb) W λe W'=>(∃u,e=.returned u)/\J fin W'/\Rdy W')
  (hround:∀ls x vs W,JX ls x vs W->ls.length<N->w.heap.size+1<W.heap.size ->
   assign.wpIn (F.inRound (w.heap.size+1)) (n-1-1) P (Exit.then (λa₁ w₁=>(w₁.heap[w.heap.size+1]?=W.heap[w.heap.size+1]?/\w₁.heap[w.heap.size]?=W.heap[w.heap.size]?)/\∀o,body.wpIn (F.inRound (w.heap.size+1)) (n-1-1) P (λe _ W'=>e=.normal/\J (ls++[x]) W'/\W'.heap[w.heap.size+1]?=(w₁.putObj (w.heap.size+1) o).heap[w.heap.size+1]?/\W'.heap[w.heap.size]?=(w₁.putObj (w.heap.size+1) o).heap[w.heap.size]?) a₁ (w₁.putObj (w.heap.size+1) o)) (λ_ _ _=>False))
    { tmps:=(ps.zip #[.agg vs.toArray]).foldl (λt (p,v)=>t.setIfInBounds p v) a.tmps,defers:=[] } W)
  (hdone:∀W,J fin W->W.heap[w.heap.size]?=O (.deferred (O []))->Q .normal { a with defers:={ target:=.collected w.heap.size,args:=#[] }::a.defers } W) :
  (Code.rangeFunc g ps assign body).wpIn F n P Q a w:=by
 refine wpIn_rangeFunc ?_;intro fn hfn;rw[hro];obtain⟨rec,hrec⟩:∃rec:LoopState->M Code->Loop,rec=λst pe=>{ state:=st,pending:=pe,fn,tmps:=a.tmps,params:=ps,assign,body,defers:=w.heap.size }:=⟨_,rfl⟩
 obtain⟨W1,hW1⟩:∃W1,(w.alloc (.deferred (O []))).alloc (.loop (rec .ready U))=W1:=⟨_,rfl⟩
 have hL1:W1.heap[w.heap.size+1]?=O (.loop (rec .ready U)):=by
  rw[<- hW1];have:=World.alloc_heap_new (w.alloc (.deferred (O []))) (.loop (rec .ready U));rwa [World.size_alloc] at this
 have hK1:W1.heap[w.heap.size]?=O (.deferred (O [])):=by
  rw[<- hW1];exact(Below.heap_alloc _ _ _ (by simp)).trans (World.alloc_heap_new w _)
 have hJ1:J [] W1:=by rw[<- hW1];exact h0 _
 refine⟨w.heap.size+1,[{ target:=.collected w.heap.size,args:=#[] }],W1,{ target:=.fn (.func gf) lb,args:=#[.func (.yield (w.heap.size+1)) #[] #[]] },W1,gf,
  #[.func (.yield (w.heap.size+1)) #[] #[]]++lb,W1,?_,?_,?_,?_,λh=>(by rw[hdp] at h;cases h),?_⟩
 ·rw[<- hW1,hrec];exact run_enterLoop_outer _ _ _ _ _
 ·simp only[resolve,hg];simp[go_sem]
 ·intro f' hf';simp[Target.leads] at hf';subst hf';exact hFg
 ·simp[invoke,go_sem,eg]
 ·refine(hseq (λW=>W.heap[w.heap.size+1]?=O (.loop (rec .ready U))/\W.heap[w.heap.size]?=O (.deferred (O [])))
   (λW W' h hb=>⟨(hb.block _ (Array.getElem?_eq_some_iff.1 h.1).1).trans h.1,(hb.block _ (Array.getElem?_eq_some_iff.1 h.2).1).trans h.2⟩) ?_ W1 hJ1 ⟨hL1,hK1⟩).mono ?_
  ·rintro ls x vs W hi ⟨hl,hk⟩ hlen;have hlt:w.heap.size+1<W.heap.size:=(Array.getElem?_eq_some_iff.1 hl).1;have hy:=run_yield (P:=P) (args:=#[.agg vs.toArray]) hl (by rw[hrec];exact hps.symm);rw[hrec] at hy;refine⟨fn,_,assign,body,hy,roundIn_of_wpIn hfn (wpIn_mono (hround ls x vs W hi hlen hlt) ?_)⟩;rintro e a1 w1 hq;cases e with
   |normal=>
    obtain⟨⟨hl1,hk1⟩,hbody⟩:=hq;have hl1':=hl1.trans hl;have hlt1:w.heap.size+1<w1.heap.size:=(Array.getElem?_eq_some_iff.1 hl1').1;refine⟨_,run_beginRound hl1' (by rw[hrec]),?_⟩;refine wpIn_mono (hbody _) ?_;rintro e a3 W3 ⟨rfl,hi3,hl3,hk3⟩;have hl2:W3.heap[w.heap.size+1]?=O (.loop { rec .ready U with state:=.busy }):=hl3.trans (World.putObj_heap_same hlt1);have hk2:W3.heap[w.heap.size]?=O (.deferred (O [])):=hk3.trans ((World.putObj_heap_other (by omega)).trans (hk1.trans hk));have hend:=run_endRound (P:=P) U hl2;refine⟨_,_,hend,rfl,hJ _ _ _ hi3,?_,(World.putObj_heap_other (by omega)).trans hk2⟩;rw[World.putObj_heap_same (Array.getElem?_eq_some_iff.1 hl2).1,hrec];rfl
   |exit id=>exact hq.elim
   |goto t=>exact hq.elim
   |ret=>exact hq.elim
   |panic ch=>exact hq.elim
   |outgrown=>exact hq.elim
  ·rintro e W2 ⟨⟨v,rfl⟩,hi,hl,hk⟩;exact⟨U,_,by have:=run_endLoop (P:=P) hl (by rw[hrec];simp);rw[hrec] at this;exact this,hdone _ (hJ _ _ _ hi) ((World.putObj_heap_other (by omega)).trans hk)⟩
theorem Bv{F:Fence}{n:G}{P:Program}{w:Y}{ops:Array Oper}{rest:Z Oper}{o:Oper}{a:Act}{Q:Exit->Act->Y->Prop}(hg:o.guard=U)(s x:Operand)(t:zaf)(hop:o.op=Op.call { callee:=Callee.builtin Builtin.append,args:=#[s,x],argTypes:=#[t,t] })
  (vs vx:E) (hs:a.eval s=vs) (hx:a.eval x=vx) (v':E) (w':Y) (hrun:(Builtin.append_ #[t,t] o.type #[vs,vx]).run P w=.ok v' w') (hK:wpListIn F n P ops Q rest (a.put o.dst v') w'):wpListIn F n P ops Q (o::rest) a w:=by
 refine wpListIn_plain hg λK hK'=>?_
 unfold Oper.wpIn;refine⟨?_,?_⟩;·simp[Oper.about,hop,resolve,Target.leads,NZ]
 ·rw[Oper.semAt_plain F _ _ (by rw[hop];intro c hc';cases hc')];simp[execOp,hop,resolve,invoke,builtin,hs,hx,hrun,Result.andThen];exact hK' _ _ hK
end
end Rv
namespace Rv
open Go Go.RowKit Go.Proofs Go.Lib Go.Shelf
noncomputable section
set_option maxRecDepth 1000000
attribute [local go_sem] Oper.semAt_some
section
variable{P:Program}{L:Y->Prop}{w:Y}
def zb(w:Y)(ps:Z S)(v:E):Prop:=(v=.slice U 0 0/\ps=[])\/∃g c cur,v=.slice (O ⟨g,0,U⟩) ps.length c/\w.heap[g]?=O (.cells cur 3 (0,0))/\ps.length<=c/\bi w (λ_=>True) (.int .i64) ps cur.toList
theorem zb.sl{w w':Y}{ps:Z S}{v:E}(h:zb w ps v)(hs:w.heap.size<=w'.heap.size)(hb:∀g,g<w.heap.size->w'.heap[g]?=w.heap[g]?):eD w' oTI ps v:=by
 rcases h with⟨rfl,rfl⟩|⟨g,c,cur,rfl,hg,hc,hr⟩;·exact⟨U,0,rfl,NL _,λi x h=>by cases h⟩
 ·have hlt:=(Array.getElem?_eq_some_iff.1 hg).1;have hg':=(hb g hlt).trans hg;refine⟨_,c,rfl,hc,λi x hi=>⟨g,0,[.int .i64 x],rfl,by omega,rfl,λj u hj=>?_⟩⟩
  match j,hj with
  |0,hj=>
   obtain rfl:=NF hj;have h1:(cur.toList.drop (i*1)).take 1=[.int .i64 x]:=hr i x hi;rw[Nat.mul_one] at h1;have h2:cur.toList[i]?=O (.int .i64 x):=by
    have:=zaa (λl=>l[0]?) h1;simpa[Oi,Ov] using this
   show w'.cell? ⟨g,0+i*1+0,U⟩=_;rw[show 0+i*1+0=i by omega,cell_of_row w' g i cur 3 (0,0) hg'];simpa using h2
  |j+1,hj=>cases hj
theorem zo{f:FuncId}{g:oOT->oOT->oOY->M (Z S×S×zab)}(hs:Sat P L f (ah ⟨[(0,.agg oC)],[]⟩ ⟨[(0,.c (.row 3 (.int .i64))),(1,Si)],[]⟩ g)){ws ss:oOT}{ys:oOY}{ps:Z S}{y:S}(hg:g ws ss ys=O (ps,y,())){v:E}(hv:bX w ws ss ys v)(hL:L w)(hst:eu L w.heap.size) :
  Calls P f #[v] w λe w'=>∃A c,e=.returned (.tuple #[.slice A ps.length c,.int .i64 y])/\zb w' ps (.slice A ps.length c)/\Below w.heap.size w w':=by
 have R:Rel (top w L) (λ_=>U) (top w L).w0 ((⟨[(0,.agg oC)],[]⟩:Shape).mk' nmJ 1 (ws,ss,ys,())) #[v]:=by
  refine oh rfl rfl (λi x hi=>?_) hL hst
  match i,hi with
  |0,hi=>obtain rfl:=NF hi;exact hv.rep
  |i+1,hi=>cases hi
 refine(hs (ws,ss,ys,()) (ps,y,()) hg (top w L) (λ_=>U) #[v] rfl rfl R).mono λe w' ⟨γ',rs,he,R'⟩=>?_
 have h1:rs.getD 1 undef=.int .i64 y:=R'.slot 1 (.v (.c (.int .i64 y))) rfl;have hsz:rs.size=2:=R'.size;have h0:=R'.slot 0 _ rfl;obtain⟨h0a,h0b⟩:=h0;obtain⟨en,hen,_,h0c⟩:=h0b;have hen':O (⟨0,0,.row 3 (.int .i64) ps⟩:En)=O en:=hen;obtain rfl:=NF hen';have ho:eX (γ' 15) ps.length (rs.getD 0 undef):=h0c rfl ps.length rfl;have hb:(γ' 15=U/\ps=[])\/∃g c cur,γ' 15=O (g,c)/\w'.heap[g]?=O (.cells cur 3 (0,0))/\ps.length<=c/\c<=maxLen/\cur.size=c*1/\0<1/\bi w' _ (.int .i64) ps cur.toList:=R'.inv.box 15 _ hen;have hrs:rs=#[rs.getD 0 undef,.int .i64 y]:=by
  match rs,hsz,h1 with
  |⟨[u,v]⟩,_,h1=>simp at h1;rw[h1];rfl
 obtain⟨A,c,hA⟩:=q9 ho;rw[hA] at hrs ho;subst hrs;refine⟨A,c,he,?_,kF R'⟩;rcases hb with⟨hg0,rfl⟩|⟨g,c',cur,hg0,h2,h3,_,_,_,h4⟩;·rw[hg0] at ho;exact .inl ⟨ho.2,rfl⟩
 ·rw[hg0] at ho;have ho:Value.slice A ps.length c=.slice (O ⟨g,0,U⟩) ps.length c':=ho;cases ho;exact .inr ⟨g,_,cur,rfl,h2,h3,lN (NL _) (λ_ _ _=>⟨rfl,trivial⟩) h4⟩
end
theorem KJ:∃i z,GP.info? DEL=O i/\i.zero=O z/\z.cells.size=i.size/\i.size=9/\i.bytes=104:=by
 obtain⟨i,h1,h2,h3,h4⟩:=info_parts (show(GP.info? DEL).map (λi=>(i.zero,i.size,i.bytes))=O (O (.agg #[.string ⟨#[]⟩,.int .i64 0,.int .i64 0,.int .i64 0,.int .i64 0,.int .i64 0,.bool false,.slice U 0 0,.string ⟨#[]⟩]),9,104) by kernel_rfl);exact⟨i,_,h1,h2,by rw[h3];rfl,h3,h4⟩
set_option maxHeartbeats 1000000 in
theorem Es(w:Y)(A1 A2 A3 A5:M Addr)(n1 n2 n3 n5 c1 c2 c3 c5:G) :
  Calls GP 31 #[.agg #[.slice A1 n1 c1,.slice A2 n2 c2,.slice A3 n3 c3],.slice A5 n5 c5] w λe w'=>e=.returned (.func (.func 73) #[] #[.pointer (O ⟨w.heap.size,0,U⟩),.pointer (O ⟨w.heap.size+1,0,U⟩)]) /\
   w'=(w.alloc (.cells #[.slice A1 n1 c1,.slice A2 n2 c2,.slice A3 n3 c3] 26)).alloc (.cells #[.slice A5 n5 c5] 23):=by
 go_enter Tryz.func31,Tryz.ntmps31
 go_wp2
 go_ret
 exact⟨rfl,rfl⟩
theorem JJ.putL{R:G->Prop}{w W0 W:Y}{bo l:G}{ls:Z dTL.D}{v:E}{cells:Z E}{ok:G->Prop}(h3:w.heap.size<=l)(h4:l<W0.heap.size)(h5:bo≠l)(h:JJ R w W0 bo l ls v cells ok W)(o:Obj) :
  JJ R w W0 bo l ls v cells ok (W.putObj l o)/\∀{t:Ty}{x:t.D}{vs:Z E},Rd W ok t x vs->Rd (W.putObj l o) ok t x vs:=by
 have hb:∀g,g<W.heap.size->g≠l->(W.putObj l o).heap[g]?=W.heap[g]?:=λg _ hg=>World.putObj_heap_other hg
 refine⟨h.step h3 h4 h5 hb (h.bel.grown (grownBy_putObj' W l o) h.bel.size (λk e=>by cases e;exact h3)) (by rw[World.putObj_size];exact NL _),λhx=>hx.mono (by rw[World.putObj_size];exact NL _) λg hg hl=>⟨hb g hl λe=>?_,hg⟩⟩;rcases(h.okl g hg).2 with⟨_,h6⟩|⟨h6,_⟩<;>omega
theorem JJ.fin{R:G->Prop}{w W0 W:Y}{bo l:G}{ls:Z dTL.D}{v:E}{cells:Z E}{ok:G->Prop}(h:JJ R w W0 bo l ls v cells ok W){D:G}(h3:w.heap.size<=D)(h4:D<W0.heap.size)(o:Obj) :
  Below w.heap.size w (W.putObj D o)/\(W.putObj D o).ownsRow 0 DEL 9 v ls.length cells/\bi (W.putObj D o) ok dTL ls cells:=by
 refine⟨h.bel.grown (grownBy_putObj' W D o) h.bel.size (λk e=>by cases e;exact h3),?_,lN (by rw[World.putObj_size];exact NL _) (λg hg hl=>⟨World.putObj_heap_other λe=>?_,hg⟩) h.rep⟩
 ·rcases h.row with⟨hl,⟨rfl,h0⟩|⟨g,cap,cur,rfl,hb0,hg,r⟩⟩
  ·exact⟨hl,.inl ⟨rfl,h0⟩⟩
  ·have hW:=h.own g rfl;exact⟨hl,.inr ⟨g,cap,cur,rfl,hb0,(World.putObj_heap_other (by omega)).trans hg,r⟩⟩
 ·rcases(h.okl g hg).2 with⟨_,h6⟩|⟨h6,_⟩<;>omega
theorem Lv{W:Y}{ok:G->Prop}{x:dTL.D}{c0 c1 c2 c3 c4 c5 c6 c7 c8:E}(h:Rd W ok dTL x [c0,c1,c2,c3,c4,c5,c6,c7,c8]) :
  ∃A c,c0=.string (mkS x.1)/\c1=.int .i64 x.2.1.1/\c2=.int .i64 x.2.1.2.1/\c3=.int .i64 x.2.1.2.2.1/\c4=.int .i64 x.2.1.2.2.2.1/\c5=.int .i64 x.2.1.2.2.2.2.1/\c6=.bool x.2.1.2.2.2.2.2.1/\c7=.slice A x.2.1.2.2.2.2.2.2.1.length c/\c8=.string (mkS x.2.1.2.2.2.2.2.2.2.1):=by
 obtain⟨a0,r0,e0,h0,a1,r1,e1,h1,h2⟩:=h;have h0:a0=[.string (mkS x.1)]:=h0;have h2:r1=[]:=h2;subst h0 h2;rw[N9] at e1;subst e1;simp only[List.cons_append,Oc,List.cons.injEq] at e0;obtain⟨rfl,rfl⟩:=e0;obtain⟨A,c,g1,g2,g3,g4,g5,g6,g7,g8⟩:=Dh h1;exact⟨A,c,rfl,g1,g2,g3,g4,g5,g6,g7,g8⟩
theorem Na{α:Type}{l:Z α}(h:l.length=9):∃c0 c1 c2 c3 c4 c5 c6 c7 c8,l=[c0,c1,c2,c3,c4,c5,c6,c7,c8]:=by
 match l,h with
 |[c0,c1,c2,c3,c4,c5,c6,c7,c8],_=>exact⟨c0,c1,c2,c3,c4,c5,c6,c7,c8,rfl⟩
section
variable{LW:Y->Prop}{R:G->Prop}{w:Y}{ws ss:oOT}{ys:oOY}{ps:oOT}{may:oOT->oOT->oOY->M (S×zab)}{of:oOT->oOT->oOY->M (Z S×S×zab)}
 {bs:oOT->S->M (S×zah×zab)} {nm:S->M (Str×zab)} {line:oOT->oOT->oOY->S->M dST}
 (hMay:Sat GP LW 29 (ah ⟨[(0,.agg oC)],[]⟩ ⟨[(0,Si)],[]⟩ may))
 (hOf:Sat GP LW 30 (ah ⟨[(0,.agg oC)],[]⟩ ⟨[(0,.c (.row 3 (.int .i64))),(1,Si)],[]⟩ of))
 (hBs:Sat GP LW 74 (ah ⟨[(0,.c (.sl oTI)),(1,Si)],[]⟩ ⟨[(0,Si),(1,SB)],[]⟩ bs))
 (hNm:Sat GP LW 75 (ah ⟨[(0,Si)],[]⟩ ⟨[(0,Ss)],[]⟩ nm))
 (hLine:Sat GP LW 16 (ah ⟨[(0,.agg oC),(1,Si)],[]⟩ ⟨[(0,.agg dC)],[]⟩ line))
 (hL:LW w) (hst:eu LW w.heap.size)
set_option maxHeartbeats 2000000 in
include hMay hOf hBs hNm hLine hL hst in
theorem IG(he:may ws ss ys=O (0,()))(ho:of ws ss ys=O (ps,0,()))(hws:ws.length<=100000)(hys:ys.length<=100000){mid:Z dTL.D}(hm:L.linI (bs ps) nm (line ws ss ys) ys ws.length (ws.length+1) 0 []=O mid)(hlen:(mid++L.linX ys).length<=1000000)
  {A1 A2 A3:M Addr} {c1 c2 c3:G} (r1:Rd w R (.sl oTU) ws [.slice A1 ws.length c1]) (r2:Rd w R (.sl oTI) ss [.slice A2 ss.length c2]) (r3:Rd w R (.sl oTS) ys [.slice A3 ys.length c3]) (hv:bX w ws ss ys (.agg #[.slice A1 ws.length c1,.slice A2 ss.length c2,.slice A3 ys.length c3])) :
  CallsIn Fence.wide 6 GP 11 #[.agg #[.slice A1 ws.length c1,.slice A2 ss.length c2,.slice A3 ys.length c3]] w λe w'=>∃u cells ok,e=.returned (.tuple #[u,.int .i64 0])/\Below w.heap.size w w'/\w'.ownsRow 0 DEL 9 u (mid++L.linX ys).length cells/\(∀g,u.ownBlock=O g->w.heap.size<=g)/\bi w' ok dTL (mid++L.linX ys) cells /\
   (∀g,ok g->R g/\g<w.heap.size\/w.heap.size<=g/\u.ownBlock≠O g):=by
 have hbA:Below w.heap.size w (w.alloc (.cells #[.slice A1 ws.length c1,.slice A2 ss.length c2,.slice A3 ys.length c3] 26)):=(Below.refl _ w).alloc (NL _) _;have cM:=kr (w:=w.alloc (.cells #[.slice A1 ws.length c1,.slice A2 ss.length c2,.slice A3 ys.length c3] 26)) hMay he (hv.later hbA.size (λg hg=>hbA.block g hg)) (hst _ _ hL (λg hg=>hbA.block g hg)) (hst.later hbA.size);refine callsIn_of_wp_marks Tryz.func11 rfl trivial ?_;simp only[Tryz.ntmps11,List.size_toArray,N7,Ol,Nat.reduceAdd,Nat.reduceSub,Array.replicate_succ,Array.replicate_zero,List.push_toArray,List.append_toArray,Oc,List.cons_append];have hB0:Aside (Below w.heap.size w (w.alloc (.cells #[.slice A1 ws.length c1,.slice A2 ss.length c2,.slice A3 ys.length c3] 26))):=hbA;clear hbA
 gi_wp2_with (first|(refine⟨trivial,?_⟩;gi_at_call 29;refine(callsIn_wide.2 cM).mono ?_;rintro e w1 ⟨rfl,hb1⟩;obtain⟨hx0,hcb⟩:=wL (w:=w) hb1;obtain⟨hx1,hx2,hx3⟩:=hcb w1 (λg hg=>rfl);have hw1:Below w.heap.size w w1:=hB0.out.trans (hb1.mono (by simp));have cO:=zo hOf ho (hv.later hw1.size (λg hg=>hw1.block g hg)) (hst _ _ hL (λg hg=>hw1.block g hg)) (hst.later hw1.size))|(refine⟨trivial,?_⟩;gi_at_call 30;refine(callsIn_wide.2 cO).mono ?_;rintro e w2 ⟨A5,c5,rfl,hN,hb2⟩;obtain⟨hy1,hy2,hy3⟩:=hcb (w2.alloc (.cells #[.slice U 0 0] 29)) (λg hg=>(Below.heap_alloc _ _ g (Ot hg hb2.size)).trans (hb2.block g hg));have cL:=Es (w2.alloc (.cells #[.slice U 0 0] 29)) A1 A2 A3 A5 ws.length ss.length ys.length ps.length c1 c2 c3 c5)|(refine⟨trivial,?_⟩;gi_at_call 31;refine(callsIn_wide.2 cL).mono ?_;rintro e w3 ⟨rfl,rfl⟩))
 have hw2:Below w.heap.size w w2:=hw1.trans (hb2.mono hw1.size);obtain⟨V,hV⟩:∃V,((w2.alloc (.cells #[.slice U 0 0] 29)).alloc (.cells #[.slice A1 ws.length c1,.slice A2 ss.length c2,.slice A3 ys.length c3] 26)).alloc (.cells #[.slice A5 ps.length c5] 23)=V:=⟨_,rfl⟩
 rw[hV];have sV:V.heap.size=w2.heap.size+3:=by rw[<- hV];simp
 have bV:∀g,g<w2.heap.size->V.heap[g]?=w2.heap[g]?:=λg hg=>by
  rw[<- hV,Below.heap_alloc _ _ g (by simp;omega),Below.heap_alloc _ _ g (by simp;omega),Below.heap_alloc _ _ g hg]
 have e0:V.heap[w2.heap.size]?=O (.cells #[.slice U 0 0] 29 (0,0)):=by
  rw[<- hV,Below.heap_alloc _ _ _ (by simp;omega),Below.heap_alloc _ _ _ (by simp)];exact World.alloc_heap_new w2 _
 have e1:V.heap[w2.heap.size+1]?=O (.cells #[.slice A1 ws.length c1,.slice A2 ss.length c2,.slice A3 ys.length c3] 26 (0,0)):=by
  rw[<- hV,Below.heap_alloc _ _ _ (by simp)];have:=World.alloc_heap_new (w2.alloc (.cells #[.slice U 0 0] 29)) (.cells #[.slice A1 ws.length c1,.slice A2 ss.length c2,.slice A3 ys.length c3] 26)
  rwa [World.size_alloc] at this
 have e2:V.heap[w2.heap.size+1+1]?=O (.cells #[.slice A5 ps.length c5] 23 (0,0)):=by
  rw[<- hV];have:=World.alloc_heap_new ((w2.alloc (.cells #[.slice U 0 0] 29)).alloc (.cells #[.slice A1 ws.length c1,.slice A2 ss.length c2,.slice A3 ys.length c3] 26)) (.cells #[.slice A5 ps.length c5] 23)
  rwa [World.size_alloc,World.size_alloc] at this
 have hVb:Below w.heap.size w V:=by
  rw[<- hV];exact((hw2.alloc hw2.size _).alloc (by have:=hw2.size;simp;omega) _).alloc (by have:=hw2.size;simp;omega) _
 clear hy1 hy2 hy3 hx1 hx2 hx3 hcb cM cO cL hb1 hx0 hV;have hsz2:=hw2.size;obtain⟨W0,hW0⟩:∃W0,(V.alloc (.deferred (O []))).alloc (.deferred U)=W0:=⟨_,rfl⟩
 have s0:W0.heap.size=V.heap.size+2:=by rw[<- hW0];simp
 have b0:∀g,g<V.heap.size->W0.heap[g]?=V.heap[g]?:=λg hg=>by rw[<- hW0,Below.heap_alloc _ _ g (by simp;omega),Below.heap_alloc _ _ g hg]
 have g1:w.heap.size<=w2.heap.size:=hsz2;have g2:w2.heap.size<W0.heap.size:=by omega
 have g3:w.heap.size<=V.heap.size+1:=by omega
 have g4:V.heap.size+1<W0.heap.size:=by omega
 have g5:w2.heap.size≠V.heap.size+1:=by omega
 refine MN (n:=6) rfl rfl (gf:=73) (lb:=#[.pointer (O ⟨w2.heap.size+1,0,U⟩),.pointer (O ⟨w2.heap.size+1+1,0,U⟩)]) rfl trivial (enters_of Tryz.func73 (by kernel_rfl) rfl) rfl (X:=dTL.D)
  (λls W=>∃v cells ok,JJ R w W0 w2.heap.size (V.heap.size+1) ls v cells ok W) (λls x vs W=>∃v cells ok,JJ R w W0 w2.heap.size (V.heap.size+1) ls v cells ok W/\Rd W ok dTL x vs) 1000000 (mid++L.linX ys)
  (λls W o ⟨v,cells,ok,h⟩=>⟨v,cells,ok,(h.putL g3 g4 g5 o).1⟩) (λls x vs W o ⟨v,cells,ok,h,hx⟩=>⟨v,cells,ok,(h.putL g3 g4 g5 o).1,(h.putL g3 g4 g5 o).2 hx⟩) ?h0 ?hseq ?hround ?hdone
 case h0=>
  intro o;refine⟨.slice U 0 0,[],λ_=>False,⟨λg hg h6 h7=>?_,(hVb.alloc (by omega) _).alloc (by simp;omega) _,by rw[s0];simp,?_,⟨rfl,.inl ⟨rfl,rfl⟩⟩,λg hg=>(by cases hg),λi x h=>(by cases h),λg hg=>False.elim hg⟩⟩
  ·have hlt:g<(V.alloc (.deferred (O []))).heap.size:=by simp;omega
   rw[<- hW0];exact(Below.heap_alloc _ _ g hlt).trans (Below.heap_alloc _ _ g hlt).symm
  ·rw[Below.heap_alloc _ _ _ (by simp;omega),Below.heap_alloc _ _ _ (by omega)];exact e0
 case hseq=>
  intro Rdy hRdy hprem W ⟨v,cells,ok,hJ0⟩ hr;have H:lh LW R w W0 w2.heap.size (V.heap.size+1) (w2.heap.size+1) (w2.heap.size+1+1) ws ss ys ps (.slice A1 ws.length c1) (.slice A2 ss.length c2) (.slice A3 ys.length c3) (.slice A5 ps.length c5):=
   ⟨g1,g2,g3,g4,g5,by omega,by omega,by omega,(b0 _ (by omega)).trans e1,by omega,by omega,by omega,(b0 _ (by omega)).trans e2,r1,r2,r3,λW hf hs=>hN.sl (by omega) λg hg=>(hf g (by omega) (by omega) (by omega)).trans ((b0 g (by omega)).trans (bV g hg)),hL,hst⟩
  refine(MB H hBs hNm hLine hRdy (λls x vs v cells ok W h6 h7 h8 h9=>(hprem ls x vs W ⟨v,cells,ok,h6,h7⟩ h8 h9).mono (λe w' hq=>⟨hq.1,hq.2.1,hq.2.2⟩)) hws hys hm hlen ⟨⟨v,cells,ok,hJ0⟩,hr⟩).mono ?_;rintro e w' ⟨hu,hE⟩;exact⟨hu,hE.1,hE.2⟩
 case hround=>
  rintro ls x vs W ⟨v,cells,ok,hJ,hx⟩ hlen hlt;obtain⟨d0,d1,d2,d3,d4,d5,d6,d7,d8,rfl⟩:=Na hx.length;have hWb:=hJ.size;obtain⟨A,c,rfl,rfl,rfl,rfl,rfl,rfl,rfl,rfl,rfl⟩:=Lv hx;have q1:∀o,(W.alloc o).heap[V.heap.size+1]?=W.heap[V.heap.size+1]?:=λo=>Below.heap_alloc _ _ _ (by omega)
  have q2:∀o,(W.alloc o).heap[V.heap.size]?=W.heap[V.heap.size]?:=λo=>Below.heap_alloc _ _ _ (by omega)
  have A9:Aside (JJ R w W0 w2.heap.size (V.heap.size+1) ls v cells ok W/\V.heap.size=w2.heap.size+3):=⟨hJ,sV⟩
  clear sV hJ e0 e1 e2
  gi_wp2
  refine⟨⟨q1 _,q2 _⟩,λo=>?_⟩;obtain⟨cs,hcs⟩:∃cs:Z E,cs=[.string (mkS x.1),.int .i64 x.2.1.1,.int .i64 x.2.1.2.1,.int .i64 x.2.1.2.2.1,.int .i64 x.2.1.2.2.2.1,.int .i64 x.2.1.2.2.2.2.1,.bool x.2.1.2.2.2.2.2.1,.slice A x.2.1.2.2.2.2.2.2.1.length c,.string (mkS x.2.1.2.2.2.2.2.2.2.1)]:=⟨_,rfl⟩
  obtain⟨W3,hW3⟩:∃W3,(W.alloc (.cells #[.string (mkS x.1),.int .i64 x.2.1.1,.int .i64 x.2.1.2.1,.int .i64 x.2.1.2.2.1,.int .i64 x.2.1.2.2.2.1,.int .i64 x.2.1.2.2.2.2.1,.bool x.2.1.2.2.2.2.2.1,.slice A x.2.1.2.2.2.2.2.2.1.length c,.string (mkS x.2.1.2.2.2.2.2.2.2.1)] 78)).putObj (V.heap.size+1) o=W3:=⟨_,rfl⟩
  have hr3:JJ R w W0 w2.heap.size (V.heap.size+1) ls v cells ok W3/\Rd W3 ok dTL x cs/\W3.heap[W.heap.size]?=O (.cells #[.string (mkS x.1),.int .i64 x.2.1.1,.int .i64 x.2.1.2.1,.int .i64 x.2.1.2.2.1,.int .i64 x.2.1.2.2.2.1,.int .i64 x.2.1.2.2.2.2.1,.bool x.2.1.2.2.2.2.2.1,.slice A x.2.1.2.2.2.2.2.2.1.length c,.string (mkS x.2.1.2.2.2.2.2.2.2.1)] 78 (0,0))/\W.heap.size<W3.heap.size:=by
   have hb:Below W.heap.size W (W.alloc (.cells #[.string (mkS x.1),.int .i64 x.2.1.1,.int .i64 x.2.1.2.1,.int .i64 x.2.1.2.2.1,.int .i64 x.2.1.2.2.2.1,.int .i64 x.2.1.2.2.2.2.1,.bool x.2.1.2.2.2.2.2.1,.slice A x.2.1.2.2.2.2.2.2.1.length c,.string (mkS x.2.1.2.2.2.2.2.2.2.1)] 78)):=(Below.refl _ W).alloc (NL _) _;have hJ':=A9.out.1.below g3 g4 g5 hb;refine⟨?_,?_,?_,?_⟩;·rw[<- hW3];exact(hJ'.putL g3 g4 g5 o).1
   ·rw[<- hW3,hcs];exact(hJ'.putL g3 g4 g5 o).2 (hx.mono hb.size λg hg hl=>⟨hb.block g hl,hg⟩)
   ·rw[<- hW3,World.putObj_heap_other (by omega)];exact World.alloc_heap_new W _
   ·rw[<- hW3,World.putObj_size];simp
  rw[hW3];obtain⟨hJ3,hx3,hc3,hl3⟩:=hr3;have k0:W3.cell? ⟨w2.heap.size,0,U⟩=O v:=by simp[World.cell?,hJ3.box]
  have k9:∀j u,cs[j]?=O u->W3.cell? ⟨W.heap.size,j,U⟩=O u:=λj u hj=>by
   rw[cell_of_row W3 _ j _ _ (0,0) hc3];rw[hcs] at hj;simpa using hj
  have m0:=k9 0 _ (by rw[hcs];rfl);have m1:=k9 1 _ (by rw[hcs];rfl);have m2:=k9 2 _ (by rw[hcs];rfl);have m3:=k9 3 _ (by rw[hcs];rfl);have m4:=k9 4 _ (by rw[hcs];rfl);have m5:=k9 5 _ (by rw[hcs];rfl);have m6:=k9 6 _ (by rw[hcs];rfl);have m7:=k9 7 _ (by rw[hcs];rfl);have m8:=k9 8 _ (by rw[hcs];rfl);obtain⟨i0,z,hi0,hz,hzs,hsz,hby⟩:=KJ;have hb4:Below W3.heap.size W3 (W3.alloc (.cells #[.string (mkS x.1),.int .i64 x.2.1.1,.int .i64 x.2.1.2.1,.int .i64 x.2.1.2.2.1,.int .i64 x.2.1.2.2.2.1,.int .i64 x.2.1.2.2.2.2.1,.bool x.2.1.2.2.2.2.2.1,.slice A x.2.1.2.2.2.2.2.2.1.length c,.string (mkS x.2.1.2.2.2.2.2.2.2.1)] 78)):=(Below.refl _ W3).alloc (NL _) _;have hJ4:=hJ3.below g3 g4 g5 hb4;have hrow4:=hJ4.row;rw[<- hsz] at hrow4;obtain⟨v',W5,hrun,n1,n2,n3⟩:=uK (P:=GP) (t:=DSL) (ty:=DSL) (e:=DEL) Tryz.underlying29 hi0 hz hzs (by omega) (by omega) hrow4 (A:=O ⟨W3.heap.size,0,U⟩) (m:=1) (c:=1) (news:=cs) (by rw[hsz,hcs];rfl)
   (.inr ⟨_,rfl,λj u hj=>by
    rw[gu,Nat.zero_add,cell_of_row _ _ j _ _ (0,0) (World.alloc_heap_new W3 _)];rw[hcs] at hj;simpa using hj⟩) (by rw[hcs];intro u hu;simp at hu;rcases hu with rfl|rfl|rfl|rfl|rfl|rfl|rfl|rfl|rfl<;>rfl) (by rw[hby];omega)
  rw[hsz] at n1;obtain⟨g',cap',rfl⟩:=ownsRow_succ n1;have hvo:∀g,v.ownBlock=O g->W0.heap.size<=g:=hJ3.own;have hl2:w2.heap.size<W3.heap.size:=by have:=hJ3.size;omega
  have hb5:∀g,g<W3.heap.size->v.ownBlock≠O g->W5.heap[g]?=W3.heap[g]?:=λg hg hne=>(n2.block g (by have:=hb4.size;omega) (λe=>hne e.symm)).trans (hb4.block g hg)
  have hbo:v.ownBlock≠O w2.heap.size:=λe=>by have:=hvo _ e;omega
  have e5:W5.heap[w2.heap.size]?=O (.cells #[v] DSL (0,0)):=(hb5 _ hl2 hbo).trans hJ3.box;have k5:W5.cell? ⟨w2.heap.size,0,U⟩=O v:=by simp[World.cell?,e5]
  have z5:W5.frozen? ⟨w2.heap.size,0,U⟩=false:=by simp[World.frozen?,e5]
  have hg':g'≠w2.heap.size:=λe=>by
   rcases n3 g' rfl with h|h;·exact hbo (by rw[h,e])
   ·have:=hb4.size;omega
  have hfin:Aside ((∃v cells ok,JJ R w W0 w2.heap.size (V.heap.size+1) (ls++[x]) v cells ok (W5.setCell ⟨w2.heap.size,0,U⟩ (.slice (O ⟨g',0,U⟩) (ls.length+1) cap')))/\(W5.setCell ⟨w2.heap.size,0,U⟩ (.slice (O ⟨g',0,U⟩) (ls.length+1) cap')).heap[V.heap.size+1]?=W3.heap[V.heap.size+1]?/\(W5.setCell ⟨w2.heap.size,0,U⟩ (.slice (O ⟨g',0,U⟩) (ls.length+1) cap')).heap[V.heap.size]?=W3.heap[V.heap.size]?):=by
   have sV:=A9.out.2;have hs5:∀g,g≠w2.heap.size->(W5.setCell ⟨w2.heap.size,0,U⟩ (.slice (O ⟨g',0,U⟩) (ls.length+1) cap')).heap[g]?=W5.heap[g]?:=λg hg=>Below.heap_setCell _ _ _ _ hg
   have hsz5:W3.heap.size<=(W5.setCell ⟨w2.heap.size,0,U⟩ (.slice (O ⟨g',0,U⟩) (ls.length+1) cap')).heap.size:=by
    show _<=(W5.heap.modify _ _).size;rw[Array.size_modify];exact Og hb4.size n2.size
   refine⟨⟨_,_,_,hJ3.put g1 g2 g3 g4 g5 hx3 (v':=.slice (O ⟨g',0,U⟩) (ls.length+1) cap') (λg hg a1 a2 a3=>(hs5 g a1).trans (hb5 g hg a3)) ?_ hsz5 (Boxed.set _ e5) ?_ (λg hg=>(n3 g hg).imp id λh=>Og hb4.size h)⟩,?_,?_⟩;·exact((hJ3.bel.trans (hb4.mono hJ3.bel.size)).grown n2 (by have:=hJ3.bel.size;have:=hb4.size;omega) (λk hk=>by have:=hvo k hk;omega)).setCell (p:=⟨w2.heap.size,0,U⟩) g1 _
   ·refine n1.kept (grownBy_setCell' W5 w2.heap.size _) (.inr λe=>?_);exact hg' (NF e)
   ·exact(hs5 _ (by omega)).trans (hb5 _ (by have:=hJ3.size;omega) (λe=>by have:=hvo _ e;omega))
   ·exact(hs5 _ (by omega)).trans (hb5 _ (by have:=hJ3.size;omega) (λe=>by have:=hvo _ e;omega))
  clear hvo hl2 hb5 hbo e5 hg' hJ4 hrow4 n1 n2 n3 hb4 hx3 hJ3 hx hcs hi0 hz hzs hsz hby q1 q2 k9 hc3 hl3 hW3
  gi_wp2_with (gi_at_builtin;refine Bv rfl _ _ _ rfl _ _ rfl rfl _ _ hrun ?_)
  exact hfin
 case hdone=>
  rintro W ⟨v,cells,ok,hJ⟩ hD;have hc:W.cell? ⟨w2.heap.size,0,U⟩=O v:=by simp[World.cell?,hJ.box]
  gi_wp2
  refine⟨by simp,.inl ⟨_,_,rfl,run_takeDeferred hD,?_⟩⟩;obtain⟨f1,f2,f3⟩:=hJ.fin (D:=V.heap.size) (by omega) (by omega) (.deferred U);exact⟨_,results_tmp2 rfl _ _ _,v,cells,ok,rfl,f1,f2,λg hg=>by have:=hJ.own g hg;omega,f3,λg hg=>(hJ.okl g hg).2.imp id λh=>⟨by omega,h.2⟩⟩
set_option maxHeartbeats 1000000 in
include hMay hL hst in
theorem IC{e:S}(he:may ws ss ys=O (e,()))(h0:e≠0){v:E}(hv:bX w ws ss ys v) :
  CallsIn Fence.wide 6 GP 11 #[v] w λr w'=>r=.returned (.tuple #[.slice U 0 0,.int .i64 e])/\Below w.heap.size w w':=by
 obtain⟨A1,c1,A2,c2,A3,c3,rfl⟩:=hv.parts;have hbA:Below w.heap.size w (w.alloc (.cells #[.slice A1 ws.length c1,.slice A2 ss.length c2,.slice A3 ys.length c3] 26)):=(Below.refl _ w).alloc (NL _) _;have cM:=kr (w:=w.alloc (.cells #[.slice A1 ws.length c1,.slice A2 ss.length c2,.slice A3 ys.length c3] 26)) hMay he (hv.later hbA.size (λg hg=>hbA.block g hg)) (hst _ _ hL (λg hg=>hbA.block g hg)) (hst.later hbA.size);refine callsIn_of_wp_marks Tryz.func11 rfl trivial ?_;simp only[Tryz.ntmps11,List.size_toArray,N7,Ol,Nat.reduceAdd,Nat.reduceSub,Array.replicate_succ,Array.replicate_zero,List.push_toArray,List.append_toArray,Oc,List.cons_append];have hB0:Aside (Below w.heap.size w (w.alloc (.cells #[.slice A1 ws.length c1,.slice A2 ss.length c2,.slice A3 ys.length c3] 26))):=hbA;clear hbA
 gi_wp2_with (refine⟨trivial,?_⟩;gi_at_call 29;refine(callsIn_wide.2 cM).mono ?_;rintro e w1 ⟨rfl,hb1⟩)
 exact⟨_,results_tmp2 rfl _ _ _,rfl,hB0.out.trans (hb1.mono (by simp))⟩
set_option maxHeartbeats 1000000 in
include hMay hOf hL hst in
theorem IE{e:S}(he:may ws ss ys=O (0,()))(ho:of ws ss ys=O (ps,e,()))(h0:e≠0){v:E}(hv:bX w ws ss ys v) :
  CallsIn Fence.wide 6 GP 11 #[v] w λr w'=>r=.returned (.tuple #[.slice U 0 0,.int .i64 e])/\Below w.heap.size w w':=by
 obtain⟨A1,c1,A2,c2,A3,c3,rfl⟩:=hv.parts;have hbA:Below w.heap.size w (w.alloc (.cells #[.slice A1 ws.length c1,.slice A2 ss.length c2,.slice A3 ys.length c3] 26)):=(Below.refl _ w).alloc (NL _) _;have cM:=kr (w:=w.alloc (.cells #[.slice A1 ws.length c1,.slice A2 ss.length c2,.slice A3 ys.length c3] 26)) hMay he (hv.later hbA.size (λg hg=>hbA.block g hg)) (hst _ _ hL (λg hg=>hbA.block g hg)) (hst.later hbA.size);refine callsIn_of_wp_marks Tryz.func11 rfl trivial ?_;simp only[Tryz.ntmps11,List.size_toArray,N7,Ol,Nat.reduceAdd,Nat.reduceSub,Array.replicate_succ,Array.replicate_zero,List.push_toArray,List.append_toArray,Oc,List.cons_append];have hB0:Aside (Below w.heap.size w (w.alloc (.cells #[.slice A1 ws.length c1,.slice A2 ss.length c2,.slice A3 ys.length c3] 26))):=hbA;clear hbA
 gi_wp2_with (first|(refine⟨trivial,?_⟩;gi_at_call 29;refine(callsIn_wide.2 cM).mono ?_;rintro e w1 ⟨rfl,hb1⟩;obtain⟨hx0,hcb⟩:=wL (w:=w) hb1;obtain⟨hx1,hx2,hx3⟩:=hcb w1 (λg hg=>rfl);have hw1:Below w.heap.size w w1:=hB0.out.trans (hb1.mono (by simp));have cO:=zo hOf ho (hv.later hw1.size (λg hg=>hw1.block g hg)) (hst _ _ hL (λg hg=>hw1.block g hg)) (hst.later hw1.size))|(refine⟨trivial,?_⟩;gi_at_call 30;refine(callsIn_wide.2 cO).mono ?_;rintro e w2 ⟨A5,c5,rfl,hN,hb2⟩))
 exact⟨_,results_tmp2 rfl _ _ _,rfl,hw1.trans (hb2.mono hw1.size)⟩
end
end
end Rv
namespace Rv
open Go Go.RowKit Go.Proofs Go.Lib
noncomputable section
set_option maxRecDepth 1000000
section
variable{C:Ctx}{γ0:Gam}{h0:Heap}{w':Y}
theorem uD(I:Inv C γ0 h0 C.w0)(hn:C.nl=0)(hb:Below C.w0.heap.size C.w0 w'){ek:zaf}{t:Ty}{xs:Z t.D}{y:S}{u:E}{cells:Z E}{ok:G->Prop}(hp:0<t.size)
  (ho:w'.ownsRow 0 ek t.size u xs.length cells) (hown:∀g,u.ownBlock=O g->C.w0.heap.size<=g) (hr:bi w' ok t xs cells) (hok:∀g,ok g->C.rd g/\u.ownBlock≠O g) :
  ∃(γ':Gam) (rs:Array E),Ending.returned (.tuple #[u,.int .i64 y])=.returned (if h:rs.size=1 then rs[0] else .tuple rs)/\Rel C γ' w' ((⟨[(0,.c (.row ek t)),(1,Si)],[]⟩:Shape).mk' nmJ 2 (xs,y,())) rs:=by
 obtain⟨γ,hγ⟩:∃γ:M (G×G),eX γ xs.length u/\u.oneCell'=true/\(γ=U/\xs=[]\/∃g c cur,γ=O (g,c)/\u.ownBlock=O g/\w'.heap[g]?=O (.cells cur ek (0,0))/\xs.length<=c/\c<=maxLen/\cur.size=c*t.size/\cur.toList.take (xs.length*t.size)=cells):=by
  rcases ho.2 with⟨h1,h2⟩|⟨g,cap,cur,h1,_,h3,h4,h5,h6,h7⟩;·exact⟨U,⟨h2,h1⟩,by rw[h1];rfl,.inl ⟨rfl,List.eq_nil_of_length_eq_zero h2⟩⟩
  ·exact⟨O (g,cap),h1,by rw[h1];rfl,.inr ⟨g,cap,cur,rfl,by rw[h1];rfl,h3,h4,h5,h6,h7⟩⟩
 obtain⟨hov,h1c,hrow⟩:=hγ;refine⟨λj=>if j=15 then γ else U,#[u,.int .i64 y],rfl,rfl,?_,?_⟩
 ·intro j v hj
  match j,hj with
  |0,hj=>
   obtain rfl:=NF hj;exact⟨h1c,_,rfl,NL _,λ_ n hn=>by
    have hn:O xs.length=O n:=hn;obtain rfl:=NF hn;exact hov⟩
  |1,hj=>obtain rfl:=NF hj;exact rfl
  |j+2,hj=>cases hj
 ·have hh:∀j e,(if j=15 then O (⟨0,0,.row ek t xs⟩:En) else U)=O e->j=15/\e=⟨0,0,.row ek t xs⟩:=λj e h=>by
   split at h;·rename_i hj;exact⟨hj,(NF h).symm⟩
   ·cases h
  have hfr:∀g,g<C.w0.heap.size->w'.heap[g]?=C.w0.heap[g]?:=λg hg=>hb.block g hg
  exact {
   box:=λj e hj=>by
    obtain⟨rfl,rfl⟩:=hh j e hj;rcases hrow with⟨h1,h2⟩|⟨g,c,cur,h1,hu,h2,h3,h4,h5,h6⟩;·exact .inl ⟨h1,h2⟩
    ·refine .inr ⟨g,c,cur,h1,h2,h3,h4,h5,hp,λi x hi=>?_⟩;have hl:i<xs.length:=(NS.1 hi).1;have hle:i*t.size+t.size<=xs.length*t.size:=by rw[<- Nat.succ_mul];exact Nat.mul_le_mul_right _ hl
     have e1:(cur.toList.drop (i*t.size)).take t.size=(cells.drop (i*t.size)).take t.size:=by
      rw[<- h6,List.drop_take,List.take_take,Nat.min_eq_left (by omega)]
     rw[e1];refine(hr i x hi).mono (NL _) λg' hg' _=>⟨rfl,(hok g' hg').1,λk e c' hk _ hγ'=>?_⟩
     obtain⟨rfl,rfl⟩:=hh k e hk;have h7:γ=O (g',c'):=hγ';rw[h1] at h7;cases h7;exact absurd hu (hok _ hg').2
   inj:=λa b e e' g c d ha _ hb' _ h1 h2=>by
    obtain⟨rfl,_⟩:=hh a e ha;obtain⟨rfl,_⟩:=hh b e' hb';rfl
   own:=λa e g c ha _ hg=>by
    obtain⟨rfl,_⟩:=hh a e ha;have h7:γ=O (g,c):=hg;rcases hrow with⟨h1,_⟩|⟨g',c',cur,h1,hu,_⟩;·rw[h1] at h7;cases h7
    ·rw[h1] at h7;cases h7;exact I.new g (hown g hu)
   frame:=λg hg _=>hfr g hg
   size:=hb.size
   os:=hb.os
   tape:=hb.tape
   output:=hb.output
   new:=I.new
   rd:=I.rd
   laid:=I.stable C.w0 w' I.laid λg hno=>by
    by_cases hlt:g<C.w0.heap.size;·exact hfr g hlt
    ·exact absurd (I.new g (by omega)) hno
   stable:=I.stable
   lent:=λj hj=>by omega }
end
set_option maxHeartbeats 1000000 in
theorem KI{LL:Y->Prop}{may:oOT->oOT->oOY->M (S×zab)}{of:oOT->oOT->oOY->M (Z S×S×zab)}
  {bs:oOT->S->M (S×zah×zab)} {nm:S->M (Str×zab)} {line:oOT->oOT->oOY->S->M dST}
  (hMay:Sat GP LL 29 (ah ⟨[(0,.agg oC)],[]⟩ ⟨[(0,Si)],[]⟩ may))
  (hOf:Sat GP LL 30 (ah ⟨[(0,.agg oC)],[]⟩ ⟨[(0,.c (.row 3 (.int .i64))),(1,Si)],[]⟩ of))
  (hBs:Sat GP LL 74 (ah ⟨[(0,.c (.sl oTI)),(1,Si)],[]⟩ ⟨[(0,Si),(1,SB)],[]⟩ bs))
  (hNm:Sat GP LL 75 (ah ⟨[(0,Si)],[]⟩ ⟨[(0,Ss)],[]⟩ nm))
  (hLine:Sat GP LL 16 (ah ⟨[(0,.agg oC),(1,Si)],[]⟩ ⟨[(0,.agg dC)],[]⟩ line)) :
  Sat GP LL 11 (ah ⟨[(0,.agg oC)],[]⟩ ⟨[(0,.c (.row DEL dTL)),(1,Si)],[]⟩ (λa b c=>L.linesO may of bs nm line a b c)):=by
 rintro⟨(ws:Z S),(ss:Z S),(ys:oOY),u⟩ y hy C γ vals hCL hCn R;have hCn:C.nl=0:=hCn;have hy:L.linesO may of bs nm line ws ss ys=O y:=hy;have hsz:vals.size=1:=R.size;have hv:∃v,vals=#[v]/\bX C.w0 ws ss ys v/\∃A1 c1 A2 c2 A3 c3,v=.agg #[.slice A1 ws.length c1,.slice A2 ss.length c2,.slice A3 ys.length c3]/\Rd C.w0 C.rd (.sl oTU) ws [.slice A1 ws.length c1]/\Rd C.w0 C.rd (.sl oTI) ss [.slice A2 ss.length c2]/\Rd C.w0 C.rd (.sl oTS) ys [.slice A3 ys.length c3]:=by
  have s0:aZ C γ _ C.w0 (.v (.agg [.sl U oTU ws,.sl U oTI ss,.sl U oTS ys])) (vals.getD 0 undef):=R.slot 0 _ rfl;have e0:vals=#[vals.getD 0 undef]:=by
   apply Array.ext';obtain⟨l⟩:=vals
   match l,hsz with
   |[a],_=>rfl
  have ho:=bX.of s0;refine⟨vals.getD 0 undef,e0,ho,?_⟩;obtain⟨vs,hvs,ha⟩:=s0
  match vs,ha with
  |[a1,a2,a3],⟨h1,h2,h3,_⟩=>
   obtain⟨A1,c1,A2,c2,A3,c3,he⟩:=ho.parts;rw[hvs] at he;obtain⟨rfl,rfl,rfl⟩:a1=.slice A1 ws.length c1/\a2=.slice A2 ss.length c2/\a3=.slice A3 ys.length c3:=by simpa using he
   exact⟨A1,c1,A2,c2,A3,c3,by rw[hvs],vN h1,vN h2,vN h3⟩
 obtain⟨v,rfl,hv,A1,c1,A2,c2,A3,c3,hve,r1,r2,r3⟩:=hv;have hL:LL C.w0:=by rw[<- hCL];exact R.inv.laid
 have hst:eu LL C.w0.heap.size:=λa b' ha hb=>by
  rw[<- hCL] at ha⊢;exact R.inv.stable a b' ha λg hg=>hb g (by
   by_cases h:g<C.w0.heap.size;·exact h
   ·exact absurd (R.inv.new g (by omega)) hg)
 unfold L.linesO at hy;split at hy;·cases hy
 ·rename_i e u' he;split at hy
  ·rename_i h0;subst h0;split at hy
   ·cases hy
   ·rename_i ps f u'' ho;split at hy
    ·rename_i h0;subst h0;split at hy
     ·rename_i hb;split at hy
      ·cases hy
      ·rename_i mid hm;split at hy
       ·rename_i hlen;obtain rfl:=NF hy;subst hve;refine(callsIn_wide.1 (IG hMay hOf hBs hNm hLine hL hst he ho hb.1 hb.2 hm hlen r1 r2 r3 hv)).mono ?_;rintro e w' ⟨u,cells,ok,rfl,hbl,how,hown,hrr,hok⟩;exact uD R.inv hCn hbl (t:=dTL) (xs:=mid++L.linX ys) (by decide) how hown hrr λg hg=>by
         rcases hok g hg with⟨h6,h7⟩|⟨h6,h7⟩;·exact⟨h6,λe=>by have:=hown g e;omega⟩
         ·exact⟨R.inv.rd g (R.inv.new g h6),h7⟩
       ·cases hy
     ·cases hy
    ·rename_i h0;obtain rfl:=NF hy;refine(callsIn_wide.1 (IE hMay hOf hL hst he ho h0 hv)).mono ?_;rintro e w' ⟨rfl,hbl⟩;exact uD R.inv hCn hbl (t:=dTL) (xs:=[]) (cells:=[]) (ok:=λ_=>False) (by decide) ⟨rfl,.inl ⟨rfl,rfl⟩⟩ (λg hg=>(by cases hg)) (λi x h=>by cases h) λg hg=>False.elim hg
  ·rename_i h0;obtain rfl:=NF hy;refine(callsIn_wide.1 (IC hMay hL hst he h0 hv)).mono ?_;rintro e w' ⟨rfl,hbl⟩;exact uD R.inv hCn hbl (t:=dTL) (xs:=[]) (cells:=[]) (ok:=λ_=>False) (by decide) ⟨rfl,.inl ⟨rfl,rfl⟩⟩ (λg hg=>(by cases hg)) (λi x h=>by cases h) λg hg=>False.elim hg
end
end Rv
namespace Rv
open Go Go.RowKit Go.Proofs
noncomputable section
set_option maxRecDepth 100000
def P:Program:=Tryz.prog
theorem mixed:P.follows .mixedOrders=true:=by kernel_rfl
abbrev LQ:=G->G
structure LW (ad:LQ) (w:Y):Prop where
 errSyntax:∃te pe,w.cell? ⟨5,0,U⟩=O (.iface te pe)
 errRange:∃te pe,w.cell? ⟨6,0,U⟩=O (.iface te pe)
 pow10:Lib.TabIs P w "internal/strconv.uint64pow10" .u64 Lib.pow10Tab
 maxLen:∃m,w.cell? ⟨0,0,U⟩=O (.int .i64 m)
 kinds:ll w 7 (ad 0) .i64 (kQ L.kindsRow)
 asciiSpace:Lib.TabIs P w "strings.asciiSpace" .u8 Lib.asciiSpaceTab
variable{ad:LQ}
theorem LW.stable{w:Y}(h:LW ad w)(a b:Y)(ha:LW ad a)(hb:∀g,g<w.heap.size->b.heap[g]?=a.heap[g]?):LW ad b where
 errSyntax:=Kg h.errSyntax ha.errSyntax hb
 errRange:=Kg h.errRange ha.errRange hb
 pow10:=wJ h.pow10 ha.pow10 hb
 maxLen:=M6 h.maxLen ha.maxLen hb
 kinds:=KX h.kinds ha.kinds hb
 asciiSpace:=wJ h.asciiSpace ha.asciiSpace hb
namespace strings_CutPrefix
def sp:Spec:=⟨⟨[(0,.c .str),(1,.c .str)],[]⟩,⟨[(0,.c .str),(1,.c .bool)],[]⟩,λx=>O (L.cutRest x.1 x.2.1,L.cutIs x.1 x.2.1,())⟩
theorem enter:aC P 200:=aM (by kernel_rfl)
theorem sat:Sat P (LW ad) 200 sp:=jg (la:=[.str,.str]) (lr:=[.str,.bool]) rfl rfl rfl rfl λx y h w _=>by
 have h:O (L.cutRest x.1 x.2.1,L.cutIs x.1 x.2.1,())=O y:=h;obtain rfl:=NF h;refine(Tryz.strings_CutPrefix (mkS x.1) (mkS x.2.1) w).mono ?_;rintro e w' ⟨rfl,rfl⟩;exact⟨Below.refl _ _,#[_,_],rfl,rfl,rfl,trivial⟩
end strings_CutPrefix
namespace strconv_Itoa
def sp:Spec:=⟨⟨[(0,.c (.int .i64))],[]⟩,⟨[(0,.c .str)],[]⟩,λx=>L.itoaO x.1⟩
theorem enter:aC P 223:=aM (by kernel_rfl)
theorem sat:Sat P (LW ad) 223 sp:=jg (la:=[.int .i64]) (lr:=[.str]) rfl rfl rfl rfl λx y h w hw=>by
 have h:L.itoaO x.1=O y:=h;unfold L.itoaO at h;split at h;·rename_i hs;obtain rfl:=NF h;refine(Tryz.strconv_Itoa x.1 hs.1 hs.2 w hw.pow10).mono ?_;rintro e w' ⟨rfl,k,os,rfl⟩;exact⟨Lib.below_grow _ _ (NL _) _ _,#[_],rfl,rfl,trivial⟩
 ·cases h
end strconv_Itoa
namespace strconv_toError
def sp:Spec:=⟨⟨[(0,.c .str),(1,.c .str),(2,.c (.int .i64)),(3,.c (.int .i64)),(4,.c (.ifo 296 .i64))],[]⟩,⟨[(0,.c .err)],[]⟩,λx=>L.toErrorO x.1 x.2.1 x.2.2.1 x.2.2.2.1 x.2.2.2.2.1⟩
theorem enter:aC P 246:=aM (by kernel_rfl)
theorem sat:Sat P (LW ad) 246 sp:=jg (la:=[.str,.str,.int .i64,.int .i64,.ifo 296 .i64]) (lr:=[.err]) rfl rfl rfl rfl λx y h w hw=>by
 have h:L.toErrorO x.1 x.2.1 x.2.2.1 x.2.2.2.1 x.2.2.2.2.1=O y:=h;obtain⟨x1,x2,x3,x4,x5,_⟩:=x;simp only at h;unfold L.toErrorO at h;split at h
 ·rename_i hs;obtain rfl:=NF h;obtain⟨h1,h2⟩:=hs;rcases h2 with rfl|rfl
  ·obtain⟨te,pe,hv⟩:=hw.errRange;refine(Tryz.strconv_toError_range (mkS x1) (mkS x2) x3 x4 _ w h1 hv (.inr ⟨te,pe,rfl⟩)).mono ?_;rintro e w' ⟨N,rfl,_,_,hb⟩;exact⟨hb,#[_],rfl,⟨rfl,λh=>(by cases h),λ_=>⟨_,_,rfl⟩⟩,trivial⟩
  ·obtain⟨te,pe,hv⟩:=hw.errSyntax;refine(Tryz.strconv_toError_syntax (mkS x1) (mkS x2) x3 x4 _ w h1 hv (.inr ⟨te,pe,rfl⟩)).mono ?_;rintro e w' ⟨N,rfl,_,_,hb⟩;exact⟨hb,#[_],rfl,⟨rfl,λh=>(by cases h),λ_=>⟨_,_,rfl⟩⟩,trivial⟩
 ·cases h
end strconv_toError
namespace internal_strconv_underscoreOK
def sp:Spec:=⟨⟨[(0,.c .str)],[]⟩,⟨[(0,.c .bool)],[]⟩,λx=>L.underscoreO x.1⟩
theorem enter:aC P 269:=aM (by kernel_rfl)
theorem sat:Sat P (LW ad) 269 sp:=λx y h=>(by cases h)
end internal_strconv_underscoreOK
theorem D6(b:UInt8):([48,49,50,51,52,53,54,55,56,57]:Z UInt8).contains b=L.isDig b:=by
 have h:∀n:G,n<256->([48,49,50,51,52,53,54,55,56,57]:Z UInt8).contains (UInt8.ofNat n)=L.isDig (UInt8.ofNat n):=by decide +kernel
 have:=h b.toNat (UInt8.toNat_lt b)
 rwa [UInt8.ofNat_toNat] at this
theorem Fe(l:Z UInt8):Lib.trimS l [48,49,50,51,52,53,54,55,56,57]=L.trimDig l:=by
 have:(λb:UInt8=>([48,49,50,51,52,53,54,55,56,57]:Z UInt8).contains b)=L.isDig:=funext D6;unfold Lib.trimS Lib.trimLeftS Lib.trimRightS L.trimDig;rw[this]
namespace strings_Trim
def sp:Spec:=⟨⟨[(0,.c .str),(1,.c .str)],[]⟩,⟨[(0,.c .str)],[]⟩,λx=>L.trimO x.1 x.2.1⟩
theorem enter:aC P 112:=aM (by kernel_rfl)
theorem sat:Sat P (LW ad) 112 sp:=jg (la:=[.str,.str]) (lr:=[.str]) rfl rfl rfl rfl λx y h w hw=>by
 have h:L.trimO x.1 x.2.1=O y:=h;obtain⟨x1,x2,_⟩:=x;simp only at h;unfold L.trimO at h;split at h;·rename_i hs;obtain rfl:=NF h;obtain⟨rfl,h2⟩:=hs;refine(Any.strings_Trim_laid Tryz.lays160 (by kernel_rfl) (mkS x1) (mkS [48,49,50,51,52,53,54,55,56,57]) w (by show x1.length<=_;omega) (by decide) (ascii_of_all (by decide))).mono ?_;rintro e w' ⟨rfl,hb⟩;exact⟨hb,#[_],rfl,by show Value.string _=_;rw[show(mkS x1).data.toList=x1 from rfl,show(mkS [48,49,50,51,52,53,54,55,56,57]).data.toList=[48,49,50,51,52,53,54,55,56,57] from rfl,Fe];rfl,trivial⟩
 ·cases h
end strings_Trim
namespace internal_strconv_FormatUint
def sp:Spec:=⟨⟨[(0,.c (.int .u64)),(1,.c (.int .i64))],[]⟩,⟨[(0,.c .str)],[]⟩,λx=>L.formatUintO x.1 x.2.1⟩
theorem enter:aC P 286:=aM (by kernel_rfl)
theorem sat:Sat P (LW ad) 286 sp:=jg (la:=[.int .u64,.int .i64]) (lr:=[.str]) rfl rfl rfl rfl λx y h w hw=>by
 have h:L.formatUintO x.1 x.2.1=O y:=h;obtain⟨x1,x2,_⟩:=x;simp only at h;unfold L.formatUintO at h;split at h
 ·rename_i hs;obtain rfl:=NF h;obtain⟨rfl,h1,h2⟩:=hs;obtain⟨n,rfl⟩:∃n:G,x1=(n:S):=⟨Int.toNat x1,(Int.toNat_of_nonneg h1).symm⟩
  have h3:(n:S)<=9223372036854775807:=h2;refine(yG n (by omega) w hw.pow10).mono ?_;rintro e w' ⟨rfl,hb⟩;exact⟨hb,#[_],rfl,rfl,trivial⟩
 ·cases h
end internal_strconv_FormatUint
theorem I5(s:Str):L.kinds s=kQ L.kindsRow s:=rfl
def maps:G->zaf->M (Cell->M (Cell×zah)):=λg t=>if g=7/\t=335 then O (λc=>match c with | .str s=>O (.int .i64 (L.kinds s).1,(L.kinds s).2)|_=>U) else U
theorem iE:nk P (LW ad) maps:=by
 intro g t F h;unfold maps at h;split at h
 case isFalse=>cases h
 rename_i hg;obtain⟨rfl,rfl⟩:=hg;obtain rfl:=NF h;refine⟨.map (O (ad 0)),rfl,λw hw=>⟨hw.kinds.1,BQ Tryz.underlying335 hw.kinds,λkc kv p hks _ hF=>?_⟩⟩;cases kc with
 |str s=>
  obtain rfl:=hks s rfl;have hF:O (Cell.int .i64 (L.kinds s).1,(L.kinds s).2)=O p:=hF;obtain rfl:=NF hF;refine⟨.int .i64 (L.kinds s).1,rfl,λok=>?_⟩;rw[I5];exact BR Tryz.underlying335 Tryz.underlying9 (by kernel_rfl) hw.kinds s ok
 |_=>cases hF
namespace name_Mnemonic
def sp:Spec:=⟨⟨[(0,.c (.int .i64)),(1,.c (.int .i64)),(2,.c .bool)],[]⟩,⟨[(0,.c .str)],[]⟩,λx=>L.mnemO x.1 x.2.1 x.2.2.1⟩
theorem enter:aC P 125:=aM (by kernel_rfl)
theorem sat:Sat P (LW ad) 125 sp:=jg (la:=[.int .i64,.int .i64,.bool]) (lr:=[.str]) rfl rfl rfl rfl λx y h w hw=>by
 have h:L.mnemO x.1 x.2.1 x.2.2.1=O y:=h;obtain⟨x1,x2,x3,_⟩:=x;simp only at h;unfold L.mnemO at h;split at h;·rename_i hs;obtain rfl:=NF h;obtain⟨m,hm⟩:=hw.maxLen;refine(Gj x1 x2 x3 ⟨WalkArith.wf_i64 (n:=x1) ⟨by omega,by omega⟩,WalkArith.wf_i64 (n:=x2) ⟨by omega,by omega⟩⟩ m w hm hw.asciiSpace).mono ?_;rintro e w' ⟨rfl,hb⟩;exact⟨hb,#[_],rfl,rfl,trivial⟩
 ·cases h
end name_Mnemonic
namespace slices_Clone_uint32_uint32
def sp:Spec:=wu
theorem enter:aC P 109:=aM (by kernel_rfl)
theorem sat:Sat P (LW ad) 109 sp:=Mi
end slices_Clone_uint32_uint32
theorem MI{w:Y}{ok:G->Prop}{t:Ty}{xs:Z t.D}{v:E}(h:Rd w ok (.sl t) xs [v]):v.oneCell'=true:=h.one v (Ob.2 rfl)
namespace stmt_operands
def sp:Spec:=⟨⟨[(0,.c (.int .i64)),(1,.c (.int .i64))],[]⟩,⟨[(0,.c (.sl OT))],[]⟩,λx=>O (opsR x.1 x.2.1,())⟩
theorem enter:aC P 128:=aM (by kernel_rfl)
theorem sat:Sat P (LW ad) 128 sp:=JQ (la:=[.int .i64,.int .i64]) (lr:=[.sl OT]) rfl rfl rfl rfl λx y h w vs hw hv=>by
 have h:O (opsR x.1 x.2.1,())=O y:=h;obtain rfl:=NF h
 match vs,hv with
 |[a,b],⟨ha,hb,_⟩=>
  have ha:a=.int .i64 x.1:=ha;have hb:b=.int .i64 x.2.1:=hb;subst ha hb;refine(Jp x.1 x.2.1 w).mono ?_;rintro e w' ⟨hb,v,rfl,hr⟩;exact⟨hb,#[v],rfl,⟨MI hr,hr⟩,trivial⟩
end stmt_operands
namespace strings_Join
def sp:Spec:=⟨⟨[(0,.c (.sl .str)),(1,.c .str)],[]⟩,⟨[(0,.c .str)],[]⟩,λx=>L.sjoinO x.1 x.2.1⟩
theorem enter:aC P 82:=aM (by kernel_rfl)
theorem sat:Sat P (LW ad) 82 sp:=JP (la:=[.sl .str,.str]) (lr:=[.str]) rfl rfl rfl rfl λx y h w vs hw hv=>by
 have h:L.sjoinO x.1 x.2.1=O y:=h;unfold L.sjoinO at h;split at h
 ·rename_i hs;obtain rfl:=NF h
  match vs,hv with
  |[a,b],⟨ha,hb,_⟩=>
   have hb:b=.string (mkS x.2.1):=hb;subst hb;refine(EZ x.1 x.2.1 a w ha hs.1 hs.2).mono ?_;rintro e w' ⟨rfl,hb⟩;exact⟨hb,#[_],rfl,rfl,trivial⟩
 ·cases h
end strings_Join
end
end Rv
