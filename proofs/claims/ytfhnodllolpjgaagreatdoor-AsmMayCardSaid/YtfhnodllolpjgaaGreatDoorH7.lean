/- Texts put together. -/
import Derived.Test.YtfhnodllolpjgaaGreatDoorH6
import Derived.Test.YtfhnodllolpjgaaGreatDoorH1
import Derived.Test.YtfhnodllolpjgaaGreatDoorProg
import Derived.Shelf.RegionOpenPlain
import Derived.WalkKit
import Derived.Lib.Walk
import Derived.Lib.SliceRun
import Derived.Laws.OwnMore
import Derived.OwnWalk
import Derived.Deep.LoopGhost
import Derived.WalkMore
import Derived.Sort.OwnSortedInts
import Derived.Lib.BufferWrite
import Derived.Shelf.Spec.SlicesInsert
import Derived.Test.YtfhnodllolpjgaaGreatDoorH5
import Derived.Lib.LaidTab
import Derived.Lib.AppendIntMem
import Derived.Shelf.Strings.SlTrimAscii
set_option linter.all false
namespace Rv
open Go Go.RowKit Go.Proofs Go.Lib
noncomputable section
set_option maxRecDepth 1000000
abbrev KIL:TypeId:=25
abbrev KIE:TypeId:=3
theorem Ip:∃i,KP.info? KIE=some i/\i.zero=some (.int .i64 0)/\i.size=1/\i.bytes=8:=by
 obtain⟨i,h1,h2,h3,h4⟩:=info_parts (show(KP.info? KIE).map (fun i=>(i.zero,i.size,i.bytes))=some (some (.int .i64 0),1,8) by kernel_rfl);exact⟨i,h1,h2,h3,h4⟩
theorem grownBy_setCell(w:World)(b i:Nat)(v:Value):w.grownBy (w.setCell ⟨b,i,none⟩ v) (some b):=
 ⟨rfl,rfl,rfl,by show w.heap.size<=(w.heap.modify b _).size;rw[Array.size_modify];exact NM _,fun k _ hk=>Below.heap_setCell _ _ _ _ (fun e:k=b=>hk (by rw[e]))⟩
theorem grownBy_alloc(w:World)(b:Obj):w.grownBy (w.alloc b) none:=
 ⟨rfl,rfl,rfl,by show w.heap.size<=(w.heap.push b).size;rw[Array.size_push];omega,fun k hk _=>Below.heap_alloc _ _ k hk⟩
theorem E9{w:World}{ws:List Int}{v:Value}(hv:ky w kTU ws v)(hbig:ws.length*4<=140737488355328) :
  Calls KP 101 #[v] w (EM w ws.length (ws.map kuC)):=by
 obtain⟨A,c,rfl,hc,hx⟩:=hv;cases A with
 |none=>
  have hnil:ws=[]:=by
   cases ws with
   |nil=>rfl
   |cons x r=>obtain⟨g,o,ds,h,_⟩:=hx 0 x rfl;cases h
  subst hnil;refine(Cb _ c w).mono ?_;rintro e w' ⟨rfl,rfl⟩;exact⟨_,rfl,⟨rfl,.inl ⟨rfl,rfl⟩⟩,Below.refl _ _⟩
 |some a=>
  refine Cc a ws.length c (ws.map kuC) w (by simp) hbig (fun j u hj=>?_) (fun u hu=>by obtain⟨x,_,rfl⟩:=N8.1 hu;rfl);rw[OC] at hj;cases hxj:ws[j]? with
  |none=>rw[hxj] at hj;cases hj
  |some x=>
   rw[hxj] at hj;obtain rfl:=NE hj;obtain⟨g,o,ds,h,_,hrd,hcell⟩:=hx j x hxj;cases h;have hds:ds=[kuC x]:=hrd;have:=hcell 0 (kuC x) (by rw[hds];rfl);rw[show o+j*kTU.size+0=o+j by rw[show kTU.size=1 from rfl,Nat.mul_one,Nat.add_zero]] at this;rw[fE];exact this
set_option maxHeartbeats 2000000 in
theorem LB{w:World}{n c:Nat}{A:Option Addr}{head:Int}(hb:head<0\/(n:Int)<head) :
  Calls KP 51 #[.slice A n c,.int .i64 head] w fun e w'=>e=.returned (.tuple #[.slice none 0 0,.slice none 0 0,.int .i64 10])/\Below w.heap.size w w':=by
 go_enter Tryz.func51,Tryz.ntmps51
 go_wp2
 go_step3
 by_cases h0:head<0
 ·go_wp2
  rw[Exit.noGoto_ret]
  go_ret3
  exact⟨rfl,Below.refl _ _⟩
 ·have h1:(n:Int)<head:=by omega
  go_wp2
  go_ret3
  exact⟨rfl,Below.refl _ _⟩
theorem JY{x:Int}(h0:0<=x)(h1:x<=4294967295):bits .and .u32 x 65535=x % 65536:=by
 obtain⟨n,rfl⟩:=Int.eq_ofNat_of_zero_le h0;have hn:n<4294967296:=by omega
 have e:bits .and .u32 (n:Int) 65535=IntKind.u32.wrap ((BitVec.ofInt 32 (n:Int) &&& BitVec.ofInt 32 65535).toNat:Int):=rfl;have e1:(BitVec.ofInt 32 (n:Int)).toNat=n:=by rw[BitVec.toNat_ofInt];omega
 have e2:(BitVec.ofInt 32 65535).toNat=2 ^ 16-1:=by decide
 rw[e,BitVec.toNat_and,e1,e2,Nat.and_two_pow_sub_one_eq_mod,IntKind.wrap_u32];omega
theorem ER{x:Int}(h0:0<=x)(h1:x<=4294967295):wrap64 (bits .and .u32 x 65535)=x % 65536:=by
 rw[JY h0 h1];unfold wrap64;omega
def Dm(f:FuncId):Prop:=∀(W:World) (v:Value) (zs:List Int) (base:Nat),W.ownsRow base KIE 1 v zs.length (zs.map (nV .i64))->zs.length<=9223372036854775807 ->
 Calls KP f #[v] W fun e W'=>e=.returned (.tuple #[])/\W'.ownsRow base KIE 1 v zs.length (zs.reverse.map (nV .i64))/\W.grownBy W' v.ownBlock
theorem MG{f:FuncId} (hA:∀(blk off cap:Nat) (zs:List Int) (w:World),Go.Sort.Holds (Value.int .i64) w blk off zs.toArray->zs.length<=9223372036854775807 ->
   Calls KP f #[.slice (some ⟨blk,off,none⟩) zs.length cap] w fun e w'=>e=.returned (.tuple #[])/\∃n,w'=Go.Sort.putRow (Value.int .i64) (Go.Sort.ahead w n) blk off zs.reverse.toArray)
  (hB:∀(a:Option Addr) (cap:Nat) (w:World),Calls KP f #[.slice a 0 cap] w fun e w'=>e=.returned (.tuple #[])/\w'=w):Dm f:=by
 intro W v zs base h hl;rcases h.2 with⟨rfl,h0⟩|⟨g,cap,cur,rfl,hb,hg,h1,h2,h3,h4⟩;·obtain rfl:=List.eq_nil_of_length_eq_zero h0;refine(hB none 0 W).mono ?_;rintro e w' ⟨rfl,rfl⟩;exact⟨rfl,h,World.grownBy.refl _ _⟩
 ·rw[Nat.mul_one] at h4;refine(hA g 0 cap zs W (holds_of_blockI hg h4) hl).mono ?_;rintro e w' ⟨rfl,n,rfl⟩;have e0:Go.Sort.putRow (Value.int .i64) (Go.Sort.ahead W n) g 0 zs.reverse.toArray=Go.Sort.grow (Go.Sort.putRow (Value.int .i64) (Go.Sort.ahead W n) g 0 zs.reverse.toArray) #[]:=by unfold Go.Sort.grow;rw[Array.append_empty]
  rw[e0];exact⟨rfl,ownsRow_sortedI (by simp) hb hg h1 h2 h3,grownBy_sortedI _⟩
theorem JA:∀(h m:Nat) (o s:List Int),h<=m->L.unpR m o s h=L.unpR h o s h:=by
 intro h
 induction h using Nat.strongRecOn with
 |_ h ih=>
  intro m o s hm;cases h with
  |zero=>cases m<;>rfl
  |succ h=>
   obtain⟨m,rfl⟩:∃k,m=k+1:=⟨m-1,by omega⟩
   rw[L.unpR,L.unpR];by_cases hb:(h:Int)<o.getD h 0 % 65536;·rw[if_pos hb,if_pos hb]
   ·rw[if_neg hb,if_neg hb];have hl:(o.getD h 0 % 65536).toNat<=h:=by omega
    rw[ih _ (by omega) m _ _ (by omega),ih _ (by omega) h _ _ hl]
structure Dn (w wr:World) (v7:Value) (n:Nat) (h0:Nat) (ws:List Int) (hd:Nat) (o s:List Int) (v8:Value):Prop where
 le:hd<=n
 len:o.length=n
 sl:s.length+hd<=n
 ok:∀x∈o,0<=x/\x<=4294967295
 out:wr.ownsRow w.heap.size KEL 1 v7 n (o.map kuC)
 sit:wr.ownsRow w.heap.size KIE 1 v8 s.length (s.map (nV .i64))
 ne:v8.ownBlock=none\/v8.ownBlock≠v7.ownBlock
 bel:Below w.heap.size w wr
 eq:L.unpR hd o s hd=L.unpR h0 ws [] h0
set_option maxHeartbeats 400000 in
theorem JB(hrev:Dm 104){w:World}{ws:List Int}{c:Nat}{A:Option Addr}{h:Nat}(hv:ky w kTU ws (.slice A ws.length c))(hbig:ws.length<=1000000)(hok:∀x∈ws,0<=x/\x<=4294967295)(hh:h<=ws.length) :
  Calls KP 51 #[.slice A ws.length c,.int .i64 h] w fun e w'=>Below w.heap.size w w'/\((L.unpR h ws [] h=none/\e=.returned (.tuple #[.slice none 0 0,.slice none 0 0,.int .i64 10])) \/
   ∃r v7 v8,L.unpR h ws [] h=some r/\e=.returned (.tuple #[v7,v8,.int .i64 0])/\w'.ownsRow w.heap.size KEL 1 v7 r.1.length (r.1.map kuC)/\w'.ownsRow w.heap.size KIE 1 v8 r.2.length (r.2.reverse.map (nV .i64))/\(v8.ownBlock=none\/v8.ownBlock≠v7.ownBlock)):=by
 have hC:=E9 hv (by omega);have h0:¬(h:Int)<0:=by omega
 have h1:¬(ws.length:Int)<(h:Int):=by omega
 go_enter Tryz.func51,Tryz.ntmps51
 go_wp2
 go_step3
 go_wp2_with (go_at_call 101;refine hC.mono ?_;rintro e w1 ⟨v7,rfl,hown7,hb1⟩)
 go_step3
 go_wp2
 have I0:Dn w w1 v7 ws.length h ws h ws [] (.slice none 0 0):=⟨hh,rfl,by simpa using hh,hok,hown7,⟨rfl,.inl ⟨rfl,rfl⟩⟩,.inl rfl,hb1,rfl⟩
 go_loopg [1,8] h (fun k s1 s8 wr=>∃(hd:Nat) (o s:List Int),s1=.int .i64 hd/\hd<=k/\Dn w wr v7 ws.length h ws hd o s s8)
 case atStart=>exact⟨h,ws,[],rfl,NM _,I0⟩
 case round=>
  obtain⟨hd,o,s,rfl,hk,I⟩:=hrel;cases hd with
  |zero=>
   have hR:=hrev wr u8 s w.heap.size I.sit (by have:=I.sl;omega)
   go_wp2_with (go_at_call 104;refine hR.mono ?_;rintro e w2 ⟨rfl,hown8,hg8⟩)
   rw[Exit.noGoto_ret]
   go_ret3
   have he:=I.eq;rw[L.unpR] at he;have hbk:∀k,u8.ownBlock=some k->w.heap.size<=k:=fun k hk'=>by
    rcases I.sit.2 with⟨h1,_⟩|⟨g,cap,cur,h1,h2,_⟩;·rw[h1] at hk';cases hk'
    ·rw[h1] at hk';cases hk';exact h2
   have hlo:o.length=ws.length:=I.len;refine⟨I.bel.grown hg8 I.bel.size (fun k hk'=>hbk k hk'),.inr ⟨(o,s),v7,u8,he.symm,rfl,?_,hown8,I.ne⟩⟩;rw[hlo];refine I.out.kept hg8 ?_;rcases I.ne with h8|h8
   ·rw[h8];cases v7.ownBlock with
    |none=>exact .inl rfl
    |some k=>exact .inr (by simp)
   ·exact .inr fun e=>h8 e.symm
  |succ hd=>
   have hlt:hd<ws.length:=by have:=I.le;omega
   obtain⟨x,hx⟩:∃x,x=o.getD hd 0:=⟨_,rfl⟩
   have hxm:o[hd]?=some x:=by rw[hx,NH,NL (by rw[I.len];exact hlt)];rfl
   have hxb:=I.ok x (List.mem_of_getElem? hxm);rcases I.out.2 with⟨_,hz⟩|⟨g,cap,cur,rfl,hgb,hg1,hg2,hg3,hg4,hg5⟩;·omega
   have hcell:wr.cell? ⟨g,hd,none⟩=some (.int .u32 x):=by
    rw[I.out.cellAt hd (by omega),OC,hxm];rfl
   have hfz:wr.frozen? ⟨g,hd,none⟩=false:=I.out.frozenAt hd;have hand:=ER hxb.1 hxb.2;obtain⟨i1,hi,hz0,hz1,hz2⟩:=Ip;obtain⟨W1,hW1⟩:∃W1,W1=wr.setCell ⟨g,hd,none⟩ (.int .u32 (x / 65536)):=⟨_,rfl⟩
   have gr1:wr.grownBy W1 (some g):=by rw[hW1];exact grownBy_setCell wr g hd _
   have o1:W1.ownsRow w.heap.size KEL 1 (.slice (some ⟨g,0,none⟩) ws.length cap) ws.length ((o.set hd (x / 65536)).map kuC):=by
    rw[hW1,List.map_set];exact(I.out.stored hd _).1
   have s1:W1.ownsRow w.heap.size KIE 1 u8 s.length (s.map (nV .i64)):=I.sit.kept gr1 (by
    rcases I.ne with h8|h8;·exact .inl h8
    ·exact .inr h8)
   have b1:Below w.heap.size w W1:=by rw[hW1];exact I.bel.setCell (p:=⟨g,hd,none⟩) hgb _
   obtain⟨W2,hW2⟩:∃W2,W2=W1.alloc (.cells #[.int .i64 hd] KIE):=⟨_,rfl⟩
   have gr2:W1.grownBy W2 none:=by rw[hW2];exact grownBy_alloc W1 _
   have o2:=o1.kept gr2 (.inr (by simp[Value.ownBlock]));have s2:W2.ownsRow w.heap.size KIE 1 u8 s.length (s.map (nV .i64)):=s1.kept gr2 (by cases u8.ownBlock with
    |none=>exact .inl rfl
    |some k=>exact .inr (by simp))
   have b2:Below w.heap.size w W2:=b1.grown gr2 b1.size (fun k hk'=>by cases hk');have n2:∀j u,[Value.int .i64 (hd:Int)][j]?=some u->W2.cell? ((⟨W1.heap.size,0,none⟩:Addr).add j)=some u:=fun j u hj=>by
    match j,hj with
    |0,hj=>
     obtain rfl:=NE hj;rw[hW2,fE];exact cell_of_row (W1.alloc (.cells #[.int .i64 hd] KIE)) W1.heap.size 0 #[.int .i64 hd] KIE (0,0) Array.getElem?_push_size
    |j+1,hj=>cases hj
   have A:Aside ((∀k,u8.ownBlock=some k->w.heap.size<=k)/\x=o.getD hd 0/\(0<=x/\x<=4294967295)/\hd+1<=gk/\Dn w wr (.slice (some ⟨g,0,none⟩) ws.length cap) ws.length h ws (hd+1) o s u8/\Below w.heap.size w W2/\W2.ownsRow w.heap.size KEL 1 (.slice (some ⟨g,0,none⟩) ws.length cap) ws.length ((o.set hd (x / 65536)).map kuC)):=⟨fun k hk'=>by
    rcases I.sit.2 with⟨h1,_⟩|⟨g',cap',cur',h1,h2,_⟩;·rw[h1] at hk';cases hk'
    ·rw[h1] at hk';cases hk';exact h2,hx,hxb,hk,I,b2,o2⟩
   have hsl:s.length<=1000000:=by have:=I.sl;omega
   clear hg1 hg2 hg3 hg4 hg5 hgb hx hxm hxb hk I hown7 hb1 I0 hC h0 h1 hv gr1 o1 s1 b1 gr2 o2 b2;by_cases hbad:(hd:Int)<x % 65536
   ·go_wp2_with fail
    all_goals (
     obtain⟨_,hx,hxb,hk,I,_⟩:=A.out;rw[Exit.noGoto_ret]
     go_ret3
     refine⟨I.bel,.inl ⟨?_,rfl⟩⟩;rw[<- I.eq,L.unpR,<- hx,if_pos hbad])
   ·subst hW1 hW2;have n2':∀j u,[Value.int .i64 (hd:Int)][j]?=some u->((wr.setCell ⟨g,hd,none⟩ (.int .u32 (x / 65536))).alloc (.cells #[.int .i64 hd] KIE)).cell? ((⟨wr.heap.size,0,none⟩:Addr).add j)=some u:=by
     have e:(wr.setCell ⟨g,hd,none⟩ (.int .u32 (x / 65536))).heap.size=wr.heap.size:=by show(wr.heap.modify g _).size=_;rw[Array.size_modify]
     rw[<- e];exact n2
    go_wp2_with (at_builtin;refine wpList_append_own _ rfl _ _ KIL rfl w.heap.size KIE i1 (.int .i64 0) 1 8 Tryz.underlying25 hi hz0 hz1 hz2 rfl (by decide) u8 s.length (s.map (nV .i64)) rfl s2 ⟨wr.heap.size,0,none⟩ 1 1 [.int .i64 (hd:Int)] rfl rfl n2' ?qc3 ?qc4 ?qc5 ?qc6 ?_)
    case qc3=>rfl
    case qc4=>unfold maxLen;omega
    case qc5=>omega
    case qc6=>have:=A.out.2.2.2.2.1.bel.size;omega
    intro v' w3 hown8' hgrow hnil
    go_wp2_with fail
    obtain⟨hbk,hx,hxb,hk,I,b2,o2⟩:=A.out;have hhd:((x % 65536).toNat:Int)=x % 65536:=by omega
    have hne:v'.ownBlock=none\/v'.ownBlock≠some g:=by
     rcases hown8'.2 with⟨h1,_⟩|⟨g',cap',cur',h1,h2,h3,_⟩;·rw[h1];exact .inl rfl
     ·refine .inr fun e=>?_
      rw[h1] at e;have e:g'=g:=NE e;have o3:=o2.kept hgrow (by
       rcases I.ne with h8|h8;·rw[h8];exact .inr (by simp[Value.ownBlock])
       ·exact .inr fun e=>h8 e.symm)
      rcases o3.2 with⟨h4,_⟩|⟨g2,cap2,cur2,h4,h5,h6,_⟩;·cases h4
      ·have e2:g=g2:=by cases h4;rfl
       rw[e,e2,h6] at h3;have:=(Obj.cells.inj (NE h3)).2.1;exact absurd this (by decide)
    have I':Dn w w3 (.slice (some ⟨g,0,none⟩) ws.length cap) ws.length h ws (x % 65536).toNat (o.set hd (x / 65536)) (s++[(hd:Int)]) v':=by
     refine⟨by omega,by rw[OJ];exact I.len,?_,?_,?_,?_,hne,?_,?_⟩
     ·rw[NI,List.length_singleton];have:=I.sl;omega
     ·intro y hy;rcases List.mem_or_eq_of_mem_set hy with hy|rfl
      ·exact I.ok y hy
      ·omega
     ·exact o2.kept hgrow (by
       rcases I.ne with h8|h8;·rw[h8];exact .inr (by simp[Value.ownBlock])
       ·exact .inr fun e=>h8 e.symm)
     ·rw[NI,List.length_singleton,Oz];exact hown8'
     ·exact b2.grown hgrow b2.size hbk
     ·have he:=I.eq;rw[L.unpR,<- hx,if_neg (by omega),JA _ hd _ _ (by omega)] at he;exact he
    go_roundg hd
    case rel=>exact⟨(x % 65536).toNat,o.set hd (x / 65536),s++[(hd:Int)],by rw[hhd],by omega,I'⟩
    case measure=>omega
set_option maxHeartbeats 1000000 in
theorem LC(hrev:Dm 104){W:World->Prop}:Sat KP W 51 ⟨⟨[(0,.c (.sl kTU)),(1,Si)],[]⟩,⟨[(0,.c (.row KEL kTU)),(1,.c (.row KIE (.int .i64))),(2,Si)],[]⟩,fun x=>L.unpackO x.1 x.2.1⟩:=by
 rintro⟨(ws:List Int),(hd:Int),u⟩ y hy C γ vals hCL hCn R;have hCn:C.nl=0:=hCn;have hy:L.unpackO ws hd=some y:=hy;have hsz:vals.size=2:=R.size;have s0:au C γ _ C.w0 (.sl none kTU ws) (vals.getD 0 undef):=R.slot 0 (.v (.c (.sl none kTU ws))) rfl;have s1:vals.getD 1 undef=.int .i64 hd:=R.slot 1 (.v (.c (.int .i64 hd))) rfl;have hsl:=ky.of s0;obtain⟨A,c,hv0,hcap,hx⟩:=hsl;have hsl:ky C.w0 kTU ws (.slice A ws.length c):=⟨A,c,rfl,hcap,hx⟩
 have hv:vals=#[.slice A ws.length c,.int .i64 hd]:=by
  rw[<- hv0,<- s1];apply Array.ext';obtain⟨l⟩:=vals
  match l,hsz with
  |[a,b],_=>rfl
 rw[hv];unfold L.unpackO at hy;by_cases hb:hd<0\/(ws.length:Int)<hd;·rw[if_pos hb] at hy;obtain rfl:=NE hy;refine(LB hb).mono ?_;rintro e w' ⟨rfl,hbl⟩;exact uR R.inv hCn hbl (dw.nil _ _ _ _) (dw.nil _ _ _ _) (fun g c d h=>by cases h)
 ·rw[if_neg hb] at hy;split at hy
  ·rename_i hc;obtain⟨h,rfl⟩:∃h:Nat,hd=(h:Int):=by
    have h0:0<=hd:=Int.not_lt.1 fun h=>hb (.inl h)
    exact⟨hd.toNat,(Int.toNat_of_nonneg h0).symm⟩
   have hok:∀x∈ws,0<=x/\x<=4294967295:=fun x hx=>by
    have:=Oe.1 hc.2 x hx;simpa using this
   refine(JB hrev hsl hc.1 hok (by omega)).mono ?_;rintro e w' ⟨hbl,hr⟩;rw[NU] at hy;rcases hr with⟨he,rfl⟩|⟨r,v7,v8,he,rfl,ho7,ho8,hne⟩;·rw[he] at hy;obtain rfl:=NE hy;exact uR R.inv hCn hbl (dw.nil _ _ _ _) (dw.nil _ _ _ _) (fun g c d h=>by cases h)
   ·rw[he] at hy;obtain rfl:=NE hy;obtain⟨γ1,h1⟩:=dw.of (k:=.u32) ho7;rw[<- List.length_reverse] at ho8;obtain⟨γ2,h2⟩:=dw.of (k:=.i64) ho8;refine uR R.inv hCn hbl h1 h2 fun g c d hg1 hg2=>?_
    have e1:v7=.slice (some ⟨g,0,none⟩) r.1.length c:=by have:=h1.1;rw[hg1] at this;exact this
    have e2:v8=.slice (some ⟨g,0,none⟩) r.2.reverse.length d:=by have:=h2.1;rw[hg2] at this;exact this
    rcases hne with h|h;·rw[e2] at h;cases h
    ·rw[e1,e2] at h;exact h rfl
  ·cases hy
end
end Rv
namespace Rv
open Go Go.RowKit Go.Proofs Go.Lib
noncomputable section
set_option maxRecDepth 1000000
noncomputable abbrev QP:Program:=Tryz.prog
abbrev QSL:TypeId:=53
abbrev QEL:TypeId:=5
theorem BH(n:Nat)(hn:n<=1000)(w:World):Calls QP 102 #[.int .i64 n] w fun e w'=>e=.returned (.int .i64 (((n+4) / 4*4:Nat):Int))/\w'=w:=by
 go_enter Tryz.func102,Tryz.ntmps102
 go_wp2
 go_ret
 refine⟨?_,rfl⟩;show Ending.returned (Value.int .i64 ((1+(n:Int)+4-1) / 4*4))=_;congr 2;omega
theorem MB:∃i,QP.info? QEL=some i/\i.zero=some (.int .u8 0)/\i.size=1/\i.bytes=1:=by
 obtain⟨i,h1,h2,h3,h4⟩:=info_parts (show(QP.info? QEL).map (fun i=>(i.zero,i.size,i.bytes))=some (some (.int .u8 0),1,1) by kernel_rfl);exact⟨i,h1,h2,h3,h4⟩
theorem IK{w:World}{g p:Nat}{base:Nat}(h:w.ownsRow base QEL 1 (.slice (some ⟨g,0,none⟩) p p) p (madeCells (Value.int .u8 0).cells (p*1)).toList) :
  ∃cur:Array Value,w.heap[g]?=some (.cells cur QEL (0,0))/\cur.toList=List.replicate p (.int .u8 0):=by
 rcases h.2 with⟨h1,_⟩|⟨g',cap,cur,h1,h2,h3,h4,h5,h6,h7⟩;·cases h1
 ·cases h1;refine⟨cur,h3,?_⟩;rw[List.take_of_length_le (by rw[Array.length_toList];omega)] at h7;rw[h7];simp only[madeCells,Nat.mul_one,Array.toList_map,Array.toList_range];apply List.ext_getElem
  ·simp
  ·intro j h1 h2;simp only[List.getElem_map,List.getElem_range,List.getElem_replicate];have hj:j % (Value.int .u8 0).cells.size=0:=Nat.mod_one j;rw[hj];rfl
section
variable{L:World->Prop}{nm:List UInt8->Option (Bool×Unit)}(hs:Sat QP L 55 (aj ⟨[(0,Ss)],[]⟩ ⟨[(0,SB)],[]⟩ nm)){s:List UInt8}{w:World}(hL:L w)(hst:nW L w.heap.size)
include hs hL hst in
theorem Mx(hg:nm s=some (false,())):Calls QP 48 #[.string (mkS s)] w fun e w'=>e=.returned (.tuple #[.slice none 0 0,.int .i64 9])/\Below w.heap.size w w':=by
 have hN:=vk hs hg hL hst
 go_enter Tryz.func48,Tryz.ntmps48
 go_wp2_with (go_at_call 55;refine hN.mono ?_;rintro e w1 ⟨rfl,hb⟩)
 go_ret2
 exact⟨rfl,hb⟩
include hs hL hst in
theorem Le(hg:nm s=some (true,()))(hl:s.length<=200):Calls QP 48 #[.string (mkS s)] w fun e w'=>∃v,e=.returned (.tuple #[v,.int .i64 0])/\Below w.heap.size w w' /\
  w'.ownsRow w.heap.size QEL 1 v ((s.length+4) / 4*4) ((.int .u8 s.length::byteCells s++List.replicate ((s.length+4) / 4*4-1-s.length) (.int .u8 0))):=by
 have hN:=vk hs hg hL hst;obtain⟨i0,hi,hz0,hz1,hz2⟩:=MB;obtain⟨p,hp⟩:∃p,p=(s.length+4) / 4*4:=⟨_,rfl⟩
 have hP:∀W,Calls QP 102 #[.int .i64 s.length] W fun e w'=>e=.returned (.int .i64 (p:Int))/\w'=W:=fun W=>by rw[hp];exact BH s.length (by omega) W
 have hp1:s.length+1<=p:=by omega
 have hp2:p<=300:=by omega
 have hp3:¬p=1:=by omega
 have hp4:¬1=p:=by omega
 have hm:(mkS s).size=s.length:=lG s;rw[<- hp];clear hp;obtain⟨v0,hv0⟩:∃v0:Value,v0=.int .u8 (s.length:Int):=⟨_,rfl⟩
 have hsize:(QP.info? QEL).map (·.size)=some 1:=by rw[hi];simp[hz1]
 have hW4:∀(W:World) (g:Nat) (cur:Array Value),W.heap[g]?=some (.cells cur QEL (0,0))->(W.setCell ⟨g,0,none⟩ v0).heap[g]?=some (.cells (cur.setIfInBounds 0 v0) QEL (0,0)):=fun W g cur h=>by simp[World.setCell,Array.getElem?_modify,h]
 go_enter Tryz.func48,Tryz.ntmps48
 go_wp2_with (first
  |(go_at_call 55;refine hN.mono ?_;rintro e w1 ⟨rfl,hb⟩)
  |(go_at_call 102;refine(hP _).mono ?_;rintro e w2 ⟨rfl,rfl⟩)
  |(at_make;refine wpList_make_full _ rfl _ _ QSL rfl w2.heap.size QEL i0 (.int .u8 0) 1 Tryz.underlying53 hi hz0 hz1 .i64 .i64 _ _ p rfl rfl rfl rfl (by rw[hz2];omega) (by unfold maxLen;omega) (NM _) ?_;intro w3 hown hgrow;obtain⟨cur,hg3,hcur⟩:=IK hown;have hsz:cur.size=p:=(by rw[<- Array.length_toList,hcur,Ox]);have hcell:w3.cell? ⟨w2.heap.size,0,none⟩=some (.int .u8 0):=(by rw[cell_of_row w3 _ _ cur QEL (0,0) hg3,<- OL,hcur,List.getElem?_replicate,if_pos (by omega)]);have hfz:w3.frozen? ⟨w2.heap.size,0,none⟩=false:=(by simp[World.frozen?,hg3]);have hcp:=fun ty=>run_copy_row_string (P:=QP) (w3.setCell ⟨w2.heap.size,0,none⟩ v0) QSL 9 ty QEL w2.heap.size 1 (p-1) (p-1) (mkS s) (cur.setIfInBounds 0 v0) QEL Tryz.underlying53 hsize (hW4 _ _ _ hg3) (by rw[hm];omega) (by rw[hm,Array.size_setIfInBounds];omega);rw[hv0] at hcp)
  |(refine wpList_copy_runI _ rfl _ _ QSL 9 rfl _ _ rfl rfl (hcp _) ?_))
 go_ret2
 have hgl:w.heap.size<=w2.heap.size:=hb.size;have hd:(mkS s).data.toList=s:=by simp[mkS]
 have hl2:(byteCells s).length=s.length:=byteCells_length s;have hrows:List.take 1 ((List.replicate p (Value.int .u8 0)).set 0 (Value.int .u8 (s.length:Int)))++(byteCells (mkS s).data.toList++List.drop (1+s.length) ((List.replicate p (Value.int .u8 0)).set 0 (Value.int .u8 (s.length:Int)))) =
   Value.int .u8 (s.length:Int)::(byteCells s++List.replicate (p-1-s.length) (Value.int .u8 0)):=by
  obtain⟨q,rfl⟩:∃q,p=q+1:=⟨p-1,by omega⟩
  rw[hd,List.replicate_succ,List.set_cons_zero,OM 1,List.drop_succ_cons,List.drop_replicate];rfl
 refine⟨_,rfl,?_,?_⟩;·refine((hb.grown hgrow hgl (fun k hk=>by cases hk)).setCell (p:=⟨w2.heap.size,0,none⟩) hgl _).trans ⟨rfl,rfl,rfl,by simp[World.setRow],fun k hk=>setRow_other _ _ _ _ (by omega)⟩
 ·have hW:=hW4 _ _ _ hg3;rw[hv0] at hW;refine⟨by simp only[N9,NI,hl2,Ox];omega,.inr ⟨w2.heap.size,p,_,rfl,hgl,setRow_heap _ _ _ _ _ _ hW,NM _,by unfold maxLen;omega,?_,?_⟩⟩
  ·rw[hrows,List.size_toArray];simp only[N9,NI,hl2,Ox];omega
  ·rw[hrows];exact List.take_of_length_le (by simp only[N9,NI,hl2,Ox];omega)
end
theorem Hw(s:List UInt8):Lib.byteCells s=(s.map fun b=>(b.toNat:Int)).map (nV .u8):=by
 simp[Lib.byteCells,nV]
set_option maxHeartbeats 1000000 in
theorem Ld{W:World->Prop}{nm:List UInt8->Option (Bool×Unit)}(hs:Sat QP W 55 (aj ⟨[(0,Ss)],[]⟩ ⟨[(0,SB)],[]⟩ nm)) :
  Sat QP W 48 (aj ⟨[(0,Ss)],[]⟩ ⟨[(0,.c (.row QEL (.int .u8))),(1,Si)],[]⟩ (fun s=>L.putNameO nm s)):=by
 rintro⟨s,u⟩ y hy C γ vals hCL hCn R;have hCn:C.nl=0:=hCn;have hy:L.putNameO nm s=some y:=hy;unfold L.putNameO at hy;cases hn:nm s with
 |none=>rw[hn] at hy;cases hy
 |some z=>
  obtain⟨b,u'⟩:=z;rw[hn] at hy;have hsz:vals.size=1:=R.size;have s0:vals.getD 0 undef=.string (mkS s):=R.slot 0 (.v (.c (.str s))) rfl;have hv:vals=#[.string (mkS s)]:=by
   rw[<- s0];apply Array.ext';obtain⟨l⟩:=vals
   match l,hsz with
   |[a],_=>rfl
  have hL:W C.w0:=by rw[<- hCL];exact R.inv.laid
  have hst:nW W C.w0.heap.size:=fun a b' ha hb=>by
   rw[<- hCL] at ha⊢;exact R.inv.stable a b' ha fun g hg=>hb g (by
    by_cases h:g<C.w0.heap.size;·exact h
    ·exact absurd (R.inv.new g (by omega)) hg)
  rw[hv];cases b with
  |false=>
   have hy:some (([]:List Int),(9:Int),())=some y:=hy;obtain rfl:=NE hy;refine(Mx hs hL hst hn).mono ?_;rintro e w' ⟨rfl,hb⟩;exact Aw R.inv hCn hb (dw.nil _ _ _ _)
  |true=>
   have hy:(if s.length<=200 then some ((s.length:Int)::((s.map fun b=>(b.toNat:Int))++List.replicate ((s.length+4) / 4*4-1-s.length) 0),(0:Int),()) else none)=some y:=hy;split at hy
   ·rename_i hl;obtain rfl:=NE hy;refine(Le hs hL hst hn hl).mono ?_;rintro e w' ⟨v,rfl,hb,ho⟩;have hcells:Value.int .u8 (s.length:Int)::(Lib.byteCells s++List.replicate ((s.length+4) / 4*4-1-s.length) (.int .u8 0))=((s.length:Int)::((s.map fun b=>(b.toNat:Int))++List.replicate ((s.length+4) / 4*4-1-s.length) 0)).map (nV .u8):=by
     rw[Hw];simp[nV]
    rw[List.cons_append,hcells] at ho;generalize hzs:((s.length:Int)::((s.map fun b=>(b.toNat:Int))++List.replicate ((s.length+4) / 4*4-1-s.length) 0))=zs at ho⊢;have hlen:((s.length:Int)::((s.map fun b=>(b.toNat:Int))++List.replicate ((s.length+4) / 4*4-1-s.length) 0)).length=(s.length+4) / 4*4:=by simp;omega
    rw[hzs] at hlen;rw[<- hlen] at ho;obtain⟨γ',hN⟩:=dw.of ho;exact Aw R.inv hCn hb hN
   ·cases hy
end
end Rv
namespace Rv
open Go Go.RowKit Go.Proofs
noncomputable section
set_option maxRecDepth 100000
noncomputable def P:Program:=Tryz.prog
theorem mixed:P.follows .mixedOrders=true:=by kernel_rfl
abbrev LQ:=Nat->Nat
structure LW (ad:LQ) (w:World):Prop where
 errSyntax:∃te pe,w.cell? ⟨5,0,none⟩=some (.iface te pe)
 errRange:∃te pe,w.cell? ⟨6,0,none⟩=some (.iface te pe)
 pow10:Lib.TabIs P w "internal/strconv.uint64pow10" .u64 Lib.pow10Tab
 maxLen:∃m,w.cell? ⟨0,0,none⟩=some (.int .i64 m)
 kinds:lh w 7 (ad 0) .i64 (kJ L.kindsRow)
 asciiSpace:Lib.TabIs P w "strings.asciiSpace" .u8 Lib.asciiSpaceTab
variable{ad:LQ}
theorem LW.stable{w:World}(h:LW ad w)(a b:World)(ha:LW ad a)(hb:∀g,g<w.heap.size->b.heap[g]?=a.heap[g]?):LW ad b where
 errSyntax:=JO h.errSyntax ha.errSyntax hb
 errRange:=JO h.errRange ha.errRange hb
 pow10:=wW h.pow10 ha.pow10 hb
 maxLen:=M5 h.maxLen ha.maxLen hb
 kinds:=KG h.kinds ha.kinds hb
 asciiSpace:=wW h.asciiSpace ha.asciiSpace hb
namespace strings_IndexByte
noncomputable def sp:Spec:=⟨⟨[(0,.c .str),(1,.c (.int .u8))],[]⟩,⟨[(0,.c (.int .i64))],[]⟩,fun x=>some (L.indexByte x.1 x.2.1,())⟩
theorem enter:aA P 138:=aL (by kernel_rfl)
theorem sat:Sat P (LW ad) 138 sp:=gu (la:=[.str,.int .u8]) (lr:=[.int .i64]) rfl rfl rfl rfl fun x y h w _=>by
 have h:some (L.indexByte x.1 x.2.1,())=some y:=h;obtain rfl:=NE h;refine(Tryz.strings_IndexByte (mkS x.1) x.2.1 w).mono ?_;rintro e w' ⟨rfl,rfl⟩;exact⟨Below.refl _ _,#[_],rfl,rfl,trivial⟩
end strings_IndexByte
namespace strings_Compare
noncomputable def sp:Spec:=⟨⟨[(0,.c .str),(1,.c .str)],[]⟩,⟨[(0,.c (.int .i64))],[]⟩,fun x=>some (L.cmpR x.1 x.2.1,())⟩
theorem enter:aA P 125:=aL (by kernel_rfl)
theorem Fa:∀a b:Str,L.cmpR a b=Lib.compareBytes a b
 |[],[]=>rfl
 |[],_::_=>rfl
 |_::_,[]=>rfl
 |a::r,b::s=>by
  unfold L.cmpR Lib.compareBytes;rw[Fa r s]
theorem sat:Sat P (LW ad) 125 sp:=gu (la:=[.str,.str]) (lr:=[.int .i64]) rfl rfl rfl rfl fun x y h w _=>by
 have h:some (L.cmpR x.1 x.2.1,())=some y:=h;obtain rfl:=NE h;refine(Tryz.strings_Compare (mkS x.1) (mkS x.2.1) w).mono ?_;rintro e w' ⟨rfl,rfl⟩;refine⟨Below.refl _ _,#[_],rfl,?_,trivial⟩;show Value.int .i64 (Lib.compareBytes x.1 x.2.1)=Value.int .i64 (L.cmpR x.1 x.2.1);rw[Fa]
end strings_Compare
namespace strings_CutPrefix
noncomputable def sp:Spec:=⟨⟨[(0,.c .str),(1,.c .str)],[]⟩,⟨[(0,.c .str),(1,.c .bool)],[]⟩,fun x=>some (L.cutRest x.1 x.2.1,L.cutIs x.1 x.2.1,())⟩
theorem enter:aA P 181:=aL (by kernel_rfl)
theorem sat:Sat P (LW ad) 181 sp:=gu (la:=[.str,.str]) (lr:=[.str,.bool]) rfl rfl rfl rfl fun x y h w _=>by
 have h:some (L.cutRest x.1 x.2.1,L.cutIs x.1 x.2.1,())=some y:=h;obtain rfl:=NE h;refine(Tryz.strings_CutPrefix (mkS x.1) (mkS x.2.1) w).mono ?_;rintro e w' ⟨rfl,rfl⟩;exact⟨Below.refl _ _,#[_,_],rfl,rfl,rfl,trivial⟩
end strings_CutPrefix
namespace strings_Contains
noncomputable def sp:Spec:=⟨⟨[(0,.c .str),(1,.c .str)],[]⟩,⟨[(0,.c .bool)],[]⟩,fun x=>L.containsO x.1 x.2.1⟩
theorem enter:aA P 182:=aL (by kernel_rfl)
theorem sat:Sat P (LW ad) 182 sp:=gu (la:=[.str,.str]) (lr:=[.bool]) rfl rfl rfl rfl fun x y h w hw=>by
 have h:L.containsO x.1 x.2.1=some y:=h;unfold L.containsO at h;split at h;·rename_i hs;obtain rfl:=NE h;obtain⟨m,hm⟩:=hw.maxLen;refine(Tryz.strings_Contains (mkS x.1) (mkS x.2.1) m w hs hm).mono ?_;rintro e w' ⟨rfl,rfl⟩;exact⟨Below.refl _ _,#[_],rfl,rfl,trivial⟩
 ·cases h
end strings_Contains
namespace strconv_Itoa
noncomputable def sp:Spec:=⟨⟨[(0,.c (.int .i64))],[]⟩,⟨[(0,.c .str)],[]⟩,fun x=>L.itoaO x.1⟩
theorem enter:aA P 187:=aL (by kernel_rfl)
theorem sat:Sat P (LW ad) 187 sp:=gu (la:=[.int .i64]) (lr:=[.str]) rfl rfl rfl rfl fun x y h w hw=>by
 have h:L.itoaO x.1=some y:=h;unfold L.itoaO at h;split at h;·rename_i hs;obtain rfl:=NE h;refine(Tryz.strconv_Itoa x.1 hs.1 hs.2 w hw.pow10).mono ?_;rintro e w' ⟨rfl,k,os,rfl⟩;exact⟨Lib.below_grow _ _ (NM _) _ _,#[_],rfl,rfl,trivial⟩
 ·cases h
end strconv_Itoa
namespace strconv_toError
noncomputable def sp:Spec:=⟨⟨[(0,.c .str),(1,.c .str),(2,.c (.int .i64)),(3,.c (.int .i64)),(4,.c (.ifo 273 .i64))],[]⟩,⟨[(0,.c .err)],[]⟩,fun x=>L.toErrorO x.1 x.2.1 x.2.2.1 x.2.2.2.1 x.2.2.2.2.1⟩
theorem enter:aA P 218:=aL (by kernel_rfl)
theorem sat:Sat P (LW ad) 218 sp:=gu (la:=[.str,.str,.int .i64,.int .i64,.ifo 273 .i64]) (lr:=[.err]) rfl rfl rfl rfl fun x y h w hw=>by
 have h:L.toErrorO x.1 x.2.1 x.2.2.1 x.2.2.2.1 x.2.2.2.2.1=some y:=h;obtain⟨x1,x2,x3,x4,x5,_⟩:=x;simp only at h;unfold L.toErrorO at h;split at h
 ·rename_i hs;obtain rfl:=NE h;obtain⟨h1,h2⟩:=hs;rcases h2 with rfl|rfl
  ·obtain⟨te,pe,hv⟩:=hw.errRange;refine(Tryz.strconv_toError_range (mkS x1) (mkS x2) x3 x4 _ w h1 hv (.inr ⟨te,pe,rfl⟩)).mono ?_;rintro e w' ⟨N,rfl,_,_,hb⟩;exact⟨hb,#[_],rfl,⟨rfl,fun h=>(by cases h),fun _=>⟨_,_,rfl⟩⟩,trivial⟩
  ·obtain⟨te,pe,hv⟩:=hw.errSyntax;refine(Tryz.strconv_toError_syntax (mkS x1) (mkS x2) x3 x4 _ w h1 hv (.inr ⟨te,pe,rfl⟩)).mono ?_;rintro e w' ⟨N,rfl,_,_,hb⟩;exact⟨hb,#[_],rfl,⟨rfl,fun h=>(by cases h),fun _=>⟨_,_,rfl⟩⟩,trivial⟩
 ·cases h
end strconv_toError
namespace internal_strconv_underscoreOK
noncomputable def sp:Spec:=⟨⟨[(0,.c .str)],[]⟩,⟨[(0,.c .bool)],[]⟩,fun x=>L.underscoreO x.1⟩
theorem enter:aA P 242:=aL (by kernel_rfl)
theorem sat:Sat P (LW ad) 242 sp:=fun x y h=>(by cases h)
end internal_strconv_underscoreOK
theorem DK(b:UInt8):([48,49,50,51,52,53,54,55,56,57]:List UInt8).contains b=L.isDig b:=by
 have h:∀n:Nat,n<256->([48,49,50,51,52,53,54,55,56,57]:List UInt8).contains (UInt8.ofNat n)=L.isDig (UInt8.ofNat n):=by decide +kernel
 have:=h b.toNat (UInt8.toNat_lt b)
 rwa [UInt8.ofNat_toNat] at this
theorem EJ(l:List UInt8):Lib.trimS l [48,49,50,51,52,53,54,55,56,57]=L.trimDig l:=by
 have:(fun b:UInt8=>([48,49,50,51,52,53,54,55,56,57]:List UInt8).contains b)=L.isDig:=funext DK;unfold Lib.trimS Lib.trimLeftS Lib.trimRightS L.trimDig;rw[this]
namespace strings_Trim
noncomputable def sp:Spec:=⟨⟨[(0,.c .str),(1,.c .str)],[]⟩,⟨[(0,.c .str)],[]⟩,fun x=>L.trimO x.1 x.2.1⟩
theorem enter:aA P 106:=aL (by kernel_rfl)
theorem sat:Sat P (LW ad) 106 sp:=gu (la:=[.str,.str]) (lr:=[.str]) rfl rfl rfl rfl fun x y h w hw=>by
 have h:L.trimO x.1 x.2.1=some y:=h;obtain⟨x1,x2,_⟩:=x;simp only at h;unfold L.trimO at h;split at h;·rename_i hs;obtain rfl:=NE h;obtain⟨rfl,h2⟩:=hs;refine(Any.strings_Trim_laid Tryz.lays160 (by kernel_rfl) (mkS x1) (mkS [48,49,50,51,52,53,54,55,56,57]) w (by show x1.length<=_;omega) (by decide) (ascii_of_all (by decide))).mono ?_;rintro e w' ⟨rfl,hb⟩;exact⟨hb,#[_],rfl,by show Value.string _=_;rw[show(mkS x1).data.toList=x1 from rfl,show(mkS [48,49,50,51,52,53,54,55,56,57]).data.toList=[48,49,50,51,52,53,54,55,56,57] from rfl,EJ];rfl,trivial⟩
 ·cases h
end strings_Trim
theorem Iw(s:Str):L.kinds s=kJ L.kindsRow s:=rfl
noncomputable def maps:Nat->TypeId->Option (Cell->Option (Cell×Bool)):=fun g t=>if g=7/\t=311 then some (fun c=>match c with | .str s=>some (.int .i64 (L.kinds s).1,(L.kinds s).2)|_=>none) else none
theorem iY:mV P (LW ad) maps:=by
 intro g t F h;unfold maps at h;split at h
 case isFalse=>cases h
 rename_i hg;obtain⟨rfl,rfl⟩:=hg;obtain rfl:=NE h;refine⟨.map (some (ad 0)),rfl,fun w hw=>⟨hw.kinds.1,BA Tryz.underlying311 hw.kinds,fun kc kv p hks _ hF=>?_⟩⟩;cases kc with
 |str s=>
  obtain rfl:=hks s rfl;have hF:some (Cell.int .i64 (L.kinds s).1,(L.kinds s).2)=some p:=hF;obtain rfl:=NE hF;refine⟨.int .i64 (L.kinds s).1,rfl,fun ok=>?_⟩;rw[Iw];exact BC Tryz.underlying311 Tryz.underlying9 (by kernel_rfl) hw.kinds s ok
 |_=>cases hF
namespace name_Of
noncomputable def sp:Spec:=⟨⟨[(0,.c .str)],[]⟩,⟨[(0,.c (.int .i64)),(1,.c (.int .i64)),(2,.c .bool),(3,.c .bool)],[]⟩,fun x=>L.nameOfO x.1⟩
theorem enter:aA P 140:=aL (by kernel_rfl)
theorem sat:Sat P (LW ad) 140 sp:=gu (la:=[.str]) (lr:=[.int .i64,.int .i64,.bool,.bool]) rfl rfl rfl rfl fun x y h w hw=>by
 have h:L.nameOfO x.1=some y:=h;unfold L.nameOfO at h;obtain rfl:=NE h;obtain⟨m,hm⟩:=hw.maxLen;refine(K5 x.1 m w hm hw.asciiSpace).mono ?_;rintro e w' ⟨rfl,hb⟩;exact⟨hb,#[_,_,_,_],rfl,rfl,rfl,rfl,rfl,trivial⟩
end name_Of
namespace slices_Insert_api_Sym_api_Sym
noncomputable def sp:Spec:=sJ
theorem enter:aA P 126:=aL (by kernel_rfl)
theorem sat:Sat P (LW ad) 126 sp:=KD
end slices_Insert_api_Sym_api_Sym
namespace slices_Clone_uint32_uint32
noncomputable def sp:Spec:=wJ
theorem enter:aA P 101:=aL (by kernel_rfl)
theorem sat:Sat P (LW ad) 101 sp:=L6
end slices_Clone_uint32_uint32
namespace chain_Unpack
noncomputable def sp:Spec:=⟨⟨[(0,.c (.sl (.int .u32))),(1,Si)],[]⟩,⟨[(0,.c (.row KEL (.int .u32))),(1,.c (.row KIE (.int .i64))),(2,Si)],[]⟩,fun x=>L.unpackO x.1 x.2.1⟩
theorem enter:aA P 51:=aL (by kernel_rfl)
theorem sat:Sat P (LW ad) 51 sp:=LC (MG (fun blk off cap zs w h1 h2=>Tryz.slices_Reverse_int blk off cap zs w h1 h2) (fun a cap w=>Tryz.slices_Reverse_int_empty a cap w))
end chain_Unpack
theorem FQ{w:World}{ok:Nat->Prop}{t:Ty}{xs:List t.D}{v:Value}(h:Rd w ok (.sl t) xs [v]):v.oneCell'=true:=h.one v (NZ.2 rfl)
namespace stmt_operands
noncomputable def sp:Spec:=⟨⟨[(0,.c (.int .i64)),(1,.c (.int .i64))],[]⟩,⟨[(0,.c (.sl OT))],[]⟩,fun x=>some (opsR x.1 x.2.1,())⟩
theorem enter:aA P 97:=aL (by kernel_rfl)
theorem sat:Sat P (LW ad) 97 sp:=AJ (la:=[.int .i64,.int .i64]) (lr:=[.sl OT]) rfl rfl rfl rfl fun x y h w vs hw hv=>by
 have h:some (opsR x.1 x.2.1,())=some y:=h;obtain rfl:=NE h
 match vs,hv with
 |[a,b],⟨ha,hb,_⟩=>
  have ha:a=.int .i64 x.1:=ha;have hb:b=.int .i64 x.2.1:=hb;subst ha hb;refine(I4 x.1 x.2.1 w).mono ?_;rintro e w' ⟨hb,v,rfl,hr⟩;exact⟨hb,#[v],rfl,⟨FQ hr,hr⟩,trivial⟩
end stmt_operands
namespace strings_Split
noncomputable def sp:Spec:=⟨⟨[(0,.c .str),(1,.c .str)],[]⟩,⟨[(0,.c (.sl .str))],[]⟩,fun x=>L.splitO x.1 x.2.1⟩
theorem enter:aA P 36:=aL (by kernel_rfl)
theorem sat:Sat P (LW ad) 36 sp:=AJ (la:=[.str,.str]) (lr:=[.sl .str]) rfl rfl rfl rfl fun x y h w vs hw hv=>by
 have h:L.splitO x.1 x.2.1=some y:=h;obtain⟨x1,x2,_⟩:=x;simp only at h;unfold L.splitO at h;split at h
 ·rename_i c _;split at h
  ·rename_i hs;obtain rfl:=NE h;obtain⟨m,hm⟩:=hw.maxLen
   match vs,hv with
   |[a,b],⟨ha,hb,_⟩=>
    have ha:a=.string (mkS x1):=ha;have hb:b=.string (mkS [c]):=hb;subst ha hb;refine(EF x1 c m w hs hm).mono ?_;rintro e w' ⟨hb,v,rfl,hr⟩;exact⟨hb,#[v],rfl,⟨FQ hr,hr⟩,trivial⟩
  ·cases h
 ·cases h
end strings_Split
end
end Rv
