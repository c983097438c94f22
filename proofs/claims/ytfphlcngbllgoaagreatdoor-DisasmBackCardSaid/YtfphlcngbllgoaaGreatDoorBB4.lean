/- Texts put together. -/
import Derived.Test.YtfphlcngbllgoaaGreatDoorBB3
set_option linter.all false
open _root_ renaming Int→U,if_pos→Y,List→Z,if_neg→D,Nat→G,Option→zae,Bool→zai,Unit→zak
open Option renaming some→zaa,none→zaj
open Bool renaming true→zab,false→zad
open Decidable renaming decide→zac
open Go.IntKind renaming i64→zaf,u32→zah,u64→zal
namespace Rv
open Go
section
variable(ws ss:Z U)(ys:Z Sym)
def sK(i:G):Z Ln:=L.linS (4*(i:U)) ys++(if 4*(i:U)∈plR ws ss then[(nmR (4*(i:U)),L.st0 0 [],())] else[])++(if i<ws.length then[([],kI ws ss i,())] else[])
def iD:G->G->Z Ln
 |0,_=>[]
 |k+1,i=>sK ws ss ys i++iD k (i+1)
def dB:Z Ln:=iD ws ss ys (ws.length+1) 0++L.linX ys
def sW(i:G):Z Sym:=ys.filter (λz=>zac (z.2.1=4*(i:U)))++(if 4*(i:U)∈plR ws ss then[(nmR (4*(i:U)),4*(i:U),())] else[])
def pq:G->G->Z Sym
 |0,_=>[]
 |k+1,i=>sW ws ss ys i++pq k (i+1)
end
theorem mr(x:U):∀(ys:Z Sym),∀y∈L.linS x ys,y.2.1.1=0/\∃z∈ys,z.2.1=x/\y=(z.1,L.st0 0 [],())
 |[],y,h=>by cases h
 |s::r,y,h=>by
  rw[L.linS] at h;split at h
  ·rename_i hs;rcases Vg.1 h with rfl|h
   ·exact⟨rfl,s,by simp,hs,rfl⟩
   ·obtain⟨h1,z,hz,h2⟩:=mr x r y h
    grind
  ·obtain⟨h1,z,hz,h2⟩:=mr x r y h
   grind
theorem xX:∀(ys:Z Sym),∀y∈L.linX ys,y.1=[]/\∃z∈ys,y=([],L.st0 10 z.1,())
 |[],y,h=>by cases h
 |s::r,y,h=>by
  rcases Vg.1 h with rfl|h;·grind
  ·obtain⟨h1,z,hz,h2⟩:=xX r y h
   grind
theorem Ey(c:G):∀(ys:Z Sym),(∀z∈ys,z.1≠[])->dA (L.linS (4*(c:U)) ys) c=ys.filter λz=>zac (z.2.1=4*(c:U))
 |[],_=>rfl
 |s::r,h=>by
  have ih:=Ey c r λz hz=>h z (by simp[hz])
  rw[L.linS];by_cases hs:s.2.1=4*(c:U)
  ·rw[Y hs,dA,D (h s (by simp)),List.filter_cons_of_pos (by simpa using hs)];have e0:bN (s.1,L.st0 0 [],())=0:=rfl
   grind
  grind
theorem Ez(c:G):∀(ys:Z Sym),dA (L.linX ys) c=[]
 |[]=>rfl
 |s::r=>by
  rw[L.linX,dA,Y rfl];exact Ez _ r
theorem xE(ws ss:Z U){i:G}(O:Ab ws ss)(hi:i<ws.length):1<=(kI ws ss i).1/\(kI ws ss i).1<=9/\(kI ws ss i).1≠8:=by
 have n9:∀e,1<=(stN 9 e).1/\(stN 9 e).1<=9/\(stN 9 e).1≠8:=λe=>by show(1:U)<=9/\(9:U)<=9/\(9:U)≠8;decide
 unfold kI;rw[D (by omega)];split;·exact n9 _
 ·rcases(ko (O.at hi)).2 with e|⟨k,o,a,b,c,m,u,e,g1,_,_⟩
  ·grind
  ·have hk:=jg g1
   grind
theorem CZ{l:Z Ln}(h:∀y∈l,y.2.1.1=0):(l.map bN).sum=0:=by
 induction l with
 |nil=>rfl
 |cons x l ih=>
  simp_all [bN]
theorem Ue(lb:Z Sym)(q:Z Val)(fr wd:U){l:Z Ln}(h:∀y∈l,y.2.1.1=0)(r:WrT):eT lb q fr wd l r=.ok r:=by
 induction l with
 |nil=>rfl
 |cons x l ih=>
  simp_all [eT,gD]
section
variable{ws ss:Z U}{ys:Z Sym}(O:OkO ws ss ys)
include O
theorem UF:∀z∈ys,z.1≠[]:=λz hz e=>by
 have:=O.nm z hz;rw[e] at this;exact absurd this (by decide)
theorem uG(i:G):∀y∈L.linS (4*(i:U)) ys++(if 4*(i:U)∈plR ws ss then[(nmR (4*(i:U)),L.st0 0 [],())] else[]),y.2.1.1=0:=λy hy=>by
 rcases Vk.1 hy with hy|hy;·grind [mr]
 ·split at hy
  ·rw[Vu.1 hy];rfl
  ·cases hy
theorem Fs{i:G}:((sK ws ss ys i).map bN).sum=if i<ws.length then 1 else 0:=by
 unfold sK;rw[VF,List.sum_append,CZ (uG O i),Nat.zero_add];split
 ·rename_i hi;have:=xE ws ss O.ok hi;show bN _+0=1;unfold bN
  grind
 ·rfl
theorem Rm{i:G}(hi:i<=ws.length):dA (sK ws ss ys i) i=sW ws ss ys i:=by
 have hlw:=O.lw;unfold sK sW;have h1:dA (if i<ws.length then[([],kI ws ss i,())] else[]) (i+((L.linS (4*(i:U)) ys++(if 4*(i:U)∈plR ws ss then[(nmR (4*(i:U)),L.st0 0 [],())] else[])).map bN).sum)=[]:=by
  split;·rw[dA,Y rfl];rfl
  ·rfl
 rw[nC,h1,Vt,nC,Ey i ys (UF O),CZ (l:=L.linS (4*(i:U)) ys) (λy hy=>(mr _ ys y hy).1),Nat.add_zero];congr 1;split
 ·have hne:nmR (4*(i:U))≠[]:=λe=>by grind [rW]
  simp_all [dA]
 ·rfl
theorem EA:∀(k i:G),i+k<=ws.length+1->dA (iD ws ss ys k i) i=pq ws ss ys k i
 |0,_,_=>rfl
 |k+1,i,h=>by
  rw[iD,pq,nC,Rm O (by omega),Fs O];congr 1;by_cases hi:i<ws.length;·rw[Y hi];exact EA k (i+1) (by omega)
  ·obtain rfl:k=0:=by omega
   rfl
theorem xU:dA (dB ws ss ys) 0=pq ws ss ys (ws.length+1) 0:=by
 grind [dB,nC,Ez,EA]
theorem CG:∀(k i:G),i+k=ws.length+1->((iD ws ss ys k i).map bN).sum=ws.length-i
 |0,i,h=>by show 0=_;omega
 |k+1,i,h=>by
  rw[iD,VF,List.sum_append,Fs O,CG k (i+1) (by omega)];split<;>omega
theorem Cg:∀(y:Z Sym),((L.linX y).map bN).sum=0
 |[]=>rfl
 |s::r=>by
  rw[L.linX,Vo,List.sum_cons,Cg r];rfl
theorem Lu:((dB ws ss ys).map bN).sum=ws.length:=by
 grind [dB,CG,Cg]
theorem oG{i:G}{a:Sym}:a∈sW ws ss ys i↔(a∈ys/\a.2.1=4*(i:U))\/(4*(i:U)∈plR ws ss/\a=(nmR (4*(i:U)),4*(i:U),())):=by
 simp_all [sW]
theorem pu{a:Sym}:∀{k i:G},a∈pq ws ss ys k i↔∃j,i<=j/\j<i+k/\a∈sW ws ss ys j
 |0,i=>⟨λh=>(by cases h),λ⟨j,h1,h2,_⟩=>by omega⟩
 |k+1,i=>by
  rw[pq,Vk,pu (k:=k)]
  grind
theorem LM{a b:Sym}(ha:a∈ys)(hb:b∈ys)(e:a.1=b.1):a=b:=by
 have h1:=xJ O.srt (s:=a.1) (v:=a.2.1) (by exact ha);have h2:=xJ O.srt (s:=b.1) (v:=b.2.1) (by exact hb)
 grind
theorem AR{a:Sym}(ha:a∈ys){k:G}(hk:k<=1024):a.1≠nmR (4*(k:U)):=λe=>by
 have h1:=O.nm a ha;have h2:=(rW hk).2.2;unfold bD at h1;simp only[Va] at h1;have h3:=h1.1.1.2;rw[e,h2] at h3;exact absurd h3 (by decide)
theorem MR{i j:G}(hij:i≠j)(hi:i<=ws.length)(hj:j<=ws.length){a b:Sym}(ha:a∈sW ws ss ys i)(hb:b∈sW ws ss ys j):a.1≠b.1:=by
 have hlw:=O.lw;rcases(oG O).1 ha with⟨h1,h2⟩|⟨_,rfl⟩
 ·rcases(oG O).1 hb with⟨h3,h4⟩|⟨_,rfl⟩
  ·grind [LM]
  grind [AR]
 ·rcases(oG O).1 hb with⟨h3,h4⟩|⟨_,rfl⟩
  ·grind [AR]
  ·exact λe=>hij (Tt (by omega) (by omega) e)
theorem FN:∀(k i:G),i+k<=ws.length+1->(pq ws ss ys k i).Pairwise λa b=>a.1≠b.1
 |0,_,_=>List.Pairwise.nil
 |k+1,i,h=>by
  have hlw:=O.lw;rw[pq,List.pairwise_append];refine⟨?_,FN k (i+1) (by omega),λa ha b hb=>?_⟩
  ·unfold sW;rw[List.pairwise_append];refine⟨?_,?_,λa ha b hb=>?_⟩
   ·refine List.Pairwise.sublist List.filter_sublist ?_;exact O.srt.imp λ{a b} hab e=>by grind [lY]
   ·split
    ·grind
    simp_all
   grind [AR]
  ·obtain⟨j,h1,h2,h3⟩:=(pu O).1 hb;exact MR O (by omega) (by omega) (by omega) ha h3
theorem zk:(iI (dB ws ss ys)).Nodup:=by
 grind [oV,xU,FN]
theorem Uu:IU ws ss ys (dA (dB ws ss ys) 0):=by
 have hn:((dA (dB ws ss ys) 0).map (·.1)).Nodup:=by rw[oV];exact zk O
 refine⟨λx hx=>?_,λz hz=>?_⟩;·refine Ar hn ?_;obtain⟨k,rfl,hk⟩:=Mc O hx;rw[xU O];exact(pu O).2 ⟨k,Nat.zero_le _,by omega,(oG O).2 (.inr ⟨hx,rfl⟩)⟩
 ·refine Ar hn ?_;obtain⟨h1,h2,h3⟩:=O.sat_ z hz;rw[xU O];exact(pu O).2 ⟨(z.2.1 / 4).toNat,Nat.zero_le _,by omega,(oG O).2 (.inl ⟨hz,by grind⟩)⟩
theorem TV:ss.Pairwise (· < ·):=by
 rw[List.pairwise_iff_getElem];intro i j hi hj hij;have:=O.lt i j hij hj
 grind
omit O in
theorem BN(i:U):∀{l:Z U},l.Pairwise (· < ·)->l.filter (λs=>zac (s<i+1))=l.filter (λs=>zac (s<i))++(if i∈l then[i] else[])
 |[],_=>by simp
 |s::r,h=>by
  have h':=List.pairwise_cons.1 h;have ih:=BN i h'.2;by_cases h1:s<i;·grind
  ·have hr:∀t∈r,¬t<i+1:=λt ht=>by grind
   have e1:r.filter (λs=>zac (s<i+1))=[]:=List.filter_eq_nil_iff.2 λt ht=>by grind
   grind
def atW(ws ss:Z U)(i:G):WrT:=(ws.take i,ss.filter (λs=>zac (s<(i:U))),[])
theorem UC{lb:Z Sym}(B:IU ws ss ys lb)(q:Z Val)(fr:U){i:G}(hi:i<=ws.length):eT lb q fr (ws.length:U) (sK ws ss ys i) (atW ws ss i)=.ok (atW ws ss (i+1)):=by
 unfold sK;rw[mR,Ue lb q fr _ (uG O i)];dsimp only;have hf:=BN (i:U) (TV O);by_cases h:i<ws.length
 ·have hk:=xE ws ss O.ok h;rw[Y h,eT];unfold gD;dsimp only;have hl:(atW ws ss i).1.length=i:=by grind [atW]
  rw[D (by omega),D (by omega),hl,Na O B h q fr];show Except.ok (kR (atW ws ss i) (ws.getD i 0) (zac ((i:U)∈ss)))=_;have e1:ws.take i++[ws.getD i 0]=ws.take (i+1):=by
   simp_all
  unfold kR;rw[hl];unfold atW
  grind
 ·obtain rfl:i=ws.length:=by omega
  have hm:((ws.length:G):U) ∉ ss:=λh=>by have:=(O.site h).1;omega
  rw[D h];show Except.ok (atW ws ss ws.length)=_;simp_all [atW,List.take_of_length_le]
theorem MI{lb:Z Sym}(B:IU ws ss ys lb)(q:Z Val)(fr:U):∀(k i:G),i+k=ws.length+1->eT lb q fr (ws.length:U) (iD ws ss ys k i) (atW ws ss i)=.ok (atW ws ss (ws.length+1))
 |0,i,h=>by
  obtain rfl:i=ws.length+1:=by omega
  rfl
 |k+1,i,h=>by
  rw[iD,mR,UC O B q fr (by omega)];exact MI B q fr k (i+1) (by omega)
theorem Qw:atW ws ss (ws.length+1)=(ws,ss,[]):=by
 unfold atW;rw[List.take_of_length_le (by omega),List.filter_eq_self.2];intro s hs;have:=(O.site hs).1;simp;omega
theorem Lx{lb:Z Sym}(q:Z Val)(fr wd:U):∀(y2 y1:Z Sym),bS (y1++y2)->(∀z∈y2,bD z.1=zab/\bB z.1 lb=zaa z.2.1)->eT lb q fr wd (L.linX y2) (ws,ss,y1)=.ok (ws,ss,y1++y2)
 |[],y1,_,_=>by rw[Vt];rfl
 |s::r,y1,hs,hf=>by
  obtain⟨h1,h2⟩:=hf s (by simp);have hk:kS y1 s.1=y1.length:=Js (λt ht=>by
   have hp:=(List.pairwise_append.1 hs).2.2 (y1.getD t zSy) (zw ht) s (by simp);exact hp) (U7 _) λh=>absurd h (by omega)
  have h3:nQ y1 s.1=zad:=by
   grind [nQ]
  have h4:pO y1 (s.1,s.2.1,())=y1++[s]:=by
   grind [pO]
  rw[L.linX,eT];unfold gD;have e10:(([],L.st0 10 s.1,()):Ln).2.1.1=10:=rfl;have en:(([],L.st0 10 s.1,()):Ln).2.1.2.2.2.2.2.2.2.1=s.1:=rfl;rw[D (by grind),Y e10,en];unfold lh;dsimp only;rw[h1,h2,h3,D (by decide),D (by simp),D (by decide)];dsimp only;have h5:(zaa s.2.1:zae U).getD 0=s.2.1:=rfl;rw[h5,h4];have:=Lx q fr wd r (y1++[s]) (by grind) λz hz=>hf z (by simp[hz])
  grind
theorem DY:DX (dB ws ss ys)=(ws,ss,ys,0,0,()):=by
 have hlw:=O.lw;have hly:=O.ly;have B:=Uu O;have hsz:=Lu O;have h8:∀x∈dB ws ss ys,x.2.1.1≠8:=by
  have hsec:∀(k i:G),i+k<=ws.length+1->∀x∈iD ws ss ys k i,x.2.1.1≠8:=by
   intro k
   induction k with
   |zero=>intro i _ x hx;cases hx
   |succ k ih=>
    intro i h x hx;rcases Vk.1 hx with hx|hx
    ·rcases Vk.1 hx with hx|hx
     ·grind [uG]
     ·split at hx
      ·rename_i hi;rw[Vu.1 hx];exact(xE ws ss O.ok hi).2.2
      ·cases hx
    grind
  intro x hx;rcases Vk.1 hx with hx|hx;·grind
  ·obtain⟨_,z,_,rfl⟩:=xX ys x hx;show(10:U)≠8;decide
 have hload:dE (dA (dB ws ss ys) 0) (dB ws ss ys) 0 []=.ok []:=zq _ _ 0 [] h8;have hp:=Gw (dB ws ss ys) (zk O) hload (by grind);rw[hsz] at hp;have e0:((ws.length+([]:Z Val).length:G):U)=(ws.length:U):=rfl;rw[e0] at hp;have hC:eT (dA (dB ws ss ys) 0) [] ((4*ws.length:G):U) (ws.length:U) (dB ws ss ys) ([],[],[])=.ok (ws,ss,ys):=by
  have h0:atW ws ss 0=([],[],[]):=by
   unfold atW;rw[VW,List.filter_eq_nil_iff.2];intro s hs;have:=(O.site hs).1;simp;omega
  unfold dB at B⊢;rw[mR,<- h0,MI O B _ _ _ 0 (by omega),Qw O];exact Lx O _ _ _ ys [] O.srt λz hz=>⟨O.nm z hz,B.nm z hz⟩
 unfold DX O4;rw[hp];dsimp only;rw[D (by decide),EE _ _ _ _ (nN (dB ws ss ys) 0) _ 0 ([],[],[]) _ (by grind) hC];show Am (ws,ss,ys)=_;simp_all [Am,D]
end
end Rv
namespace Rv
open Go
inductive Od
 |A|B|C|E|Q|N
def Od.rd:Od->Fn
 | .A=>K.rdA | .B=>K.rdB | .C=>K.rdC | .E=>K.rdE | .Q=>K.rdQ | .N=>K.rdN
def Od.wr:Od->Fn
 | .A=>K.wrA | .B=>K.wrB | .C=>K.wrC | .E=>K.wrE | .Q=>K.wrQ | .N=>K.wrN
def odL(k o:U):Z Od:=
 if k=1 then(if o=0 then[.A,.C] else[.A,.B,.C]) else
 if k=2 then(if o=0 then[.A,.E] else[.A,.B,.E]) else
 if k=3\/k=4 then[.A] else
 if k=5 then[.A,.B,.E] else
 if k=6 then[.C] else
 if k=7\/k=9 then[.E] else
 if k=8 then[.A,.Q] else
 if k=10 then[.N] else[]
abbrev odF(d:Od):Fn×Fn×zak:=(d.rd,d.wr,())
theorem wE(k o:U):L.opsR k o=(odL k o).map odF:=by
 unfold L.opsR odL;split;·split<;>rfl
 ·split
  ·split<;>rfl
  ·repeat' split
   all_goals rfl
theorem wD(k o:U):(odL k o).length<=3:=by
 grind [odL]
theorem fA{o:U}(h:0<o):odL 1 o=[.A,.B,.C]:=by unfold odL;grind
theorem wC{o:U}(h:0<o):odL 2 o=[.A,.B,.E]:=by unfold odL;grind
theorem zQ(n:G):∀(m:G) (s:Str),s.length<m->s.length<=1000000->Zcm.l1 n m s 32=zaa (s.dropWhile (· == 32),())
 |0,_,h,_=>by omega
 |m+1,[],_,_=>by rw[Zcm.l1];rfl
 |m+1,b::s,h,hs=>by
  rw[Zcm.l1];simp only[dt];have hb:bt (b::s) 0=(b.toNat:U):=rfl;have h32:((b.toNat:U)=32)=(b=32):=kV b 32 (by omega);rw[Y (by simp),Y (by simp),hb,List.dropWhile_cons];by_cases e:b=32
  ·rw[Y (h32.mpr e),Y (by simp;omega),Y (by simp[e])];have:((b::s).take ((((b::s).length:G):U)).toNat).drop ((1:U)).toNat=s:=by
    simp_all
   rw[this];exact zQ n m s (by grind) (by grind)
  grind
theorem FT(s:Str)(hs:s.length<=1000000):Zdd.g s [32]=zaa (s.dropWhile (· == 32),()):=by
 unfold Zdd.g Zdd.f;simp only[dt,df];by_cases h:s=[]
 ·subst h;rfl
 ·rw[Y h,D (by decide),Y (by decide),Y (by decide),Y (by decide),Y (by decide)];have hb:bt [32] 0=32:=rfl
  grind [Zcm.g,Zcm.f,zQ]
theorem Li(n:U)(h:0<=n):∃c r,Lib.itoa n=c::r/\c≠32:=by
 obtain⟨m,rfl⟩:∃m:G,n=m:=⟨n.toNat,by omega⟩
 have hi:Lib.itoa (m:U)=Lib.decDigits m:=by simp_all [Lib.itoa]
 obtain⟨h1,h2⟩:=wm m;rw[hi];cases hd:Lib.decDigits m with
 |nil=>grind
 |cons c r=>
  refine⟨c,r,rfl,?_⟩;rintro rfl
  grind [isD]
theorem KG(b:zai){s:Str}(h:∃c r,s=c::r/\c≠32):∃c r,brkT b s=c::r/\c≠32:=by
 unfold brkT
 grind
theorem FV:∀t:Tr,t.ok->∃c r,t.txt=c::r/\c≠32
 | .num n,h=>Li n h.1
 | .nam s,h=>by
  have h:ax s=zab:=h;cases s with
  |nil=>exact absurd h (by decide)
  |cons c r=>
   refine⟨c,r,rfl,?_⟩;rintro rfl;unfold ax at h;simp only[Va,VO] at h;exact absurd h.1.2.1 (by decide)
 | .neg x,_=>⟨_,_,rfl,by decide⟩
 | .br x,_=>⟨_,_,rfl,by decide⟩
 | .bin o a b,h=>by
  obtain⟨c,r,h1,h2⟩:=KG (zac (a.tight<o.tight)) (FV a h.1);exact⟨c,_,by show brkT _ _++_=_;rw[h1];rfl,h2⟩
def et:zae Tr->Str
 |none=>[]
 |some t=>t.txt
def wtx(s:Sm)(t:zae Tr):Od->Str
 | .A=>rn s.a | .B=>rn s.b | .C=>rn s.c | .E=>et t | .Q=>61::32::et t | .N=>s.nm
def pW(s:Sm)(t:zae Tr):Od->Prop
 | .A=>rg s.a | .B=>rg s.b | .C=>rg s.c | .E=>∃x,t=zaa x/\iV x/\s.e=x.post | .Q=>∃x,t=zaa x/\iV x/\s.e=x.post | .N=>bD s.nm=zab
theorem nz{s:Sm}{t:zae Tr}(h:GoodS s t):∀d∈odL s.k s.o,pW s t d:=by
 cases h with
 |none=>grind [odL]
 |ins0 h hk=>
  cases h with
  |reg h1 h2 ha hb hc hu=>
   intro d hd;dsimp only at hd;rw[fA h1] at hd;simp only[Vg,VR,or_false] at hd;rcases hd with rfl|rfl|rfl;·exact ha
   ·exact hb
   ·exact hc
  |mov ha hc=>
   intro d hd;simp only[odL,if_true,Vg,VR,or_false] at hd;rcases hd with rfl|rfl;·exact ha
   ·exact hc
  |hi ha=>intro d hd;simp[odL] at hd;subst hd;exact ha
  |fl ha=>intro d hd;simp[odL] at hd;subst hd;exact ha
  |br ho hc=>intro d hd;simp[odL] at hd;subst hd;exact hc
  |imm=>simp at hk
  |movi=>simp at hk
  |mem=>simp at hk
  |jmp=>simp at hk
 |ins1 h hk ht=>
  cases h with
  |imm h1 h2 ha hb hu=>
   intro d hd;dsimp only at hd;rw[wC h1] at hd;simp only[Vg,VR,or_false] at hd;rcases hd with rfl|rfl|rfl;·exact ha
   ·exact hb
   ·exact⟨_,rfl,ht,rfl⟩
  |movi ha=>
   intro d hd;simp[odL] at hd;rcases hd with rfl|rfl;·exact ha
   ·exact⟨_,rfl,ht,rfl⟩
  |mem h1 h2 ha hb=>
   intro d hd;simp[odL] at hd;rcases hd with rfl|rfl|rfl;·exact ha
   ·exact hb
   ·exact⟨_,rfl,ht,rfl⟩
  |jmp ho=>intro d hd;simp[odL] at hd;subst hd;exact⟨_,rfl,ht,rfl⟩
  |reg=>simp at hk
  |mov=>simp at hk
  |hi=>simp at hk
  |fl=>simp at hk
  |br=>simp at hk
 |load ha ht=>
  intro d hd;simp[odL] at hd;rcases hd with rfl|rfl;·exact ha
  ·exact⟨_,rfl,ht,rfl⟩
 |word ht=>intro d hd;simp[odL] at hd;subst hd;exact⟨_,rfl,ht,rfl⟩
 |exp hn=>intro d hd;simp[odL] at hd;subst hd;exact hn
theorem yx(k:G):(gz k).length<=3:=by grind [gz]
theorem IM{s:Sm}{t:zae Tr}{d:Od}(h:pW s t d):(wtx s t d).length<=1300:=by
 have r:∀a:U,(rn a).length<=1300:=λa=>Vv (yx _) (by decide)
 have e:(∃x,t=zaa x/\iV x/\s.e=x.post)->(et t).length<=1280:=by
  rintro⟨x,rfl,hx,_⟩;have:=gW x hx.1 hx.2.1;have:=hx.2.2.2;show x.txt.length<=1280;omega
 cases d with
 |A=>exact r _
 |B=>exact r _
 |C=>exact r _
 |E=>exact Vv (e h) (by decide)
 |Q=>have:=e h;show(61::32::et t).length<=1300;simp;omega
 |N=>
  have h:bD s.nm=zab:=h;unfold bD at h;simp only[Va,Vf] at h;show s.nm.length<=1300
  grind
theorem H5{s:Sm}{t:zae Tr}(h:∃x,t=zaa x/\iV x/\s.e=x.post)(q:Str)(hq:q=[]\/q=[61]) :
  Zdu.g s.k s.o s.a s.b s.c s.u s.e s.nm q=zaa (if q=[] then et t else 61::32::et t,()):=by
 obtain⟨x,rfl,hx,he⟩:=h;have hl:=gW x hx.1 hx.2.1;have hl2:=hx.2.2.2;unfold Zdu.g Zdu.f;rw[he,KY hx.1 hx.2.1 hx.2.2.1 hx.2.2.2,U4];dsimp only;obtain⟨c,r,h1,h2⟩:=FV x hx.1;rcases hq with rfl|rfl;·rw[Y (by decide),Y (by simp;omega),FT _ (by simp;omega),U4,Y rfl];show zaa ((([]++[32])++x.txt).dropWhile (· == 32),())=zaa (x.txt,());simp_all
 ·rw[Y (by decide),Y (by simp;omega),FT _ (by simp;omega),U4,D (by decide)];rfl
theorem Kq(s:Sm)(t:zae Tr)(out:Z Str)(mn:Str)(n:G)(ods:Z Od)(ho:∀d∈ods,pW s t d)(hl:ods.length<=3):∀(m i:G) (l:Z Str),i<=ods.length->ods.length-i<m->l.length=i ->
  Zad.l12 n m out mn l (ods.map odF) (ods.length:U) (i:U) s.k s.o s.a s.b s.c s.u s.e s.nm=Zad.l12 n 1 out mn (l++(ods.drop i).map (wtx s t)) (ods.map odF) (ods.length:U) (ods.length:U) s.k s.o s.a s.b s.c s.u s.e s.nm:=by
 intro m
 induction m with
 |zero=>grind
 |succ m ih=>
  intro i l hi hm hli;by_cases h:i<ods.length
  ·have hd:ods.drop i=ods[i]::ods.drop (i+1):=Vs h;have hg:(ods.map odF).getD ((i:U)).toNat (((0,[]):Fn),(((0,[]):Fn),()))=odF ods[i]:=by
    grind
   have hok:=ho ods[i] (VI h);have next:=λx:Str=>ih (i+1) (l++[x]) (by omega) (by omega) (by simp[hli])
   rw[Zad.l12,Y (by simp;omega),Y (by simp;omega),hg,hd,Vo];have W1:zaf.wrap ((i:U)+1)=((i+1:G):U):=by grind [w64]
   have fin:∀x:Str,(if(l.length+([x]:Z Str).length)*16<=140737488355328/\0<16/\0<1 then(Zad.j15 n (Zad.l12 n m) out mn (l++([x]:Z Str)) (ods.map odF) (ods.length:U) (i:U) s.k s.o s.a s.b s.c s.u s.e s.nm) else zaj) =
     Zad.l12 n 1 out mn (l++x::(ods.drop (i+1)).map (wtx s t)) (ods.map odF) (ods.length:U) (ods.length:U) s.k s.o s.a s.b s.c s.u s.e s.nm:=λx=>by
    rw[Y (by simp;omega)]
    grind [Zad.j15]
   generalize hx:ods[i]=d at hok⊢;cases d with
   |A=>
    show(if K.wrA=K.wrA then _ else _)=_;rw[Y rfl];unfold Zcb.g Zcb.f Zdr.g Zdr.f;rw[Y rfl,U4];dsimp only;rw[Dz hok,U4,U4];exact fin _
   |B=>
    show(if K.wrB=K.wrA then _ else if K.wrB=K.wrB then _ else _)=_;rw[D (by decide),Y rfl];unfold Zcb.g Zcb.f Zds.g Zds.f;rw[D (by decide),Y rfl,U4];dsimp only;rw[Dz hok,U4,U4];exact fin _
   |C=>
    show(if K.wrC=K.wrA then _ else if K.wrC=K.wrB then _ else if K.wrC=K.wrC then _ else _)=_;rw[D (by decide),D (by decide),Y rfl];unfold Zcb.g Zcb.f Zdt.g Zdt.f;rw[D (by decide),D (by decide),Y rfl,U4];dsimp only;rw[Dz hok,U4,U4];exact fin _
   |E=>
    show(if K.wrE=K.wrA then _ else if K.wrE=K.wrB then _ else if K.wrE=K.wrC then _ else if K.wrE=K.wrE then _ else _)=_;rw[D (by decide),D (by decide),D (by decide),Y rfl,H5 hok [] (.inl rfl),U4];exact fin _
   |Q=>
    show(if K.wrQ=K.wrA then _ else if K.wrQ=K.wrB then _ else if K.wrQ=K.wrC then _ else if K.wrQ=K.wrE then _ else if K.wrQ=K.wrQ then _ else _)=_;rw[D (by decide),D (by decide),D (by decide),D (by decide),Y rfl,H5 hok [61] (.inr rfl),U4];exact fin _
   |N=>
    show(if K.wrN=K.wrA then _ else if K.wrN=K.wrB then _ else if K.wrN=K.wrC then _ else if K.wrN=K.wrE then _ else if K.wrN=K.wrQ then _ else if K.wrN=K.wrN then _ else _)=_;rw[D (by decide),D (by decide),D (by decide),D (by decide),D (by decide),Y rfl];unfold Zfb.g Zfb.f;rw[U4];exact fin _
  ·have hi':i=ods.length:=by omega
   simp_all [Zad.l12]
def hk(k:U):U:=if k=2 then 1 else if k=6 then 7 else k
def mtx(s:Sm):Str:=(if s.k=9\/s.k=10 then[46] else[])++L.mnemR (hk s.k) s.o s.u
def stx(s:Sm)(t:zae Tr):Str:=if s.k=0 then[] else mtx s++32::L.sjoinR [44,32] ((odL s.k s.o).map (wtx s t))
def ltx(lb:Str)(s:Sm)(t:zae Tr):Str:=if lb=[] then stx s t else lb++58::(if s.k=0 then[] else 32::stx s t)
theorem Tu:∀e∈L.nameTbl,e.2.2.length<=6:=by decide +kernel
theorem oh(k o:U)(u:zai):(L.mnemR k o u).length<=6:=by
 by_cases h:L.mnemR k o u=[]
 ·rw[h];simp
 ·obtain⟨e,he,_,h2⟩:=xY h
  grind [Tu]
theorem Ej(sep:Str)(b:G):∀(l:Z Str),(∀x∈l,x.length<=b)->((l.map (sep++·)).flatten).length<=(b+sep.length)*l.length
 |[],_=>by simp
 |y::r,h=>by
  have h1:=h y (by simp);have h2:=Ej sep b r λz hz=>h z (by simp[hz])
  rw[Vo,List.flatten_cons,Vb,Vb,Vn,Nat.mul_add,Nat.mul_one];omega
theorem vK(sep:Str)(b:G)(l:Z Str)(h:∀x∈l,x.length<=b):(L.sjoinR sep l).length<=(b+sep.length)*l.length:=by
 cases l with
 |nil=>simp[L.sjoinR]
 |cons x r=>
  have h1:=h x (by simp);have h2:=Ej sep b r λz hz=>h z (by simp[hz])
  rw[show L.sjoinR sep (x::r)=x++(r.map (sep++·)).flatten from rfl,Vb,Vn,Nat.mul_add,Nat.mul_one];omega
theorem Oh{k:U}(h:0<=k)(h2:k<=10):-9223372036854775808<=hk k/\hk k<=9223372036854775807:=by grind [hk]
theorem Oe(k:U):Zei.g k=zaa (hk k,()):=by
 unfold Zei.g Zei.f hk
 grind
theorem BJ(k:U):Zdc.g k=zaa (zac (k=9\/k=10),()):=by
 unfold Zdc.g Zdc.f
 grind
abbrev Me(lb:Str)(s:Sm):zae (Str×U×zak):=Zad.g lb s.k s.o s.a s.b s.c s.u s.e s.nm
theorem He{s:Sm}{t:zae Tr}(h:GoodS s t):0<=s.k/\s.k<=10/\0<=s.o/\s.o<=15:=by
 cases h with
 |none=>decide
 |ins0 h hk=>obtain⟨h1,h2,h3,h4⟩:=jg h;grind
 |ins1 h hk ht=>obtain⟨h1,h2,h3,h4⟩:=jg h;grind
 |load ha ht=>grind
 |word ht=>grind
 |exp hn=>grind
theorem JP{s:Sm}{t:zae Tr}(h:GoodS s t){lb:Str}(hlb:lb=[]\/ax lb=zab):Me lb s=zaa (ltx lb s t,0,()):=by
 have hod:=nz h;have hkr:=He h;have hl3:=wD s.k s.o;have hll:lb.length<=12:=by
  rcases hlb with rfl|hlb;·simp
  simp_all [ax]
 have hbody:(L.sjoinR [44,32] ((odL s.k s.o).map (wtx s t))).length<=4000:=by
  have:=vK [44,32] 1300 ((odL s.k s.o).map (wtx s t)) (λx hx=>by
   obtain⟨d,hd,rfl⟩:=Vr.1 hx;exact IM (hod d hd))
  grind
 have hmt:(mtx s).length<=7:=by
  grind [mtx,oh]
 have hm:L.mnemO (hk s.k) s.o s.u=zaa (L.mnemR (hk s.k) s.o s.u,()):=OO s.u (Oh hkr.1 hkr.2.1) (by omega);have J17:∀(n:G) (out:Z Str),(L.sjoinR [32] out).length<=10000->out.length<=10->Zad.j17 n out=zaa (L.sjoinR [32] out,0,()):=λn out h1 h2=>by
  unfold Zad.j17 L.sjoinO
  grind
 have J10:∀(n:G) (out:Z Str),10<=n->out.length<=1->(∀x∈out,x.length<=13)->Zad.j10 n out (mtx s) s.k s.o s.a s.b s.c s.u s.e s.nm=zaa (L.sjoinR [32] (out++[mtx s,L.sjoinR [44,32] ((odL s.k s.o).map (wtx s t))]),0,()):=λn out hn ho hx=>by
  unfold Zad.j10;have hlen:((L.opsR s.k s.o).length:U)=((odL s.k s.o).length:U):=by rw[wE,VL]
  rw[hlen,wE];have:=Kq s t out (mtx s) n (odL s.k s.o) hod hl3 n 0 [] (by omega) (by omega) rfl;rw[show((0:G):U)=0 from rfl] at this;rw[this,VB,Vw,Zad.l12];simp only[dt];rw[D (by omega)];unfold L.sjoinO;rw[Y ⟨by omega,by grind⟩,U4];dsimp only;rw[Y (by simp;omega)];refine J17 n _ ?_ (by simp;omega);generalize L.sjoinR [44,32] ((odL s.k s.o).map (wtx s t))=B at hbody;generalize mtx s=M at hmt
  match out,ho with
  |[],_=>simp[L.sjoinR];omega
  |[x],_=>grind [L.sjoinR]
 have J6:∀(n:G) (out:Z Str),10<=n->out.length<=1->(∀x∈out,x.length<=13)->Zad.j6 n out s.k s.o s.a s.b s.c s.u s.e s.nm=zaa (L.sjoinR [32] (out++(if s.k=0 then[] else[mtx s,L.sjoinR [44,32] ((odL s.k s.o).map (wtx s t))])),0,()):=λn out hn ho hx=>by
  unfold Zad.j6;simp only[dt,Oe,U4,hm,BJ];by_cases h0:s.k=0
  ·rw[D (by simp[h0]),Y h0,Vt];refine J17 n out ?_ (by omega)
   match out,ho with
   |[],_=>simp[L.sjoinR]
   |[x],_=>grind [L.sjoinR]
  ·rw[Y h0,D h0,<- J10 n out hn ho hx];unfold mtx;by_cases hd:s.k=9\/s.k=10
   ·rw[Y hd,Y (by grind [oh]),Y hd]
   grind
 have J3:∀n,10<=n->Zad.j3 n lb s.k s.o s.a s.b s.c s.u s.e s.nm=zaa (ltx lb s t,0,()):=λn hn=>by
  unfold Zad.j3 ltx stx;by_cases hl:lb=[]
  ·subst hl;rw[D (by decide),J6 n [] hn (by simp) (by simp),Y rfl];by_cases h0:s.k=0
   ·rw[Y h0,Y h0];rfl
   simp_all [L.sjoinR]
  ·rw[Y (by simp[hl]),Y (by simp;omega),Y (by simp),J6 n _ hn (by simp) (by simp;omega),D hl];by_cases h0:s.k=0
   ·simp_all [L.sjoinR]
   simp_all [L.sjoinR]
 unfold Me Zad.g;have hN:10<=1000+lb.length+s.k.toNat+s.o.toNat+s.a.toNat+s.b.toNat+s.c.toNat+s.e.length+s.nm.length:=by omega
 generalize 1000+lb.length+s.k.toNat+s.o.toNat+s.a.toNat+s.b.toNat+s.c.toNat+s.e.length+s.nm.length=n at hN;unfold Zad.f;have hmay:Zal.g s.k s.o s.a s.b s.c s.u s.e s.nm=zaa (zab,()):=OL h;rw[hmay,J3 n hN,nT]
 grind
end Rv
namespace Rv
open Go
theorem LC(c:UInt8)(hc:c∈([40,41,42,43,45,44,58,61]:Str))(k:U)(r:Str):aH k (c::r)=jY [(3,k,[c],0,())] (aH (k+1) r):=by
 have step:isL c=zad/\isD c=zad/\c≠46/\isS c=zab/\c≠59/\c≠32/\c≠9:=by
  simp only[Vg,VR,or_false] at hc;rcases hc with rfl|rfl|rfl|rfl|rfl|rfl|rfl|rfl<;>decide
 obtain⟨h1,h2,h3,h4,h5,h6,h7⟩:=step;rw[eX,D h5,D (λh=>h.elim h6 h7)];unfold jc;rw[D (by simp[h1]),D (by simp[h2]),D (λh=>h3 h.1),Y h4];dsimp only;rw[show k+((0:G):U)+(([c]:Str).length:U)=k+1 by simp,show 0+([c]:Str).length-1=0 from rfl,VB];cases aH (k+1) r<;>rfl
def bU(s:Str)(b:Z Bt):Prop:=∀k:U,∃ts:Z aj,ts.map bare=b/\∀r,aH k (s++r)=jY ts (aH (k+s.length) r)
theorem bU.scans{s:Str}{b:Z Bt}(h:bU s b):bL s b:=λk=>by
 obtain⟨ts,h1,h2⟩:=h k
 grind
theorem bU.sig(c:UInt8)(hc:c∈([40,41,42,43,45,44,58,61]:Str)):bU [c] [(3,[c],0)]:=λk=>⟨[(3,k,[c],0,())],rfl,λr=>LC c hc k r⟩
theorem bU.blank:bU [32] []:=λk=>⟨[],rfl,λr=>by
 show aH k (32::r)=_;rw[rO];show _=jY [] (aH (k+1) r);cases aH (k+1) r<;>rfl⟩
theorem vI:bL [] []:=λk=>⟨[],rfl,λr _=>by
 show aH k r=jY [] (aH (k+((0:G):U)) r);rw[show k+((0:G):U)=k by omega];cases aH k r<;>rfl⟩
theorem bU.app{s s':Str}{b b':Z Bt}(h:bU s b)(h':bL s' b'):bL (s++s') (b++b'):=λk=>by
 obtain⟨ts,h1,h2⟩:=h k;obtain⟨ts',h3,h4⟩:=h' (k+s.length);refine⟨ts++ts',by grind,λr hr=>?_⟩
 grind [iC]
theorem bU.appA{s s':Str}{b b':Z Bt}(h:bU s b)(h':bU s' b'):bU (s++s') (b++b'):=λk=>by
 obtain⟨ts,h1,h2⟩:=h k;obtain⟨ts',h3,h4⟩:=h' (k+s.length);refine⟨ts++ts',by grind,λr=>?_⟩
 grind [iC]
theorem bL.app{s s':Str}{b b':Z Bt}(h:bL s b)(h':bL s' b')(hs:s'=[]\/∃c y,s'=c::y/\isW c=zad):bL (s++s') (b++b'):=λk=>by
 obtain⟨ts,h1,h2⟩:=h k;obtain⟨ts',h3,h4⟩:=h' (k+s.length);refine⟨ts++ts',by grind,λr hr=>?_⟩;have hok:okR (s'++r):=by
  rcases hs with rfl|⟨c,y,rfl,hc⟩;·exact hr
  ·exact .inr ⟨c,y++r,rfl,hc⟩
 grind [iC]
theorem bL.appA{s s':Str}{b b':Z Bt}(h:bL s b)(h':bU s' b')(hs:∃c y,s'=c::y/\isW c=zad):bU (s++s') (b++b'):=λk=>by
 obtain⟨ts,h1,h2⟩:=h k;obtain⟨ts',h3,h4⟩:=h' (k+s.length);refine⟨ts++ts',by grind,λr=>?_⟩;have hok:okR (s'++r):=by
  obtain⟨c,y,rfl,hc⟩:=hs;exact .inr ⟨c,y++r,rfl,hc⟩
 grind [iC]
def mf(s:Str):zai:=s.all isW&&(match s with|c::_=>isL c|[]=>zad)
theorem ng{s:Str}(h:mf s=zab):bL s [(1,s,0)]:=λk=>by
 cases s with
 |nil=>exact absurd h (by decide)
 |cons c t=>
  unfold mf at h;simp only[Va] at h;refine⟨[(1,k,c::t,0,())],rfl,λr hr=>uO rfl h.1 (λr hr=>?_) k hr⟩;have hword:aZ (c::(t++r))=c::t:=by
   grind [sZ]
  simp_all [jc]
theorem MF{s:Str}(h:mf s=zab):bL (46::s) [(4,s,0)]:=λk=>by
 cases s with
 |nil=>exact absurd h (by decide)
 |cons c t=>
  unfold mf at h;simp only[Va] at h;refine⟨[(4,k,c::t,0,())],rfl,λr hr=>?_⟩;have hword:aZ (c::t++r)=c::t:=sZ h.1 hr;rw[List.cons_append,eX,D (by decide),D (by decide)];unfold jc;rw[D (by decide),D (by decide),Y ⟨rfl,c,rfl,h.2⟩,hword];dsimp only;rw[show(c::t++r).drop (1+(c::t).length-1)=r by grind,show k+((1:G):U)+((c::t).length:U)=k+((46::c::t).length:U) by simp;omega];cases aH (k+((46::c::t).length:U)) r<;>rfl
theorem xm{s:Str}(h:ax s=zab):bL s [(1,s,0)]:=λk=>⟨_,rfl,λr hr=>zm h k hr⟩
theorem kM{s:Str}(h:bD s=zab):ax s=zab:=by
 unfold bD at h;simp only[Va,Vf,Bool.not_eq_true'] at h;unfold ax;simp only[Va,Vf,Bool.not_eq_true']
 grind [isA,isD]
theorem lK{a:U}(h:rg a):mf (rn a)=zab:=by
 have:∀k:G,k<16->mf (gz k)=zab:=by decide +kernel
 exact this a.toNat (by have:=h.1;have:=h.2;omega)
theorem RD:∀e∈L.nameTbl,mf e.2.2=zab:=by decide +kernel
theorem Cm{k o:U}{u:zai}(h:L.mnemR k o u≠[]):mf (L.mnemR k o u)=zab:=by
 obtain⟨e,he,_,h2⟩:=xY h
 grind [RD]
def i0B(k o:G)(u:zai):zai:=((k == 1||k == 2)&&zac (o<12)&&(!u||(o == 0&&k == 2)||(zac (8<=o)&&zac (o<=10))))||((k == 3||k == 4)&&o == 0&&!u)||(k == 5&&zac (o<4)&&!u)||k == 6||k == 7
theorem S9:∀k:G,k<8->∀o:G,o<16->∀u:zai,i0B k o u=zab->L.mnemR (hk (k:U)) (o:U) u≠[]:=by decide +kernel
theorem Hg{k o a b c:U}{u:zai}(h:bE k o a b c u):L.mnemR (hk k) o u≠[]:=by
 obtain⟨h1,h2,h3,h4⟩:=jg h;obtain⟨k',rfl⟩:∃k':G,k=(k':U):=⟨k.toNat,by omega⟩
 obtain⟨o',rfl⟩:∃o':G,o=(o':U):=⟨o.toNat,by omega⟩
 refine S9 k' (by omega) o' (by omega) u ?_;generalize hk':(k':U)=K at h;generalize ho':(o':U)=O at h;have kk:∀n:G,K=(n:U)->k'=n:=λn e=>by omega
 have oo:∀n:G,O=(n:U)->o'=n:=λn e=>by omega
 unfold i0B;cases h with
 |reg q1 q2 _ _ _ q3=>
  grind
 |mov _ _=>grind
 |imm q1 q2 _ _ q3=>
  grind
 |movi _=>grind
 |hi _=>grind
 |fl _=>grind
 |mem q1 q2 _ _=>
  grind
 |br _ _=>grind
 |jmp _=>grind
theorem uF{s:Sm}{t:zae Tr}(h:GoodS s t)(h0:s.k≠0):L.mnemR (hk s.k) s.o s.u≠[]:=by
 cases h with
 |none=>grind
 |ins0 h _=>exact Hg h
 |ins1 h _ _=>exact Hg h
 |load _ _=>exact(by decide +kernel:L.mnemR (hk 8) 0 zad≠[])
 |word _=>exact(by decide +kernel:L.mnemR (hk 9) 0 zad≠[])
 |exp _=>exact(by decide +kernel:L.mnemR (hk 10) 0 zad≠[])
def Dv:Z (Z Bt)->Z Bt
 |[]=>[]
 |x::r=>x++(r.map ((3,[44],0)::·)).flatten
def mtk(s:Sm):Bt:=(if s.k=9\/s.k=10 then 4 else 1,L.mnemR (hk s.k) s.o s.u,0)
def ek:zae Tr->Z Bt
 |none=>[]
 |some t=>t.toks
def wtk(s:Sm)(t:zae Tr):Od->Z Bt
 | .A=>[(1,rn s.a,0)] | .B=>[(1,rn s.b,0)] | .C=>[(1,rn s.c,0)] | .E=>ek t | .Q=>(3,[61],0)::ek t | .N=>[(1,s.nm,0)]
def stk(s:Sm)(t:zae Tr):Z Bt:=if s.k=0 then[] else mtk s::Dv ((odL s.k s.o).map (wtk s t))
def ltk(lb:Str)(s:Sm)(t:zae Tr):Z Bt:=if lb=[] then stk s t else(1,lb,0)::(3,[58],0)::stk s t
theorem Fq{s:Sm}{t:zae Tr}{d:Od}(h:pW s t d):bL (wtx s t d) (wtk s t d):=by
 cases d with
 |A=>exact ng (lK h)
 |B=>exact ng (lK h)
 |C=>exact ng (lK h)
 |E=>obtain⟨x,rfl,hx,_⟩:=h;exact jE x hx.1
 |Q=>
  obtain⟨x,rfl,hx,_⟩:=h;exact((bU.sig 61 (by decide)).appA bU.blank).app (jE x hx.1)
 |N=>exact xm (kM h)
theorem J5{s:Sm}{t:zae Tr}:∀(l:Z Od),(∀d∈l,pW s t d)->bL (L.sjoinR [44,32] (l.map (wtx s t))) (Dv (l.map (wtk s t)))
 |[],_=>vI
 |d::l,h=>by
  have tail:∀l:Z Od,(∀d∈l,pW s t d)->bL (((l.map (wtx s t)).map (([44,32]:Str)++·)).flatten) (((l.map (wtk s t)).map ((3,[44],0)::·)).flatten)/\((((l.map (wtx s t)).map (([44,32]:Str)++·)).flatten)=[]\/∃c y,(((l.map (wtx s t)).map (([44,32]:Str)++·)).flatten)=c::y/\isW c=zad):=by
   intro l
   induction l with
   |nil=>simp_all [vI]
   |cons e l ih=>
    intro h;obtain⟨h1,h2⟩:=ih λd hd=>h d (U9 _ hd)
    have h3:=Fq (h e (VD ..));refine⟨?_,.inr ⟨44,_,rfl,by decide⟩⟩;have:=(((bU.sig 44 (by decide)).appA bU.blank).app h3).app h1 h2
    grind
  obtain⟨h1,h2⟩:=tail l λd hd=>h d (U9 _ hd)
  exact(Fq (h d (VD ..))).app h1 h2
theorem CF{s:Sm}{t:zae Tr}(h:GoodS s t):bL (stx s t) (stk s t):=by
 unfold stx stk;by_cases h0:s.k=0;·simp_all [vI]
 ·rw[D h0,D h0];have hw:=Cm (uF h h0);have hm:bL (mtx s) [mtk s]:=by
   unfold mtx mtk;by_cases hd:s.k=9\/s.k=10;·simp_all [MF]
   simp_all [ng]
  exact hm.app (bU.blank.app (J5 _ (nz h))) (.inr ⟨32,_,rfl,by decide⟩)
theorem MG{s:Sm}{t:zae Tr}(h:GoodS s t){lb:Str}(hlb:lb=[]\/ax lb=zab):bL (ltx lb s t) (ltk lb s t):=by
 unfold ltx ltk;by_cases hl:lb=[]
 ·simp_all [CF]
 ·rw[D hl,D hl];have h1:=xm (hlb.resolve_left hl);have h2:bL (58::(if s.k=0 then[] else 32::stx s t)) ((3,[58],0)::stk s t):=by
   by_cases h0:s.k=0;·rw[Y h0,show stk s t=[] by unfold stk;rw[Y h0]];exact(bU.sig 58 (by decide)).scans
   ·rw[D h0];exact(bU.sig 58 (by decide)).app (bU.blank.app (CF h))
  exact h1.app h2 (.inr ⟨58,_,rfl,by decide⟩)
theorem Sd{s:Sm}{t:zae Tr}(h:GoodS s t):(stx s t).length<=4100:=by
 unfold stx;split;·simp
 ·have:=vK [44,32] 1300 ((odL s.k s.o).map (wtx s t)) (λx hx=>by
   obtain⟨d,hd,rfl⟩:=Vr.1 hx;exact IM (nz h d hd))
  rw[VL] at this;have h2:(1300+([44,32]:Str).length)*(odL s.k s.o).length<=1302*3:=Nat.mul_le_mul (by decide) (wD _ _)
  grind [mtx,oh]
theorem AP{s:Sm}{t:zae Tr}(h:GoodS s t){lb:Str}(hlb:lb=[]\/ax lb=zab):(ltx lb s t).length<=5000:=by
 have h1:=Sd h;have hll:lb.length<=12:=by
  rcases hlb with rfl|hlb;·simp
  simp_all [ax]
 grind [ltx]
end Rv
namespace Rv
open Go
def iw(l:Z aj)(p:G)(c:UInt8):zai:=zac (p<l.length)&&zac ((l.getD p aQ).1=3)&&zac ((l.getD p aQ).2.2.1=[c])
abbrev XR:=Except U (Z Item×G)
def xF(l:Z aj)(S F:G->XR)(p:G):XR:=
 if iw l p 45=zab then(match F (p+1) with | .error e=>.error e | .ok r=>.ok (r.1++[(3,0,[],())],r.2))
 else if iw l p 40=zab then(match S (p+1) with | .error e=>.error e | .ok r=>if iw l r.2 41=zab then .ok (r.1,r.2+1) else .error 23)
 else if p<l.length/\(l.getD p aQ).1=2 then .ok ([(1,(l.getD p aQ).2.2.2.1,[],())],p+1)
 else if p<l.length/\(l.getD p aQ).1=1/\ax (l.getD p aQ).2.2.1=zab then .ok ([(2,0,(l.getD p aQ).2.2.1,())],p+1)
 else .error 23
def lT(l:Z aj)(F:G->XR):G->Z Item->G->XR
 |0,it,p=>.ok (it,p)
 |m+1,it,p=>if iw l p 42=zab then(match F (p+1) with | .error e=>.error e | .ok r=>lT l F m (it++r.1++[(6,0,[],())]) r.2) else .ok (it,p)
def xT(l:Z aj)(F:G->XR)(p:G):XR:=match F p with | .error e=>.error e | .ok r=>lT l F (l.length+1) r.1 r.2
def lS(l:Z aj)(T:G->XR):G->Z Item->G->XR
 |0,it,p=>.ok (it,p)
 |m+1,it,p=>if iw l p 43=zab then(match T (p+1) with | .error e=>.error e | .ok r=>lS l T m (it++r.1++[(4,0,[],())]) r.2)
  else if iw l p 45=zab then(match T (p+1) with | .error e=>.error e | .ok r=>lS l T m (it++r.1++[(5,0,[],())]) r.2) else .ok (it,p)
def xS(l:Z aj)(F:G->XR)(p:G):XR:=match xT l F p with | .error e=>.error e | .ok r=>lS l (xT l F) (l.length+1) r.1 r.2
def pF(l:Z aj):G->G->XR
 |0,_=>.error 24
 |q+1,p=>xF l (xS l (pF l q)) (pF l q) p
def fG(l:Z aj)(p:G):Z Item×U×U×zak:=
 match xS l (pF l 9) p with
 | .error e=>([],0,e,())
 | .ok r=>if 64<r.1.length then([],0,24,()) else(r.1,(r.2:U),0,())
structure OkX (l:Z aj) (p:G) (it:Z Item) (p':G):Prop where
 lt:p<p'
 le:p'<=l.length
 len:it.length<=p'-p
 well:fZ it
 good:(∀t∈l,0<=t.2.2.2.1/\t.2.2.2.1<=4294967295)->∀x∈it,xK x
def jq(l:Z aj)(p:G):XR->Prop
 | .error e=>e=23\/e=24
 | .ok r=>OkX l p r.1 r.2
theorem Ra{l:Z aj}{p:G}{c:UInt8}(h:iw l p c=zab):p<l.length:=by
 simp_all [iw]
theorem La{l:Z aj}{p:G}(h:p<l.length):l.getD p aQ∈l:=by
 grind
theorem Q4{l:Z aj}{S F:G->XR}(hS:∀p,jq l p (S p))(hF:∀p,jq l p (F p))(p:G):jq l p (xF l S F p):=by
 unfold xF;split
 ·rename_i h;have:=hF (p+1);cases hr:F (p+1) with
  |error e=>rw[hr] at this;exact this
  |ok r=>
   rw[hr] at this;have h1:=this.lt;have h2:=this.len;have h3:=this.le;refine⟨by grind,h3,by simp;omega,Qc this.well _ rfl,λht x hx=>?_⟩;simp only[Vk,Vu] at hx;rcases hx with hx|rfl;·exact this.good ht x hx
   ·exact⟨by decide,by decide,rfl⟩
 ·split
  ·have:=hS (p+1);cases hr:S (p+1) with
   |error e=>rw[hr] at this;exact this
   |ok r=>
    rw[hr] at this;dsimp only;split;·rename_i h;have h0:=Ra h;have h1:=this.lt;have h2:=this.len;have h3:=this.le;exact⟨by grind,by grind,by grind,this.well,this.good⟩
    ·exact .inl rfl
  ·split
   ·rename_i h;refine⟨by grind,by grind,by simp,rfl,λht x hx=>?_⟩;simp only[Vu] at hx;subst hx;have:=ht _ (La h.1);exact⟨this.1,this.2,rfl⟩
   ·split
    ·rename_i h;have hn:az (2,0,(l.getD p aQ).2.2.1,())=(0,zab):=by
      generalize (l.getD p aQ).2.2.1=tx at h
      grind [az]
     refine⟨by grind,by grind,by simp,?_,λht x hx=>?_⟩;·show enough 0 [((2,0,(l.getD p aQ).2.2.1,()):Item)]=zaa 1;simp_all [enough]
     ·simp only[Vu] at hx;subst hx;exact⟨by grind,by grind,by rw[hn]⟩
    ·exact .inl rfl
theorem uD{l:Z aj}{a b c:G}{A B:Z Item}(ha:OkX l a A b)(hb:OkX l (b+1) B c)(x:Item)(hx:az x=(2,zab))(h0:x.2.1=0):OkX l a (A++B++[x]) c:=by
 have h1:=ha.lt;have h2:=ha.len;have h3:=hb.lt;have h4:=hb.len;refine⟨by omega,hb.le,by simp;omega,Qd ha.well hb.well x hx,λht y hy=>?_⟩;simp only[Vk,Vu] at hy;rcases hy with(hy|hy)|rfl;·exact ha.good ht y hy
 ·exact hb.good ht y hy
 ·exact⟨by rw[h0];decide,by rw[h0];decide,by rw[hx]⟩
theorem Er{l:Z aj}{F:G->XR}(hF:∀p,jq l p (F p))(a:G):∀(m:G) (it:Z Item) (p:G),OkX l a it p->jq l a (lT l F m it p)
 |0,it,p,h=>h
 |m+1,it,p,h=>by
  rw[lT];split
  ·have:=hF (p+1);cases hr:F (p+1) with
   |error e=>rw[hr] at this;exact this
   |ok r=>
    rw[hr] at this;exact Er hF a m _ _ (uD h this _ rfl rfl)
  ·exact h
theorem wo{l:Z aj}{F:G->XR}(hF:∀p,jq l p (F p))(p:G):jq l p (xT l F p):=by
 unfold xT;have:=hF p;cases hr:F p with
 |error e=>grind
 |ok r=>rw[hr] at this;exact Er hF p _ _ _ this
theorem xL{l:Z aj}{F:G->XR}(hF:∀p,jq l p (F p))(a:G):∀(m:G) (it:Z Item) (p:G),OkX l a it p->jq l a (lS l F m it p)
 |0,it,p,h=>h
 |m+1,it,p,h=>by
  rw[lS];split
  ·have:=hF (p+1);cases hr:F (p+1) with
   |error e=>rw[hr] at this;exact this
   |ok r=>
    rw[hr] at this;exact xL hF a m _ _ (uD h this _ rfl rfl)
  ·split
   ·have:=hF (p+1);cases hr:F (p+1) with
    |error e=>rw[hr] at this;exact this
    |ok r=>
     rw[hr] at this;exact xL hF a m _ _ (uD h this _ rfl rfl)
   ·exact h
theorem ny{l:Z aj}{F:G->XR}(hF:∀p,jq l p (F p))(p:G):jq l p (xS l F p):=by
 unfold xS;have:=wo hF p;cases hr:xT l F p with
 |error e=>grind
 |ok r=>rw[hr] at this;exact xL (wo hF) p _ _ _ this
theorem eG(l:Z aj):∀(q p:G),jq l p (pF l q p)
 |0,_=>.inr rfl
 |q+1,p=>Q4 (ny (eG l q)) (eG l q) p
theorem sM(all:Z Str)(hall:all.length<=100)(l:Z aj)(p:G)(hl:l.length<=1000000)(out:Z Item):Zag.g all l p out 0 =
  if p<l.length/\(l.getD p aQ).1=3/\(l.getD p aQ).2.2.1∈all then zaa ((l.getD p aQ).2.2.1,zab,l,((p+1:G):U),out,0,()) else zaa ([],zad,l,(p:U),out,0,()):=by
 unfold Zag.g Zag.f;by_cases hp:p<l.length
 ·rw[nD l p out hp,U4];dsimp only;have:=kC (1000+all.length+l.length+(p:U).toNat+out.length+(0:U).toNat) all hall zab l p out 0 (l.getD p aQ).1 (l.getD p aQ).2.1 (l.getD p aQ).2.2.1 (l.getD p aQ).2.2.2.1 (1000+all.length+l.length+(p:U).toNat+out.length+(0:U).toNat) 0 (by omega) (by omega);rw[show((0:G):U)=0 from rfl] at this;rw[this,w64 (by omega),VB]
  grind
 ·rw[xZ l p out (by omega),U4];dsimp only;have:=kC (1000+all.length+l.length+(p:U).toNat+out.length+(0:U).toNat) all hall zad l p out 0 0 0 [] 0 (1000+all.length+l.length+(p:U).toNat+out.length+(0:U).toNat) 0 (by omega) (by omega)
  grind
theorem bW{l:Z aj}{p:G}{c:UInt8}:iw l p c=zab↔p<l.length/\(l.getD p aQ).1=3/\(l.getD p aQ).2.2.1=[c]:=by
 unfold iw
 grind
theorem kr(a b:U)(c:Str)(l:Z aj)(p:U)(out:Z Item)(e:U)(ho:out.length<=3000000):Zas.g a b c l p out e=zaa (l,p,out++[(a,b,c,())],e,()):=by
 unfold Zas.g Zas.f
 grind
def IV(l:Z aj)(out:Z Item)(B:G)(r:zae (Z aj×U×Z Item×U×zak)):XR->Prop
 | .ok x=>r=zaa (l,(x.2:U),out++x.1,0,())
 | .error e=>∃p' out',r=zaa (l,p',out',e,())/\out'.length<=B
def Ng(l:Z aj)(out:Z Item)(d:U)(B:G)(r:zae (Z aj×U×Z Item×U×zak×U×zak)):XR->Prop
 | .ok x=>r=zaa (l,(x.2:U),out++x.1,0,(),d,())
 | .error e=>∃p' out',r=zaa (l,p',out',e,(),d,())/\out'.length<=B
def EN(l:Z aj)(q:G):Prop:=∀(p:G) (out:Z Item) (Q:G),out.length+(l.length-p)<=1000000->6*q+1<=Q->IV l out (2000000+3*q) ((R Q).expr_parser_factor ((9-q:G):U) l p out 0) (pF l q p)
def O7(l:Z aj)(q:G):Prop:=∀(p:G) (out:Z Item) (Q:G),out.length+(l.length-p)<=1000000->6*q+4<=Q->∃r,(R Q).expr_parser_sum_1 ((9-q:G):U) l p out 0=r.map (λy=>((),((9-q:G):U),y))/\IV l out (2000000+3*q+1) r (xT l (pF l q) p)
def Tw(l:Z aj)(q:G):Prop:=∀(p:G) (out:Z Item) (Q:G),out.length+(l.length-p)<=1000000->6*q+6<=Q->IV l out (2000000+3*q+2) ((R Q).expr_parser_sum ((9-q:G):U) l p out 0) (xS l (pF l q) p)
theorem qp{l:Z aj}{p:G}{x:XR}{e:U}(h:jq l p x)(hx:x=.error e):e≠0:=by
 subst hx;rcases h with rfl|rfl<;>decide
theorem SC{l:Z aj}(hl:l.length<=1000000){q:G}(hq9:q<=9)(hF:EN l q)(n:G)(Q:G)(hQ:6*q+2<=Q)(out:Z Item):∀(m M:G) (it:Z Item) (p:G),l.length-p<m->l.length-p<M->(out++it).length+(l.length-p)<=1000000 ->
  Ng l out ((9-q:G):U) (2000000+3*q+1) (expr_parser_row_c284.l1 n (R Q) M dO l p (out++it) 0 ((9-q:G):U)) (lT l (pF l q) m it p):=by
 intro m
 induction m with
 |zero=>grind
 |succ m ih=>
  intro M it p hm hM ho;obtain⟨M,rfl⟩:∃M',M=M'+1:=⟨M-1,by omega⟩
  rw[expr_parser_row_c284.l1,sM dO (by simp) l p hl,lT];by_cases hs:iw l p 42=zab
  ·have hs':=bW.1 hs;rw[Y ⟨hs'.1,hs'.2.1,by grind⟩,Y hs,U4,hs'.2.2];dsimp only;rw[D (by decide)];obtain⟨Q,rfl⟩:∃Q',Q=Q'+1:=⟨Q-1,by omega⟩
   have e:(R (Q+1)).expr_parser_sum_1_1 ((9-q:G):U) l ((p+1:G):U) (out++it) 0=expr_parser_sum_1_1.h (R Q) ((9-q:G):U) l ((p+1:G):U) (out++it) 0:=rfl;rw[e];unfold expr_parser_sum_1_1.h expr_parser_sum_1_1.f;have hg:=eG l q (p+1);have hr:=hF (p+1) (out++it) Q (by omega) (by omega);cases hx:pF l q (p+1) with
   |error e=>
    rw[hx] at hr;obtain⟨p',out',h1,h2⟩:=hr;have hne:=qp hg hx;have hlt:=hs'.1;rw[h1,U4,U4];dsimp only;rw[kr _ _ _ _ _ _ _ (by omega),U4];dsimp only;obtain⟨M,rfl⟩:∃M',M=M'+1:=⟨M-1,by omega⟩
    rw[wy n _ M l p' _ e _ hne];exact⟨p',_,rfl,by simp;omega⟩
   |ok r=>
    rw[hx] at hr hg;have hr:(R Q).expr_parser_factor ((9-q:G):U) l ((p+1:G):U) (out++it) 0=zaa (l,(r.2:U),(out++it)++r.1,0,()):=hr;have g1:=hg.lt;have g2:=hg.len;have g3:=hg.le
    grind [kr,L.kinds]
  ·rw[D (λh=>hs (bW.2 ⟨h.1,h.2.1,by grind⟩)),D hs,U4];rfl
theorem SE{l:Z aj}(hl:l.length<=1000000){q:G}(hq9:q<=9)(hF:EN l q):O7 l q:=by
 intro p out Q ho hQ;obtain⟨Q,rfl⟩:∃Q',Q=Q'+2:=⟨Q-2,by omega⟩
 have e:(R (Q+2)).expr_parser_sum_1 ((9-q:G):U) l (p:U) out 0=expr_parser_sum_1.h (R (Q+1)) ((9-q:G):U) l (p:U) out 0:=rfl;rw[e];unfold expr_parser_sum_1.h expr_parser_sum_1.f;have e2:(R (Q+1)).expr_parser_row_c284 dO l (p:U) out 0 ((9-q:G):U)=expr_parser_row_c284.h (R Q) dO l (p:U) out 0 ((9-q:G):U):=rfl;rw[e2];unfold expr_parser_row_c284.h expr_parser_row_c284.f;obtain⟨N,hN⟩:∃N,1000+dO.length+l.length+(p:U).toNat+out.length+(0:U).toNat+(((9-q:G):U)).toNat=N:=⟨_,rfl⟩
 rw[hN];obtain⟨Q,rfl⟩:∃Q',Q=Q'+1:=⟨Q-1,by omega⟩
 have e3:(R (Q+1)).expr_parser_sum_1_1 ((9-q:G):U) l (p:U) out 0=expr_parser_sum_1_1.h (R Q) ((9-q:G):U) l (p:U) out 0:=rfl;rw[e3];unfold expr_parser_sum_1_1.h expr_parser_sum_1_1.f;have hg:=eG l q p;have hr:=hF p out Q (by omega) (by omega);unfold xT;cases hx:pF l q p with
 |error e=>
  rw[hx] at hr;obtain⟨p',out',h1,h2⟩:=hr;have hne:=qp hg hx;rw[h1,U4,U4];dsimp only;obtain⟨M,rfl⟩:∃M',N=M'+1:=⟨N-1,by omega⟩
  rw[wy _ _ M l p' _ e _ hne,U4];exact⟨zaa (l,p',out',e,()),rfl,p',out',rfl,by omega⟩
 |ok r=>
  rw[hx] at hr hg;have hr:(R Q).expr_parser_factor ((9-q:G):U) l (p:U) out 0=zaa (l,(r.2:U),out++r.1,0,()):=hr;have g1:=hg.lt;have g2:=hg.len;have g3:=hg.le;rw[hr,U4,U4];dsimp only;have:=SC hl hq9 hF N (Q+1) (by omega) out (l.length+1) N r.1 r.2 (by omega) (by omega) (by simp;omega);generalize expr_parser_row_c284.l1 N (R (Q+1)) N dO l (r.2:U) (out++r.1) 0 ((9-q:G):U)=X at this;cases hy:lT l (pF l q) (l.length+1) r.1 r.2 with
  |error e=>
   rw[hy] at this;obtain⟨p',out',h1,h2⟩:=this;rw[h1,U4];exact⟨zaa (l,p',out',e,()),rfl,p',out',rfl,h2⟩
  |ok x=>
   rw[hy] at this;have this:X=zaa (l,(x.2:U),out++x.1,0,(),((9-q:G):U),()):=this;rw[this,U4];exact⟨zaa (l,(x.2:U),out++x.1,0,()),rfl,rfl⟩
theorem Sv{l:Z aj}(hl:l.length<=1000000){q:G}(hq9:q<=9)(hT:O7 l q)(n:G)(Q:G)(hQ:6*q+4<=Q)(out:Z Item):∀(m M:G) (it:Z Item) (p:G),l.length-p<m->l.length-p<M->(out++it).length+(l.length-p)<=1000000 ->
  Ng l out ((9-q:G):U) (2000000+3*q+2) (expr_parser_row_c283.l1 n (R Q) M dU l p (out++it) 0 ((9-q:G):U)) (lS l (xT l (pF l q)) m it p):=by
 intro m
 induction m with
 |zero=>grind
 |succ m ih=>
  intro M it p hm hM ho;obtain⟨M,rfl⟩:∃M',M=M'+1:=⟨M-1,by omega⟩
  rw[expr_parser_row_c283.l1,sM dU (by simp) l p hl,lS];have step:∀(c:UInt8) (K:U),(L.kinds [c]).1=K->iw l p c=zab ->
    Ng l out ((9-q:G):U) (2000000+3*q+2) (((R Q).expr_parser_sum_1 ((9-q:G):U) l ((p+1:G):U) (out++it) 0).bind λy2=>(Zas.g ((L.kinds [c]).1) 0 ([]:Str) y2.2.2.1 y2.2.2.2.1 y2.2.2.2.2.1 y2.2.2.2.2.2.1).bind λy3=>(expr_parser_row_c283.l1 n (R Q) M) dU y3.1 y3.2.1 y3.2.2.1 y3.2.2.2.1 y2.2.1)
     (match xT l (pF l q) (p+1) with | .error e=>.error e | .ok r=>lS l (xT l (pF l q)) m (it++r.1++[(K,0,[],())]) r.2):=by
   intro c K hK hs;have hs':=bW.1 hs;have hlt:=hs'.1;have hg:=wo (eG l q) (p+1);obtain⟨rr,h0,hr⟩:=hT (p+1) (out++it) Q (by omega) hQ;rw[h0];cases hx:xT l (pF l q) (p+1) with
   |error e=>
    rw[hx] at hr;obtain⟨p',out',h1,h2⟩:=hr;have hne:=qp hg hx;rw[h1,VP,U4];dsimp only;rw[kr _ _ _ _ _ _ _ (by omega),U4];dsimp only;obtain⟨M,rfl⟩:∃M',M=M'+1:=⟨M-1,by omega⟩
    rw[ww n _ M l p' _ e _ hne];exact⟨p',_,rfl,by simp;omega⟩
   |ok r=>
    rw[hx] at hr hg;have hr:rr=zaa (l,(r.2:U),(out++it)++r.1,0,()):=hr;have g1:=hg.lt;have g2:=hg.len;have g3:=hg.le
    grind [kr]
  by_cases hs:iw l p 43=zab;·have hs':=bW.1 hs;rw[Y ⟨hs'.1,hs'.2.1,by grind⟩,Y hs,U4,hs'.2.2];dsimp only;rw[D (by decide)];exact step 43 4 rfl hs
  ·by_cases hs2:iw l p 45=zab
   ·have hs':=bW.1 hs2;rw[Y ⟨hs'.1,hs'.2.1,by grind⟩,D hs,Y hs2,U4,hs'.2.2];dsimp only;rw[D (by decide)];exact step 45 5 rfl hs2
   ·rw[D (λh=>by
     have h3:=h.2.2;simp only[Vg,VR,or_false] at h3
     grind [bW]),D hs,D hs2,U4]
    rfl
theorem Sw{l:Z aj}(hl:l.length<=1000000){q:G}(hq9:q<=9)(hT:O7 l q):Tw l q:=by
 intro p out Q ho hQ;obtain⟨Q,rfl⟩:∃Q',Q=Q'+2:=⟨Q-2,by omega⟩
 have e:(R (Q+2)).expr_parser_sum ((9-q:G):U) l (p:U) out 0=expr_parser_sum.h (R (Q+1)) ((9-q:G):U) l (p:U) out 0:=rfl;rw[e];unfold expr_parser_sum.h expr_parser_sum.f;have e2:(R (Q+1)).expr_parser_row_c283 dU l (p:U) out 0 ((9-q:G):U)=expr_parser_row_c283.h (R Q) dU l (p:U) out 0 ((9-q:G):U):=rfl;rw[e2];unfold expr_parser_row_c283.h expr_parser_row_c283.f;obtain⟨N,hN⟩:∃N,1000+dU.length+l.length+(p:U).toNat+out.length+(0:U).toNat+(((9-q:G):U)).toNat=N:=⟨_,rfl⟩
 rw[hN];have hg:=wo (eG l q) p;obtain⟨rr,h0,hr⟩:=hT p out Q (by omega) (by omega);rw[h0];unfold xS;cases hx:xT l (pF l q) p with
 |error e=>
  rw[hx] at hr;obtain⟨p',out',h1,h2⟩:=hr;have hne:=qp hg hx;rw[h1,VP,U4];dsimp only;obtain⟨M,rfl⟩:∃M',N=M'+1:=⟨N-1,by omega⟩
  rw[ww _ _ M l p' _ e _ hne,U4];exact⟨p',out',rfl,by omega⟩
 |ok r=>
  rw[hx] at hr hg;have hr:rr=zaa (l,(r.2:U),out++r.1,0,()):=hr;have g1:=hg.lt;have g2:=hg.len;have g3:=hg.le;rw[hr,VP,U4];dsimp only;have:=Sv hl hq9 hT N Q (by omega) out (l.length+1) N r.1 r.2 (by omega) (by omega) (by simp;omega);generalize expr_parser_row_c283.l1 N (R Q) N dU l (r.2:U) (out++r.1) 0 ((9-q:G):U)=X at this;cases hy:lS l (xT l (pF l q)) (l.length+1) r.1 r.2 with
  |error e=>
   rw[hy] at this;obtain⟨p',out',h1,h2⟩:=this;rw[h1,U4];exact⟨p',out',rfl,h2⟩
  |ok x=>
   rw[hy] at this;have this:X=zaa (l,(x.2:U),out++x.1,0,(),((9-q:G):U),()):=this;rw[this,U4];rfl
theorem UI{l:Z aj}(hl:l.length<=1000000){q:G}(hq9:q+1<=9)(hF:EN l q)(hS:Tw l q):EN l (q+1):=by
 intro p out Q ho hQ;obtain⟨Q,rfl⟩:∃Q',Q=Q'+1:=⟨Q-1,by omega⟩
 have e:(R (Q+1)).expr_parser_factor ((9-(q+1):G):U) l (p:U) out 0=expr_parser_factor.h (R Q) ((9-(q+1):G):U) l (p:U) out 0:=rfl;rw[e];unfold expr_parser_factor.h expr_parser_factor.f;have hd:zaf.wrap (((9-(q+1):G):U)+1)=((9-q:G):U):=by grind [w64]
 rw[D (by decide),D (by simp;omega),sM [[45],[40]] (by simp) l p hl,hd];show IV l out _ _ (xF l (xS l (pF l q)) (pF l q) p);unfold xF;by_cases h1:iw l p 45=zab
 ·have hs':=bW.1 h1;rw[Y ⟨hs'.1,hs'.2.1,by grind⟩,Y h1,U4,hs'.2.2];dsimp only;rw[Y (by decide)];have hlt:=hs'.1;have hg:=eG l q (p+1);have hr:=hF (p+1) out Q (by omega) (by omega);cases hx:pF l q (p+1) with
  |error e=>
   rw[hx] at hr;obtain⟨p',out',h3,h2⟩:=hr;rw[h3,U4];dsimp only;rw[kr _ _ _ _ _ _ _ (by omega),U4];exact⟨p',_,rfl,by simp;omega⟩
  |ok r=>
   rw[hx] at hr hg;have hr:(R Q).expr_parser_factor ((9-q:G):U) l ((p+1:G):U) out 0=zaa (l,(r.2:U),out++r.1,0,()):=hr;have g1:=hg.lt;have g2:=hg.len;have g3:=hg.le;rw[hr,U4];dsimp only;rw[kr _ _ _ _ _ _ _ (by simp;omega),U4];show zaa (l,(r.2:U),out++r.1++[(3,0,[],())],0,())=zaa (l,(r.2:U),out++(r.1++[(3,0,[],())]),0,())
   grind
 ·by_cases h2:iw l p 40=zab
  ·have hs':=bW.1 h2;rw[Y ⟨hs'.1,hs'.2.1,by grind⟩,D h1,Y h2,U4,hs'.2.2];dsimp only;rw[D (by decide),Y (by decide)];have hlt:=hs'.1;have hg:=ny (eG l q) (p+1);have hr:=hS (p+1) out Q (by omega) (by omega);cases hx:xS l (pF l q) (p+1) with
   |error e=>
    rw[hx] at hr;obtain⟨p',out',h3,h4⟩:=hr;have hne:=qp hg hx;rw[h3,U4];dsimp only;rw[sN _ (by simp) l p' out' e hne,U4];dsimp only;rw[Y (show(!zad)=zab from rfl),Ef 23 l p' out' e hne,U4];exact⟨p',out',rfl,by omega⟩
   |ok r=>
    rw[hx] at hr hg;have hr:(R Q).expr_parser_sum ((9-q:G):U) l ((p+1:G):U) out 0=zaa (l,(r.2:U),out++r.1,0,()):=hr;have g1:=hg.lt;have g2:=hg.len;have g3:=hg.le;rw[hr,U4];dsimp only;rw[sM [[41]] (by simp) l r.2 hl];by_cases h3:iw l r.2 41=zab;·have hs2:=bW.1 h3;rw[Y ⟨hs2.1,hs2.2.1,by grind⟩,Y h3,U4];dsimp only;rw[D (by decide)];rfl
    ·rw[D (λh=>h3 (bW.2 ⟨h.1,h.2.1,by grind⟩)),D h3,U4];dsimp only;rw[Y (show(!zad)=zab from rfl),qw,U4];exact⟨_,_,rfl,by simp;omega⟩
  ·rw[D (λh=>by
     have h3:=h.2.2;simp only[Vg,VR,or_false] at h3
     grind [bW]),D h1,D h2,U4]
   dsimp only;rw[D (show ¬zac (([]:Str)=[45])=zab by decide),D (show ¬zac (([]:Str)=[40])=zab by decide)];by_cases hp:p<l.length
   ·rw[nD l p out hp,U4];dsimp only;generalize ht:l.getD p aQ=t;by_cases k2:t.1=2
    ·rw[Y (show zab=zab from rfl),Y (show zac (t.1=2)=zab by simp[k2]),Y (show p<l.length/\t.1=2 from⟨hp,k2⟩),kr _ _ _ _ _ _ _ (by omega),U4];unfold expr_parser_factor.j19;dsimp only;rw[w64 (by omega)];rfl
    ·rw[Y (show zab=zab from rfl),D (show ¬zac (t.1=2)=zab by simp[k2]),Y (show zab=zab from rfl),D (show ¬(p<l.length/\t.1=2) from λh=>k2 h.2)];by_cases k1:t.1=1
     ·rw[Y (show zac (t.1=1)=zab by simp[k1]),nT,U4];dsimp only;by_cases hL:ax t.2.2.1=zab
      ·rw[Y hL,Y (show p<l.length/\t.1=1/\ax t.2.2.1=zab from⟨hp,k1,hL⟩),kr _ _ _ _ _ _ _ (by omega),U4];unfold expr_parser_factor.j19;dsimp only;rw[w64 (by omega)];rfl
      ·rw[D hL,D (show ¬(p<l.length/\t.1=1/\ax t.2.2.1=zab) from λh=>hL h.2.2),qw,U4];exact⟨_,_,rfl,by grind⟩
     ·rw[D (show ¬zac (t.1=1)=zab by simp[k1]),D (show ¬(p<l.length/\t.1=1/\ax t.2.2.1=zab) from λh=>k1 h.2.1),qw,U4];exact⟨_,_,rfl,by grind⟩
   ·rw[xZ l p out (by omega),U4];dsimp only;rw[D (show ¬zad=zab by decide),D (show ¬zad=zab by decide),D (show ¬(p<l.length/\(l.getD p aQ).1=2) from λh=>hp h.1),D (show ¬(p<l.length/\(l.getD p aQ).1=1/\ax (l.getD p aQ).2.2.1=zab) from λh=>hp h.1),qw,U4];exact⟨_,_,rfl,by grind⟩
theorem IQ{l:Z aj}(hl:l.length<=1000000):∀q,q<=9->EN l q
 |0,_=>λp out Q ho hQ=>by
  obtain⟨Q,rfl⟩:∃Q',Q=Q'+1:=⟨Q-1,by omega⟩
  exact⟨_,_,Kr Q l p out,by omega⟩
 |q+1,h=>UI hl h (IQ hl q (by omega)) (Sw hl (by omega) (SE hl (by omega) (IQ hl q (by omega))))
theorem Cv(l:Z aj)(hl:l.length<=1000000)(p:G):Zau.g l p=zaa (fG l p):=by
 unfold Zau.g Zau.f expr_parser_sum.g;have hr:=Sw hl (by decide) (SE hl (by decide) (IQ hl 9 (by decide))) p [] (1000+(0:U).toNat+l.length+(p:U).toNat+([]:Z Item).length+(0:U).toNat) (by simp;omega) (by omega);have hg:=ny (eG l 9) p;unfold fG;cases hx:xS l (pF l 9) p with
 |error e=>
  rw[hx] at hr;obtain⟨p',out',h3,_⟩:=hr;have hne:=qp hg hx;simp_all [Zau.j5]
 |ok r=>
  rw[hx] at hr;have hr:(R (1000+(0:U).toNat+l.length+(p:U).toNat+([]:Z Item).length+(0:U).toNat)).expr_parser_sum ((9-9:G):U) l (p:U) [] 0=zaa (l,(r.2:U),[]++r.1,0,()):=hr;rw[show((9-9:G):U)=0 from rfl] at hr;rw[hr,U4];dsimp only;rw[Y (show zac ((0:U)=0)=zab from rfl),Vw];by_cases h64:64<r.1.length;·rw[Y (by simp;omega),Y h64];simp_all [Zau.j5]
  ·rw[D (by simp;omega),D h64];simp_all [Zau.j5]
end Rv
namespace Rv
open Go
def pk(kd:U)(l:Z aj)(p:G)(e:U):Str:=if e=0/\p<l.length/\(l.getD p aQ).1=kd then(l.getD p aQ).2.2.1 else[]
def chk(ok:zai)(e:U):U:=if ok=zad/\e=0 then 22 else e
theorem Ib(kd:U)(l:Z aj)(p:G)(e:U):Zde.g kd l p e=zaa (pk kd l p e,l,(p:U),e,()):=by
 unfold Zde.g Zde.f pk
 grind
theorem wM(kd:U)(l:Z aj)(p:G)(e:U)(hp:p<=9000000):Zbw.g kd l p e=zaa (pk kd l p e,l,((p+1:G):U),e,()):=by
 grind [Zbw.g,Zbw.f,Ib,w64]
theorem gm(ok:zai)(l:Z aj)(p:U)(e:U):Zaw.g ok l p e=zaa (l,p,chk ok e,()):=by
 unfold Zaw.g Zaw.f chk
 grind
theorem Ma{l:Z aj}(hl:∀t∈l,t.2.2.1.length<=1000000)(kd:U)(p:G)(e:U):(pk kd l p e).length<=1000000:=by
 grind [pk]
def chK(l:Z aj)(p:G)(e:U)(s:Sm):U:=
 if s.k=1/\((bY (pk 1 l p e)).2=zad\/(s.u=zab/\s.o=0)) then 2 else if s.k=7/\(bY (pk 1 l p e)).2=zab then 6 else s.k
abbrev smR(l:Z aj)(p:G)(e:U)(s:Sm):Z aj×U×U×U×U×U×U×U×zai×Z Item×Str×zak:=(l,(p:U),e,s.k,s.o,s.a,s.b,s.c,s.u,s.e,s.nm,())
theorem KL{l:Z aj}(hl:∀t∈l,t.2.2.1.length<=1000000)(p:G)(e:U)(s:Sm):Zej.g l p e s.k s.o s.a s.b s.c s.u s.e s.nm=zaa (smR l p e { s with k:=chK l p e s }):=by
 unfold Zej.g Zej.f chK;rw[Ib,U4];dsimp only;rw[Mt _ (Ma hl 1 p e),U4]
 grind
def rdE(l:Z aj)(p:G)(e:U)(s:Sm):G×U×Sm:=if e=0 then((fG l p).2.1.toNat,(fG l p).2.2.1,{ s with e:=(fG l p).1 }) else(p,e,s)
def rd(l:Z aj)(p:G)(e:U)(s:Sm):Od->G×U×Sm
 | .A=>(p+1,chk (bY (pk 1 l p e)).2 e,{ s with a:=(bY (pk 1 l p e)).1 })
 | .B=>(p+1,chk (bY (pk 1 l p e)).2 e,{ s with b:=(bY (pk 1 l p e)).1 })
 | .C=>(p+1,chk (bY (pk 1 l p e)).2 e,{ s with c:=(bY (pk 1 l p e)).1 })
 | .E=>rdE l p e s
 | .Q=>rdE l (p+1) (chk (zac (pk 3 l p e=[61])) e) s
 | .N=>(p+1,chk (bD (pk 1 l p e)) e,{ s with nm:=pk 1 l p e })
abbrev smO(l:Z aj)(r:G×U×Sm):=smR l r.1 r.2.1 r.2.2
theorem L9(l:Z aj)(p:G):(fG l p).2.1=((fG l p).2.1.toNat:U)/\(fG l p).2.1.toNat<=l.length:=by
 unfold fG;have hg:=ny (eG l 9) p;cases hx:xS l (pF l 9) p with
 |error e=>grind
 |ok r=>
  rw[hx] at hg;have:=hg.le
  grind
section
variable{l:Z aj}(hl0:l.length<=1000000)(hl:∀t∈l,t.2.2.1.length<=1000000)
include hl0 in
theorem Ql(n p:G)(e:U)(s:Sm):Zbl.j2 n l p e s.k s.o s.a s.b s.c s.u s.e s.nm=zaa (smO l (rdE l p e s)):=by
 unfold Zbl.j2 rdE;simp only[dt];by_cases h:e=0
 ·rw[Y h,Y h,Cv l hl0 p,U4]
  grind [fG]
 grind
include hl in
theorem Bc(p:G)(hp:p<=9000000)(e:U)(s:Sm)(d:Od)(f:Fn)(hd:(d=.A/\f=K.atA)\/(d=.B/\f=K.atB)\/(d=.C/\f=K.atC)):Zdf.g f l p e s.k s.o s.a s.b s.c s.u s.e s.nm=zaa (smO l (rd l p e s d)):=by
 unfold Zdf.g Zdf.f;rw[wM 1 l p e hp,U4];dsimp only;rw[Mt _ (Ma hl 1 p e),U4];dsimp only;rw[gm,U4];dsimp only;rcases hd with⟨rfl,rfl⟩|⟨rfl,rfl⟩|⟨rfl,rfl⟩;·rw[Y rfl];rfl
 ·rw[D (by decide),Y rfl];rfl
 ·rw[D (by decide),D (by decide),Y rfl];rfl
include hl0 in
theorem HZ(p:G)(hp:p<=9000000)(e:U)(s:Sm):Zbl.g [] l p e s.k s.o s.a s.b s.c s.u s.e s.nm=zaa (smO l (rd l p e s .E))/\Zbl.g [61] l p e s.k s.o s.a s.b s.c s.u s.e s.nm=zaa (smO l (rd l p e s .Q)):=by
 constructor;·unfold Zbl.g Zbl.f;rw[D (by decide)];exact Ql hl0 _ p e s
 ·unfold Zbl.g Zbl.f;rw[Y (by decide),wM 3 l p e hp,U4];dsimp only;rw[gm,U4];exact Ql hl0 _ (p+1) _ s
theorem Rx(p:G)(hp:p<=9000000)(e:U)(s:Sm):Zek.g l p e s.k s.o s.a s.b s.c s.u s.e s.nm=zaa (smO l (rd l p e s .N)):=by
 unfold Zek.g Zek.f;rw[wM 1 l p e hp,U4];dsimp only;rw[mq,U4];dsimp only;rw[gm,U4];rfl
def aJ(l:Z aj)(op:U)(many i p:G)(e:U)(s:Sm):G×U×Sm:=
 let p1:=if 0<i then p+1 else p
 let e1:=if 0<i then chk (zac (pk 3 l p e=[44])) e else e
 let s1:=if i+1=many then { s with k:=chK l p1 e1 s } else s
 match (odL s1.k op)[i]? with
 |some d=>rd l p1 e1 s1 d
 |none=>(p1,e1,s1)
def aN(l:Z aj)(op:U)(many:G):G->G->G×U×Sm->G×U×Sm
 |0,_,r=>r
 |m+1,i,r=>aN l op many m (i+1) (aJ l op many i r.1 r.2.1 r.2.2)
abbrev PR:=Str×U×U×U×U×U×zai×Z Item×Str×U×zak
def uX(lb:Str)(e:U)(s:Sm):PR:=if e≠0 then([],0,0,0,0,0,zad,[],[],e,()) else(lb,s.k,s.o,s.a,s.b,s.c,s.u,s.e,s.nm,0,())
def mI(l:Z aj)(lb:Str)(r:G×U×Sm):PR:=uX lb (chk (zac (l.length<=r.1)) r.2.1) r.2.2
theorem wh(p:G)(e:U)(s:Sm)(op:U):(odL (chK l p e s) op).length=(odL s.k op).length:=by
 unfold chK;split;·grind [odL]
 ·split
  ·rename_i h;rw[h.1];rfl
  ·rfl
theorem U1(p:G)(e:U)(s:Sm)(d:Od):(rd l p e s d).2.2.k=s.k:=by
 have h:∀p e,(rdE l p e s).2.2.k=s.k:=λp e=>by grind [rdE]
 cases d<;>first|rfl|exact h _ _
theorem U2(p:G)(e:U)(s:Sm)(d:Od):(rd l p e s d).1<=max (p+1) l.length:=by
 have h:∀p e,(rdE l p e s).1<=max p l.length:=λp e=>by
  grind [rdE,L9]
 cases d with
 |A=>show p+1<=_;omega
 |B=>show p+1<=_;omega
 |C=>show p+1<=_;omega
 |N=>show p+1<=_;omega
 |E=>have:=h p e;show(rdE l p e s).1<=_;omega
 |Q=>exact h (p+1) _
theorem TY(op:U)(many i p:G)(e:U)(s:Sm):(odL (aJ l op many i p e s).2.2.k op).length=(odL s.k op).length:=by
 grind [aJ,U1,wh]
theorem TZ(op:U)(many i p:G)(e:U)(s:Sm):(aJ l op many i p e s).1<=max (p+2) l.length:=by
 grind [aJ,U2]
include hl0 hl in
theorem Td(n:G)(rl)(lb:Str)(op:U)(many i:G)(p:G)(hp:p<=9000000)(e:U)(s:Sm)(d:Od)(hd:(odL s.k op)[i]?=zaa d) :
  Zab.j19 n rl l lb op (many:U) (i:U) (many:U) (i:U) s.k s.o s.a s.b s.c s.u s.e s.nm l p e =
   Zab.j20 n rl l lb op (many:U) (many:U) (i:U) (rd l p e s d).2.2.k (rd l p e s d).2.2.o (rd l p e s d).2.2.a (rd l p e s d).2.2.b (rd l p e s d).2.2.c (rd l p e s d).2.2.u (rd l p e s d).2.2.e (rd l p e s d).2.2.nm l (rd l p e s d).1 (rd l p e s d).2.1:=by
 unfold Zab.j19;have hi:i<(odL s.k op).length:=by
  grind
 have hg:((odL s.k op).map odF).getD ((i:U)).toNat (((0,[]):Fn),(((0,[]):Fn),()))=odF d:=by
  grind
 rw[wE,hg,Y (by grind)];cases d with
 |A=>
  show(if K.rdA=K.rdA then _ else _)=_;rw[Y rfl,Bc hl p hp e s .A _ (.inl ⟨rfl,rfl⟩),U4]
 |B=>
  show(if K.rdB=K.rdA then _ else if K.rdB=K.rdB then _ else _)=_;rw[D (by decide),Y rfl,Bc hl p hp e s .B _ (.inr (.inl ⟨rfl,rfl⟩)),U4]
 |C=>
  show(if K.rdC=K.rdA then _ else if K.rdC=K.rdB then _ else if K.rdC=K.rdC then _ else _)=_;rw[D (by decide),D (by decide),Y rfl,Bc hl p hp e s .C _ (.inr (.inr ⟨rfl,rfl⟩)),U4]
 |E=>
  show(if K.rdE=K.rdA then _ else if K.rdE=K.rdB then _ else if K.rdE=K.rdC then _ else if K.rdE=K.rdE then _ else _)=_;rw[D (by decide),D (by decide),D (by decide),Y rfl,(HZ hl0 p hp e s).1,U4]
 |Q=>
  show(if K.rdQ=K.rdA then _ else if K.rdQ=K.rdB then _ else if K.rdQ=K.rdC then _ else if K.rdQ=K.rdE then _ else if K.rdQ=K.rdQ then _ else _)=_;rw[D (by decide),D (by decide),D (by decide),D (by decide),Y rfl,(HZ hl0 p hp e s).2,U4]
 |N=>
  show(if K.rdN=K.rdA then _ else if K.rdN=K.rdB then _ else if K.rdN=K.rdC then _ else if K.rdN=K.rdE then _ else if K.rdN=K.rdQ then _ else if K.rdN=K.rdN then _ else _)=_;rw[D (by decide),D (by decide),D (by decide),D (by decide),D (by decide),Y rfl,Rx p hp e s,U4]
include hl0 hl in
theorem JM(n:G)(lb:Str)(op:U)(many:G)(h3:many<=3):∀(M m i:G) (p:G) (e:U) (s:Sm),i+m=many->m<M->p<=8000000+10*i->(odL s.k op).length=many ->
  Zab.l13 n M l lb op (many:U) (many:U) (i:U) s.k s.o s.a s.b s.c s.u s.e s.nm l p e=zaa (mI l lb (aN l op many m i (p,e,s))):=by
 intro M
 induction M with
 |zero=>grind
 |succ M ih=>
  intro m i p e s him hm hp hk;rw[Zab.l13];simp only[dt];cases m with
  |zero=>
   rw[D (by omega),gm,U4];dsimp only[aN];unfold Zab.j22 mI uX;simp only[dt];have:zac ((l.length:U)<=(p:U))=zac (l.length<=p):=by
    grind
   grind
  |succ m=>
   rw[Y (by omega)];dsimp only[aN];have hsk:=TY (l:=l) op many i p e s;have hsp:=TZ (l:=l) op many i p e s;have nxt:=λh=>ih m (i+1) (aJ l op many i p e s).1 (aJ l op many i p e s).2.1 (aJ l op many i p e s).2.2 (by omega) (by omega) (by omega) h
   rw[hsk] at nxt;have nxt:=nxt hk;have J:∀(p1:G) (e1:U),p1<=9000000->p1=(if 0<i then p+1 else p)->e1=(if 0<i then chk (zac (pk 3 l p e=[44])) e else e) ->
     Zab.j17 n (Zab.l13 n M) l lb op (many:U) (i:U) (many:U) (i:U) s.k s.o s.a s.b s.c s.u s.e s.nm l p1 e1=zaa (mI l lb (aN l op many m (i+1) (aJ l op many i p e s))):=by
    intro p1 e1 hp1 hp1' he1';have fin:∀s1:Sm,s1=(if i+1=many then { s with k:=chK l p1 e1 s } else s)->Zab.j19 n (Zab.l13 n M) l lb op (many:U) (i:U) (many:U) (i:U) s1.k s1.o s1.a s1.b s1.c s1.u s1.e s1.nm l p1 e1=zaa (mI l lb (aN l op many m (i+1) (aJ l op many i p e s))):=by
     intro s1 hs1;have hlen:(odL s1.k op).length=many:=by
      grind [wh]
     obtain⟨d,hd⟩:∃d,(odL s1.k op)[i]?=zaa d:=⟨_,Ve (by omega)⟩
     grind [aJ,Td,Zab.j20,w64]
    unfold Zab.j17;simp only[dt];have hw:zaf.wrap ((many:U)-1)=(many:U)-1:=w64 (by omega);rw[hw];by_cases hlast:i+1=many
    ·rw[Y (by omega),KL hl p1 e1 s,U4]
     grind
    grind
   by_cases h0:0<i
   ·rw[Y (by omega),wM 3 l p e (by omega),U4];dsimp only;rw[gm,U4]
    grind
   grind
def jv(l:Z aj)(lb:Str)(p:G)(e:U):PR:=
 if e=0/\p<l.length then
  let t:=l.getD p aQ
  let w:=L.ofR t.2.2.1
  let ok:=w.2.2.2.1&&(zac (t.1=4) == zac (w.1=9\/w.1=10))&&(zac (t.1=4)||zac (t.1=1))
  mI l lb (aN l w.2.1 (odL w.1 w.2.1).length (odL w.1 w.2.1).length 0 (p+1,chk ok e,⟨w.1,w.2.1,0,0,0,w.2.2.1,[],[]⟩))
 else uX lb e ⟨0,0,0,0,0,zad,[],[]⟩
def mF(l:Z aj):PR:=
 if 1<l.length/\(l.getD 0 aQ).1=1/\iw l 1 58=zab then jv l (l.getD 0 aQ).2.2.1 2 (chk (ax (l.getD 0 aQ).2.2.1) 0) else jv l [] 0 0
include hl0 hl in
theorem Q5(n:G)(hn:10<=n)(lb:Str)(p:G)(hp:p<=2)(e:U):Zab.j5 n l lb 0 0 0 0 0 zad [] [] l p e=zaa (jv l lb p e):=by
 unfold Zab.j5 jv;simp only[dt];by_cases he:e=0
 ·rw[Y he];by_cases hp':p<l.length
  ·rw[Y (by omega),Y (by omega),Y ⟨he,hp'⟩,Vj];unfold L.nameOfO;rw[U4];generalize l.getD p aQ=t;generalize L.ofR t.2.2.1=w;have J9:∀ok:zai,Zab.j9 n l lb w.1 w.2.1 w.2.2.1 0 0 0 0 0 zad [] [] l (p:U) (chk ok e)=zaa (mI l lb (aN l w.2.1 (odL w.1 w.2.1).length (odL w.1 w.2.1).length 0 (p+1,chk ok e,⟨w.1,w.2.1,0,0,0,w.2.2.1,[],[]⟩))):=λok=>by
    unfold Zab.j9;have hlen:((L.opsR w.1 w.2.1).length:U)=((odL w.1 w.2.1).length:U):=by rw[wE,VL]
    rw[hlen,w64 (by omega)];have h3:=wD w.1 w.2.1;exact JM hl0 hl n lb w.2.1 (odL w.1 w.2.1).length h3 n (odL w.1 w.2.1).length 0 (p+1) (chk ok e) ⟨w.1,w.2.1,0,0,0,w.2.2.1,[],[]⟩ (by omega) (by omega) (by omega) rfl
   cases hok:w.2.2.2.1 with
   |false=>
    simp_all [gm]
   |true=>
    rw[Y rfl,BJ,U4];dsimp only;cases hq:(zac (t.1=4) == zac (w.1=9\/w.1=10)) with
    |false=>
     simp_all [gm]
    |true=>
     rw[Y rfl];by_cases h4:t.1=4;·simp_all [gm]
     ·rw[Y (by simp[h4]),gm,U4,decide_eq_false h4];exact J9 _
  simp_all [D,Zab.j22,uX]
 simp_all [Zab.j22,uX]
include hl0 hl in
theorem Cw:Zab.g l=zaa (mF l):=by
 unfold Zab.g;have hn:10<=1000+l.length:=by omega
 generalize 1000+l.length=n at hn;unfold Zab.f mF;have H:=Q5 hl0 hl n hn;have H0:=H [] 0 (by decide) 0;rw[show((0:G):U)=0 from rfl] at H0;simp only[dt];have t0:((0:U)).toNat=0:=rfl;have t1:((1:U)).toNat=1:=rfl;rw[t0,t1];by_cases h1:1<l.length
 ·rw[Y (by omega),Y (by omega)];by_cases k0:(l.getD 0 aQ).1=1
  ·rw[Y k0,Y (by omega)];by_cases k1:(l.getD 1 aQ).1=3
   ·rw[Y k1,Y (by omega)];by_cases k2:(l.getD 1 aQ).2.2.1=[58]
    ·rw[Y k2,Y (by omega),nT,U4];dsimp only;rw[gm,U4,Y ⟨h1,k0,bW.2 ⟨h1,k1,k2⟩⟩]
     grind
    simp_all [bW]
   simp_all [bW]
  grind
 grind
end
end Rv
namespace Rv
open Go
theorem lJ{a:U}(h:rg a):bY (rn a)=(a,zab):=by
 have:∀k:G,k<16->bY (gz k)=((k:U),zab):=by decide +kernel
 have h2:=this a.toNat (by have:=h.1;have:=h.2;omega)
 unfold rn;rw[h2];have:=h.1
 grind
theorem Ms:bY []=(0,zad):=by decide +kernel
theorem GG{s:Str}(h:ax s=zab):(bY s).2=zad:=by
 unfold bY;cases hf:(List.range 16).find? (λk=>gz k == s) with
 |none=>rfl
 |some k=>
  obtain⟨h1,h2⟩:=sG hf;have:∀k:G,k<16->ax (gz k)=zad:=by decide +kernel
  grind
theorem kQ{l:Z aj}{p:G}{kd:U}{tx:Str}{v:U}{k:Z Bt}(h:At l p ((kd,tx,v)::k)):pk kd l p 0=tx:=by
 obtain⟨h1,h2,_⟩:=At.cons h;simp_all [bare,pk]
theorem Pm{l:Z aj}{p:G}{kd:U}{b:Bt}{k:Z Bt}(h:At l p (b::k))(hb:b.1≠kd):pk kd l p 0=[]:=by
 obtain⟨h1,h2,_⟩:=At.cons h;unfold pk;rw[D (λg=>hb (by rw[<- h2];exact g.2.2))]
theorem vC{l:Z aj}{p:G}{k:Z Bt}{a:U}(ha:rg a)(h:At l p ((1,rn a,0)::k))(s:Sm):rd l p 0 s .A=(p+1,0,{ s with a:=a }):=by
 show(p+1,chk (bY (pk 1 l p 0)).2 0,{ s with a:=(bY (pk 1 l p 0)).1 })=_;rw[kQ h,lJ ha];rfl
theorem Ps{l:Z aj}{p:G}{k:Z Bt}{a:U}(ha:rg a)(h:At l p ((1,rn a,0)::k))(s:Sm):rd l p 0 s .B=(p+1,0,{ s with b:=a }):=by
 show(p+1,chk (bY (pk 1 l p 0)).2 0,{ s with b:=(bY (pk 1 l p 0)).1 })=_;rw[kQ h,lJ ha];rfl
theorem Pt{l:Z aj}{p:G}{k:Z Bt}{a:U}(ha:rg a)(h:At l p ((1,rn a,0)::k))(s:Sm):rd l p 0 s .C=(p+1,0,{ s with c:=a }):=by
 show(p+1,chk (bY (pk 1 l p 0)).2 0,{ s with c:=(bY (pk 1 l p 0)).1 })=_;rw[kQ h,lJ ha];rfl
theorem UZ{l:Z aj}{p:G}{k:Z Bt}{nm:Str}(hn:bD nm=zab)(h:At l p ((1,nm,0)::k))(s:Sm):rd l p 0 s .N=(p+1,0,{ s with nm:=nm }):=by
 show(p+1,chk (bD (pk 1 l p 0)) 0,{ s with nm:=pk 1 l p 0 })=_;rw[kQ h,hn];rfl
def yP(x:Tr)(p:G)(s:Sm):G×U×Sm:=if x.dep<=8 then(p+x.toks.length,0,{ s with e:=x.post }) else(0,24,{ s with e:=[] })
theorem Bb{l:Z aj}(hl:l.length<=1000000){p:G}{x:Tr}(hx:iV x){K:Z Bt}(hK:noS dO K/\noS dU K)(h:At l p (x.toks++K))(s:Sm):rd l p 0 s .E=yP x p s:=by
 obtain⟨g1,g2⟩:=KX hx.1 l p K hl hx.2.2.2 h hK.1 hK.2;rw[Cv l hl p] at g1 g2;show rdE l p 0 s=_;unfold rdE yP
 grind
theorem U0{l:Z aj}(hl:l.length<=1000000){p:G}{x:Tr}(hx:iV x){K:Z Bt}(hK:noS dO K/\noS dU K)(h:At l p ((3,[61],0)::(x.toks++K)))(s:Sm):rd l p 0 s .Q=yP x (p+1) s:=by
 obtain⟨_,_,h2⟩:=At.cons h;rw[<- Bb hl hx hK h2 s];show rdE l (p+1) (chk (zac (pk 3 l p 0=[61])) 0) s=rdE l (p+1) 0 s;rw[kQ h];rfl
theorem Nt(b:zai){l:Z Bt}(h:∃b r,l=b::r/\(b.1=1->ax b.2.1=zab)/\b.2.1≠[58]):∃x r,brk b l=x::r/\(x.1=1->ax x.2.1=zab)/\x.2.1≠[58]:=by
 unfold brk;split;·simp_all [tLp]
 ·exact h
theorem vR:∀t:Tr,t.ok->∃b r,t.toks=b::r/\(b.1=1->ax b.2.1=zab)/\b.2.1≠[58]
 | .num n,h=>by
  refine⟨_,_,rfl,λh=>(by cases h),λe=>?_⟩;have e:Lib.itoa n=[58]:=e;obtain⟨m,rfl⟩:∃m:G,n=m:=⟨n.toNat,by have:=h.1;omega⟩
  have hi:Lib.itoa (m:U)=Lib.decDigits m:=by simp_all [Lib.itoa,D]
  have:=(wm m).1;rw[<- hi,e] at this;exact absurd this (by decide)
 | .nam s,h=>by
  refine⟨_,_,rfl,λ_=>h,λe=>?_⟩;have h:ax s=zab:=h;have e:s=[58]:=e;rw[e] at h;exact absurd h (by decide)
 | .neg x,_=>⟨Bl,_,rfl,λh=>(by cases h),by decide⟩
 | .br x,_=>⟨tLp,_,rfl,λh=>(by cases h),by decide⟩
 | .bin o a b,h=>by
  obtain⟨x,r,h1,h2,h3⟩:=Nt (zac (a.tight<o.tight)) (vR a h.1);exact⟨x,_,by show brk _ _++_=_;rw[h1];rfl,h2,h3⟩
theorem EJ{l:Z aj}{p:G}{x:Tr}(hx:x.ok){k:Z Bt}(h:At l p (x.toks++k)):(bY (pk 1 l p 0)).2=zad:=by
 obtain⟨b,r,h1,h2,_⟩:=vR x hx;rw[h1] at h;by_cases hb:b.1=1;·obtain⟨b1,b2,b3⟩:=b;have hb:b1=1:=hb;subst hb;rw[kQ h];exact GG (h2 rfl)
 ·rw[Pm h hb,Ms]
theorem kg{l:Z aj}{op:U}{many p:G}{s:Sm}{d:Od}(hm:many≠1)(hd:(odL s.k op)[0]?=zaa d):aJ l op many 0 p 0 s=rd l p 0 s d:=by
 unfold aJ
 grind
theorem FE{l:Z aj}{op:U}{many i p:G}{s:Sm}{d:Od}{k:Z Bt}(h0:0<i)(hm:i+1≠many)(hd:(odL s.k op)[i]?=zaa d)(h:At l p ((3,[44],0)::k)):aJ l op many i p 0 s=rd l (p+1) 0 s d:=by
 unfold aJ;dsimp only;rw[Y h0,Y h0,D hm,hd,kQ h];rfl
theorem nG{l:Z aj}{op:U}{many i p:G}{s:Sm}{d:Od}{k:Z Bt}{K:U}(h0:0<i)(hm:i+1=many)(hK:chK l (p+1) 0 s=K)(hd:(odL K op)[i]?=zaa d)(h:At l p ((3,[44],0)::k)):aJ l op many i p 0 s=rd l (p+1) 0 { s with k:=K } d:=by
 unfold aJ;have hc:chk (zac (pk 3 l p 0=[44])) 0=0:=by rw[kQ h];rfl
 grind
theorem lM{l:Z aj}{op:U}{many p:G}{s:Sm}{d:Od}{K:U}(hm:many=1)(hK:chK l p 0 s=K)(hd:(odL K op)[0]?=zaa d):aJ l op many 0 p 0 s=rd l p 0 { s with k:=K } d:=by
 simp_all [aJ]
def jW(q:G)(s:Sm)(t:zae Tr)(r:G×U×Sm):Prop:=
 ((∀x,t=zaa x->x.dep<=8)->r=(q,0,s))/\((∃x,t=zaa x/\¬x.dep<=8)->∃s',r=(0,24,s'))
theorem lc{q:G}{s:Sm}{p:G}(hp:p=q):jW q s zaj (p,0,s):=⟨λ_=>by rw[hp],λ⟨x,h,_⟩=>by cases h⟩
theorem lg{q:G}{s s':Sm}{x:Tr}{p:G}(hp:p+x.toks.length=q)(hs:{ s' with e:=x.post }=s):jW q s (zaa x) (yP x p s'):=by
 unfold yP;constructor;·grind
 ·rintro⟨y,hy,hd⟩;obtain rfl:=U6 hy;simp_all [D]
theorem At.end{l:Z aj}{p:G}(h:At l p [])(hp:p<=l.length):p=l.length:=by
 unfold At at h;have:=congrArg List.length h
 grind
theorem At.tot{l:Z aj}{p:G}{k:Z Bt}(h:At l p k)(hp:p<=l.length):p+k.length=l.length:=by
 unfold At at h
 grind
theorem eF{l:Z aj}{p:G}{e:U}{s:Sm}(h1:s.k≠1)(h7:s.k≠7):chK l p e s=s.k:=by
 simp_all [chK]
theorem LD{l:Z aj}(hl:l.length<=1000000){s:Sm}{t:zae Tr}(h:GoodS s t)(h0:s.k≠0){K:Z Bt}(hK:noS dO K/\noS dU K){p:G}(hp:p<=l.length)(hat:At l p (Dv ((odL s.k s.o).map (wtk s t))++K)) :
  jW (l.length-K.length) s t (aN l s.o (odL (hk s.k) s.o).length (odL (hk s.k) s.o).length 0 (p,0,⟨hk s.k,s.o,0,0,0,s.u,[],[]⟩)):=by
 cases h with
 |none=>grind
 |ins0 h hk0=>
  cases h with
  |reg q1 q2 ha hb hc hu=>
   rename_i o a b c u;dsimp only at hat⊢;rw[fA q1] at hat
   have hat:At l p ((1,rn a,0)::(3,[44],0)::(1,rn b,0)::(3,[44],0)::(1,rn c,0)::K):=hat
   obtain⟨_,_,a1⟩:=At.cons hat
   obtain⟨_,_,a2⟩:=At.cons a1;obtain⟨_,_,a3⟩:=At.cons a2;obtain⟨_,_,a4⟩:=At.cons a3;rw[show hk 1=1 from rfl,fA q1];show jW _ _ _ (aN l o 3 3 0 (p,0,_));simp only[aN];rw[kg (d:=.A) (by decide) (by rw[fA q1];rfl),vC ha hat];dsimp only;rw[FE (d:=.B) (by decide) (by decide) (by rw[fA q1];rfl) a1,Ps hb a2];dsimp only;rw[nG (K:=1) (d:=.C) (by decide) (by decide) (by
    unfold chK;rw[kQ a4,lJ hc,D (by grind),D (by grind)]) (by rw[fA q1];rfl) a3,Pt hc a4]
   exact lc (by have:=At.tot hat hp;grind)
  |mov ha hc=>
   rename_i a c;have hat:At l p ((1,rn a,0)::(3,[44],0)::(1,rn c,0)::K):=hat
   obtain⟨_,_,a1⟩:=At.cons hat
   obtain⟨_,_,a2⟩:=At.cons a1;show jW _ _ _ (aN l 0 2 2 0 (p,0,_));simp only[aN];rw[kg (d:=.A) (by decide) rfl,vC ha hat];dsimp only;rw[nG (K:=1) (d:=.C) (by decide) (by decide) (by
    unfold chK;rw[kQ a2,lJ hc,D (by grind),D (by rintro⟨h,_⟩;exact absurd (show(1:U)=7 from h) (by decide))];rfl) rfl a1,Pt hc a2]
   exact lc (by have:=At.tot hat hp;grind)
  |hi ha=>
   rename_i a;have hat:At l p ((1,rn a,0)::K):=hat
   show jW _ _ _ (aN l 0 1 1 0 (p,0,_));simp only[aN];rw[lM (K:=3) (d:=.A) rfl (eF (show(3:U)≠1 by decide) (show(3:U)≠7 by decide)) rfl,vC ha hat];exact lc (by have:=At.tot hat hp;grind)
  |fl ha=>
   rename_i a;have hat:At l p ((1,rn a,0)::K):=hat
   show jW _ _ _ (aN l 0 1 1 0 (p,0,_));simp only[aN];rw[lM (K:=4) (d:=.A) rfl (eF (show(4:U)≠1 by decide) (show(4:U)≠7 by decide)) rfl,vC ha hat];exact lc (by have:=At.tot hat hp;grind)
  |br ho hc=>
   rename_i o c u;have hat:At l p ((1,rn c,0)::K):=hat
   show jW _ _ _ (aN l o 1 1 0 (p,0,_));simp only[aN];rw[lM (K:=6) (d:=.C) rfl (by
    unfold chK;rw[kQ hat,lJ hc,D (by rintro⟨h,_⟩;exact absurd (show(7:U)=1 from h) (by decide)),Y ⟨rfl,rfl⟩]) rfl,Pt hc hat]
   exact lc (by have:=At.tot hat hp;grind)
  |imm=>simp at hk0
  |movi=>simp at hk0
  |mem=>simp at hk0
  |jmp=>simp at hk0
 |@ins1 _ _ _ _ _ _ x h hk0 hx=>
  cases h with
  |imm q1 q2 ha hb hu=>
   rename_i o a b u;dsimp only at hat⊢;rw[wC q1] at hat
   have hat:At l p ((1,rn a,0)::(3,[44],0)::(1,rn b,0)::(3,[44],0)::(x.toks++K)):=by rw[<- Vt x.toks];exact hat
   obtain⟨_,_,a1⟩:=At.cons hat
   obtain⟨_,_,a2⟩:=At.cons a1;obtain⟨_,_,a3⟩:=At.cons a2;obtain⟨_,_,a4⟩:=At.cons a3;rw[show hk 2=1 from rfl,fA q1];show jW _ _ _ (aN l o 3 3 0 (p,0,_));simp only[aN];rw[kg (d:=.A) (by decide) (by rw[fA q1];rfl),vC ha hat];dsimp only;rw[FE (d:=.B) (by decide) (by decide) (by rw[fA q1];rfl) a1,Ps hb a2];dsimp only;rw[nG (K:=2) (d:=.E) (by decide) (by decide) (by
    unfold chK;rw[EJ hx.1 a4,Y ⟨rfl,.inl rfl⟩]) (by rw[wC q1];rfl) a3,Bb hl hx hK a4]
   exact lg (by have:=At.tot hat hp;grind) rfl
  |movi ha=>
   rename_i a u;have hat:At l p ((1,rn a,0)::(3,[44],0)::(x.toks++K)):=by rw[<- Vt x.toks];exact hat
   obtain⟨_,_,a1⟩:=At.cons hat
   obtain⟨_,_,a2⟩:=At.cons a1;show jW _ _ _ (aN l 0 2 2 0 (p,0,_));simp only[aN];rw[kg (d:=.A) (by decide) rfl,vC ha hat];dsimp only;rw[nG (K:=2) (d:=.E) (by decide) (by decide) (by
    unfold chK;rw[EJ hx.1 a2,Y ⟨rfl,.inl rfl⟩]) rfl a1,Bb hl hx hK a2]
   exact lg (by have:=At.tot hat hp;grind) rfl
  |mem q1 q2 ha hb=>
   rename_i o a b;have hat:At l p ((1,rn a,0)::(3,[44],0)::(1,rn b,0)::(3,[44],0)::(x.toks++K)):=by rw[<- Vt x.toks];exact hat
   obtain⟨_,_,a1⟩:=At.cons hat
   obtain⟨_,_,a2⟩:=At.cons a1;obtain⟨_,_,a3⟩:=At.cons a2;obtain⟨_,_,a4⟩:=At.cons a3;show jW _ _ _ (aN l o 3 3 0 (p,0,_));simp only[aN];rw[kg (d:=.A) (by decide) rfl,vC ha hat];dsimp only;rw[FE (d:=.B) (by decide) (by decide) rfl a1,Ps hb a2];dsimp only;rw[nG (K:=5) (d:=.E) (by decide) (by decide) (eF (show(5:U)≠1 by decide) (show(5:U)≠7 by decide)) rfl a3,Bb hl hx hK a4];exact lg (by have:=At.tot hat hp;grind) rfl
  |jmp ho=>
   rename_i o u;have hat:At l p (x.toks++K):=by rw[<- Vt x.toks];exact hat
   show jW _ _ _ (aN l o 1 1 0 (p,0,_));simp only[aN];rw[lM (K:=7) (d:=.E) rfl (by
    unfold chK;rw[EJ hx.1 hat,D (by rintro⟨h,_⟩;exact absurd (show(7:U)=1 from h) (by decide)),D (by grind)];rfl) rfl,Bb hl hx hK hat]
   exact lg (by have:=At.tot hat hp;grind) rfl
  |reg=>simp at hk0
  |mov=>simp at hk0
  |hi=>simp at hk0
  |fl=>simp at hk0
  |br=>simp at hk0
 |@load a x ha hx=>
  have hat:At l p ((1,rn a,0)::(3,[44],0)::(3,[61],0)::(x.toks++K)):=by rw[<- Vt x.toks];exact hat
  obtain⟨_,_,a1⟩:=At.cons hat
  obtain⟨_,_,a2⟩:=At.cons a1;show jW _ _ _ (aN l 0 2 2 0 (p,0,_));simp only[aN];rw[kg (d:=.A) (by decide) rfl,vC ha hat];dsimp only;rw[nG (K:=8) (d:=.Q) (by decide) (by decide) (eF (show(8:U)≠1 by decide) (show(8:U)≠7 by decide)) rfl a1,U0 hl hx hK a2];exact lg (by have:=At.tot hat hp;grind) rfl
 |@word x hx=>
  have hat:At l p (x.toks++K):=by rw[<- Vt x.toks];exact hat
  show jW _ _ _ (aN l 0 1 1 0 (p,0,_));simp only[aN];rw[lM (K:=9) (d:=.E) rfl (eF (show(9:U)≠1 by decide) (show(9:U)≠7 by decide)) rfl,Bb hl hx hK hat];exact lg (by have:=At.tot hat hp;grind) rfl
 |@exp nm hn=>
  have hat:At l p ((1,nm,0)::K):=hat
  show jW _ _ _ (aN l 0 1 1 0 (p,0,_));simp only[aN];rw[lM (K:=10) (d:=.N) rfl (eF (show(10:U)≠1 by decide) (show(10:U)≠7 by decide)) rfl,UZ hn hat];exact lc (by have:=At.tot hat hp;grind)
end Rv
namespace Rv
open Go
theorem Le(k:U):(hk k=9\/hk k=10)↔(k=9\/k=10):=by
 grind [hk]
def smP(lb:Str)(s:Sm):PR:=(lb,s.k,s.o,s.a,s.b,s.c,s.u,s.e,s.nm,0,())
def noP(e:U):PR:=([],0,0,0,0,0,zad,[],[],e,())
def fQ(t:zae Tr):Prop:=∀x,t=zaa x->x.dep<=8
theorem oM{b:zai}{e:U}(h:e≠0):chk b e=e:=by simp_all [chk]
theorem Pv{l:Z aj}{p:G}{e:U}{s:Sm}(h:e≠0)(d:Od):(rd l p e s d).2.1=e:=by
 have hE:∀p,(rdE l p e s).2.1=e:=λp=>by unfold rdE;rw[D h]
 cases d with
 |E=>exact hE p
 |Q=>
  show(rdE l (p+1) (chk (zac (pk 3 l p e=[61])) e) s).2.1=e
  grind [oM]
 |_=>exact oM h
theorem Ki{l:Z aj}{op:U}{many i p:G}{e:U}{s:Sm}(h:e≠0):(aJ l op many i p e s).2.1=e:=by
 grind [aJ,oM,Pv]
theorem zt{l:Z aj}{op:U}{many:G}{e:U}(h:e≠0):∀(m i:G) (r:G×U×Sm),r.2.1=e->(aN l op many m i r).2.1=e
 |0,_,_,hr=>hr
 |m+1,i,r,hr=>zt h m (i+1) _ (by rw[hr];exact Ki h)
theorem BO{l:Z aj}{lb:Str}{r:G×U×Sm}{e:U}(h:e≠0)(hr:r.2.1=e):mI l lb r=noP e:=by
 unfold mI uX;rw[hr,oM h,Y h];rfl
abbrev OQ(K:Z Bt):Prop:=noS dO K/\noS dU K
theorem OU:OQ []:=⟨HY _,HY _⟩
theorem JF:OQ [(3,[44],0)]:=by
 constructor<;>(intro b r h g;grind)
theorem Jl{l:Z aj}{lb:Str}{p:G}(hp:p<l.length)(h:(L.ofR (l.getD p aQ).2.2.1).2.2.2.1=zad):jv l lb p 0=noP 22:=by
 unfold jv;rw[Y ⟨rfl,hp⟩];dsimp only;rw[h];exact BO (by decide) (zt (by decide) _ _ _ rfl)
theorem zf{l:Z aj}(hl:l.length<=1000000){s:Sm}{t:zae Tr}(h:GoodS s t){lb:Str}{K:Z Bt}(hK:K=[]\/K=[(3,[44],0)]){p:G}(hp:p<=l.length)(hat:At l p (stk s t++K)) :
  (fQ t->jv l lb p 0=if K=[] then smP lb s else noP 22)/\(¬fQ t->jv l lb p 0=noP 24):=by
 have hKe:OQ K:=by rcases hK with rfl|rfl;exact OU;exact JF
 by_cases h0:s.k=0
 ·have hs:s=⟨0,0,0,0,0,zad,[],[]⟩/\t=zaj:=by
   cases h with
   |none=>grind
   |ins0 h hk=>grind
   |ins1 h hk _=>grind
   |load _ _=>grind
   |word _=>grind
   |exp _=>grind
  obtain⟨rfl,rfl⟩:=hs;refine⟨λ_=>?_,λg=>absurd (λx hx=>by cases hx) g⟩;rcases hK with rfl|rfl
  ·have hat:At l p []:=hat
   have he:=At.end hat hp;rw[Y rfl];unfold jv;rw[D (λg=>by omega)];rfl
  ·have hat:At l p [(3,[44],0)]:=hat
   obtain⟨a1,a2,_⟩:=At.cons hat
   rw[D (by simp)];refine Jl a1 ?_;simp only[bare,Vd] at a2;rw[a2.2.1];decide +kernel
 ·have hstk:stk s t=mtk s::Dv ((odL s.k s.o).map (wtk s t)):=by unfold stk;rw[D h0]
  rw[hstk] at hat
  obtain⟨a1,a2,a3⟩:=At.cons hat
  have hm:=uF h h0;have hof:=(Rw hm).1;simp only[bare,mtk,Vd] at a2;have hk10:=He h;have hloop:=LD hl h h0 hKe (by omega) a3;unfold jv;rw[Y ⟨rfl,a1⟩];dsimp only;rw[a2.2.1,hof,a2.1];dsimp only;have hok:(zab&&(zac ((if s.k=9\/s.k=10 then(4:U) else 1)=4) == zac (hk s.k=9\/hk s.k=10))&&(zac ((if s.k=9\/s.k=10 then(4:U) else 1)=4)||zac ((if s.k=9\/s.k=10 then(4:U) else 1)=1)))=zab:=by
   by_cases hd:s.k=9\/s.k=10;·simp_all [Le]
   simp_all [Le]
  rw[hok,show chk zab 0=0 from rfl];generalize aN l s.o (odL (hk s.k) s.o).length (odL (hk s.k) s.o).length 0 (p+1,0,⟨hk s.k,s.o,0,0,0,s.u,[],[]⟩)=r at hloop;obtain⟨e1,e2⟩:=hloop;constructor
  ·intro hd;rw[e1 hd];unfold mI;dsimp only;rcases hK with rfl|rfl
   ·rw[decide_eq_true (show l.length<=l.length-([]:Z Bt).length from U7 _)];rfl
   ·rw[decide_eq_false (show ¬l.length<=l.length-([(3,[44],0)]:Z Bt).length by simp;omega),D (by simp)];rfl
  ·intro hd;obtain⟨s',e⟩:=e2 (by
    apply Classical.byContradiction;intro hc;exact hd λx hx=>Classical.byContradiction λhx2=>hc ⟨x,hx,hx2⟩)
   rw[e];exact BO (by decide) rfl
theorem Kj{s:Sm}{t:zae Tr}(h:GoodS s t){b c:Bt}{r:Z Bt}(e:stk s t=b::c::r):c.2.1≠[58]:=by
 have hod:=nz h;have hname:∀n:Str,ax n=zab->n≠[58]:=λn hn e=>by rw[e] at hn;exact absurd hn (by decide)
 have hreg:∀a,rg a->rn a≠[58]:=λa ha e=>by
  have:=lK ha;rw[e] at this;exact absurd this (by decide)
 have first:∀d:Od,pW s t d->∀x y,wtk s t d=x::y->x.2.1≠[58]:=by
  intro d hd x y he;cases d with
  |A=>obtain⟨rfl,_⟩:=List.cons.inj he;exact hreg _ hd
  |B=>obtain⟨rfl,_⟩:=List.cons.inj he;exact hreg _ hd
  |C=>obtain⟨rfl,_⟩:=List.cons.inj he;exact hreg _ hd
  |N=>obtain⟨rfl,_⟩:=List.cons.inj he;exact hname _ (kM hd)
  |Q=>obtain⟨rfl,_⟩:=List.cons.inj he;decide
  |E=>
   obtain⟨z,rfl,hz,_⟩:=hd;obtain⟨b',r',h1,_,h3⟩:=vR z hz.1;have he:z.toks=x::y:=he
   grind
 have ne:∀d:Od,pW s t d->wtk s t d≠[]:=by
  intro d hd;cases d with
  |E=>obtain⟨z,rfl,hz,_⟩:=hd;exact Bo z
  |_=>simp[wtk]
 unfold stk at e;split at e;·cases e
 ·have e2:=(List.cons.inj e).2;cases hl:odL s.k s.o with
  |nil=>rw[hl] at e2;cases e2
  |cons d ds=>
   rw[hl] at e2 hod;have hd:=hod d (VD ..);cases hw:wtk s t d with
   |nil=>grind
   |cons x y=>
    have e3:wtk s t d++((ds.map (wtk s t)).map ((3,[44],0)::·)).flatten=c::r:=e2
    grind
theorem FQ:∀x:Tr,x.ok->∀b∈x.toks,b.2.1.length<=1000:=by
 have hb:∀(q:zai) (l:Z Bt),(∀b∈l,b.2.1.length<=1000)->∀b∈brk q l,b.2.1.length<=1000:=by
  intro q l h b hm;unfold brk at hm;split at hm
  ·simp only[Vg,Vk,VR,or_false] at hm;rcases hm with rfl|hm|rfl
   ·decide
   ·exact h b hm
   ·decide
  ·exact h b hm
 intro x
 induction x with
 |num n=>
  intro h b hm;have hm:b∈[((2:U),Lib.itoa n,n)]:=hm;simp only[Vu] at hm;subst hm;have:=gW (.num n) h trivial;exact Vv this (show 20*1<=1000 by decide)
 |nam s=>
  intro h b hm;have hm:b∈[((1:U),s,(0:U))]:=hm;simp only[Vu] at hm;subst hm;have:=gW (.nam s) h trivial;exact Vv this (show 20*1<=1000 by decide)
 |neg x ih=>
  intro h b hm;have hm:b∈Bl::brk (zac (x.tight<2)) x.toks:=hm;simp only[Vg] at hm;rcases hm with rfl|hm;·decide
  ·exact hb _ _ (ih h) b hm
 |br x ih=>intro h b hm;exact hb zab _ (ih h) b hm
 |bin o a c iha ihc=>
  intro h b hm;have hm:b∈brk (zac (a.tight<o.tight)) a.toks++tOp o::brk (zac (c.tight<o.tight+1)) c.toks:=hm;simp only[Vk,Vg] at hm;rcases hm with hm|rfl|hm;·exact hb _ _ (iha h.1) b hm
  ·show([o.byte]:Str).length<=1000;simp
  ·exact hb _ _ (ihc h.2) b hm
theorem Cf{lb:Str}(h:ax lb=zab):lb.length<=12:=by
 simp_all [ax]
theorem Iz{s:Sm}{t:zae Tr}(h:GoodS s t):∀b∈stk s t,b.2.1.length<=1000:=by
 have hod:=nz h;have hr:∀a,(rn a).length<=1000:=λa=>Vv (yx _) (by decide)
 have one:∀d:Od,pW s t d->∀b∈wtk s t d,b.2.1.length<=1000:=by
  intro d hd b hb;cases d with
  |A=>grind [wtk]
  |B=>grind [wtk]
  |C=>grind [wtk]
  |N=>simp only[wtk,Vu] at hb;subst hb;exact Vv (Cf (kM hd)) (by decide)
  |E=>obtain⟨z,rfl,hz,_⟩:=hd;exact FQ z hz.1 b hb
  |Q=>
   obtain⟨z,rfl,hz,_⟩:=hd;simp only[wtk,Vg] at hb;rcases hb with rfl|hb;·decide
   ·exact FQ z hz.1 b hb
 intro b hb;unfold stk at hb;split at hb;·cases hb
 ·simp only[Vg] at hb;rcases hb with rfl|hb
  ·exact Vv (oh _ _ _) (by decide)
  ·cases hl:odL s.k s.o with
   |nil=>rw[hl] at hb;cases hb
   |cons d ds=>
    rw[hl] at hb hod;have hb:b∈wtk s t d++((ds.map (wtk s t)).map ((3,[44],0)::·)).flatten:=hb
    grind
theorem Nn{l:Z aj}{k:Z Bt}(hb:l.map bare=k)(h:∀b∈k,b.2.1.length<=1000):∀t∈l,t.2.2.1.length<=1000000:=by
 intro t ht;have:=h (bare t) (by grind);exact Vv this (by decide)
theorem OH{s:Sm}{t:zae Tr}(h:GoodS s t){lb:Str}(hlb:lb=[]\/ax lb=zab):∀b∈ltk lb s t,b.2.1.length<=1000:=by
 intro b hb;unfold ltk at hb;split at hb;·exact Iz h b hb
 ·rename_i hne;simp only[Vg] at hb;rcases hb with rfl|rfl|hb
  ·grind [Cf]
  ·decide
  ·exact Iz h b hb
theorem OX{l:Z aj}{s:Sm}{t:zae Tr}(h:GoodS s t){K:Z Bt}(hK:K=[]\/K=[(3,[44],0)])(hat:At l 0 (stk s t++K)):¬(1<l.length/\(l.getD 0 aQ).1=1/\iw l 1 58=zab):=by
 rintro⟨h1,_,h3⟩;obtain⟨h1,_,h3⟩:=bW.1 h3;have tot:=At.tot hat (by omega)
 match hs:stk s t with
 |[]=>grind
 |[b]=>
  rw[hs] at tot hat
  rcases hK with rfl|rfl;·grind
  ·obtain⟨_,_,a1⟩:=At.cons hat
   obtain⟨_,a2,_⟩:=At.cons a1;simp_all [bare]
 |b::c::r=>
  rw[hs] at hat
  obtain⟨_,_,a1⟩:=At.cons hat
  obtain⟨_,a2,_⟩:=At.cons a1;exact Kj h hs (by rw[<- a2];exact h3)
theorem Gt{l:Z aj}(hl:l.length<=1000000){s:Sm}{t:zae Tr}(h:GoodS s t){lb:Str}(hlb:lb=[]\/ax lb=zab){K:Z Bt}(hK:K=[]\/K=[(3,[44],0)])(hb:l.map bare=ltk lb s t++K) :
  (fQ t->Zab.g l=zaa (if K=[] then smP lb s else noP 22))/\(¬fQ t->Zab.g l=zaa (noP 24)):=by
 have hlen:∀t∈l,t.2.2.1.length<=1000000:=by
  refine Nn hb λb hb=>?_
  rcases Vk.1 hb with hb|hb;·exact OH h hlb b hb
  grind
 rw[Cw hl hlen];have hat0:At l 0 (ltk lb s t++K):=by grind [At]
 unfold mF;by_cases hne:lb=[]
 ·subst hne;have hat:At l 0 (stk s t++K):=hat0;rw[D (OX h hK hat)];obtain⟨g1,g2⟩:=zf hl h (lb:=[]) hK (Nat.zero_le _) hat
  grind
 ·have hok:=hlb.resolve_left hne;have hat:At l 0 ((1,lb,0)::(3,[58],0)::(stk s t++K)):=by simp_all [ltk]
  obtain⟨b0,b1,a1⟩:=At.cons hat
  obtain⟨b2,b3,a2⟩:=At.cons a1;simp only[bare,Vd] at b1 b3;rw[Y ⟨b2,b1.1,bW.2 ⟨b2,b3.1,b3.2.1⟩⟩,b1.2.1,hok,show chk zab 0=0 from rfl];obtain⟨g1,g2⟩:=zf hl h (lb:=lb) hK (show 0+1+1<=l.length from b2) a2
  grind
theorem JL{l:Z aj}(hl:l.length<=1000000){s:Sm}{t:zae Tr}(h:GoodS s t){lb:Str}(hlb:lb=[]\/ax lb=zab)(hb:l.map bare=ltk lb s t) :
  (fQ t->Zab.g l=zaa (smP lb s))/\(¬fQ t->Zab.g l=zaa (noP 24)):=by
 have:=Gt hl h hlb (.inl rfl) (by grind)
 grind
theorem MV{s:Sm}{t:zae Tr}(h:GoodS s t){lb:Str}(hlb:lb=[]\/ax lb=zab) :
  ∃ts:Z aj,ts.map bare=ltk lb s t/\ts.length<=5000/\Zah.g (ltx lb s t)=zaa (ts,0,())/\(fQ t->Zab.g ts=zaa (smP lb s))/\(¬fQ t->Zab.g ts=zaa (noP 24)):=by
 have hlen:=AP h hlb;obtain⟨ts,h1,h2⟩:=J7 (MG h hlb) (by omega);have hts:ts.length<=5000:=by
  have:=(wW (k:=0) (s:=ltx lb s t))
  rw[wz _ (by omega)] at h2
  grind
 grind [JL]
end Rv
namespace Rv
open Go
def dK:Str->Z Str
 |[]=>[]
 |b::s=>if b=10 then[]::dK s else match dK s with
  |[]=>[[b]]
  |l::r=>(b::l)::r
theorem FC(c:UInt8):∀s,L.splitR c s≠[]
 |[]=>by simp[L.splitR]
 |b::s=>by
  rw[L.splitR];split;·simp
  ·split<;>simp
def nk(l:Z Str):Z Str:=if l.getD (l.length-1) []=[] then l.take (l.length-1) else l
theorem vT(x:Str){l:Z Str}(h:l≠[]):nk (x::l)=x::nk l:=by
 obtain⟨y,r,rfl⟩:=List.exists_cons_of_ne_nil h;unfold nk;have e:(x::y::r).getD ((x::y::r).length-1) []=(y::r).getD ((y::r).length-1) []:=rfl;rw[e];split;·rfl
 ·rfl
theorem wX:∀s:Str,nk (L.splitR 10 s)=dK s
 |[]=>rfl
 |b::s=>by
  have ih:=wX s;have hne:=FC 10 s;rw[L.splitR,dK];by_cases h:b=10;·rw[Y h,Y h,vT _ hne,ih]
  ·rw[D h,D h,<- ih];obtain⟨y,r,hs⟩:=List.exists_cons_of_ne_nil hne;rw[hs];dsimp only;cases r with
   |nil=>
    have h1:nk [b::y]=[b::y]:=by unfold nk;rw[D (by simp)]
    rw[h1];unfold nk;cases y with
    |nil=>rfl
    |cons c t=>rw[D (by simp)]
   |cons z r=>
    rw[vT (b::y) (l:=z::r) (by simp),vT y (l:=z::r) (by simp)]
theorem rP:∀s:Str,(dK s).length<=s.length/\∀l∈dK s,l.length<=s.length
 |[]=>⟨U7 _,λl h=>by cases h⟩
 |b::s=>by
  obtain⟨h1,h2⟩:=rP s;rw[dK];split
  ·refine⟨by simp;omega,λl hl=>?_⟩;rcases Vg.1 hl with rfl|hl
   ·simp
   ·have:=h2 l hl;simp;omega
  ·split
   ·refine⟨by simp,λl hl=>?_⟩;rw[Vu] at hl;subst hl;simp
   ·rename_i x r hx;rw[hx] at h1 h2;refine⟨by simp at h1⊢;omega,λl hl=>?_⟩;rcases Vg.1 hl with rfl|hl
    ·have:=h2 x (VD ..);simp;omega
    ·have:=h2 l (U9 _ hl);simp;omega
theorem rM:∀(n:G) (k:U) (s:Str) (l:Z Tok),s.length<=n->aH k s=.ok l->∀t∈l,t.2.2.1.length<=s.length
 |_,k,[],l,_,h=>by rw[mD] at h;cases h;intro t ht;cases ht
 |0,k,c::r,l,hn,_=>by simp at hn
 |n+1,k,c::r,l,hn,h=>by
  simp only[Vn] at hn⊢;rw[eX] at h;split at h;·cases h;intro t ht;cases ht
  ·split at h
   ·intro t ht;have:=rM n (k+1) r l (by omega) h t ht;omega
   ·split at h
    ·cases h
    ·rename_i d q tx v hT;obtain⟨h1,h2,_⟩:=P7 hT;split at h
     ·cases h
     ·rename_i l' hl;cases h;intro t ht;rcases Vg.1 ht with rfl|ht
      ·simp only;omega
      ·have:=rM n _ _ l' (by simp;omega) hl t ht;simp at this;omega
def lH(s:Str):PR:=let y:=bg [] (aH 0 s);if y.2.1≠0 then noP y.2.1 else mF y.1
abbrev Ao(p:PR):U:=p.2.2.2.2.2.2.2.2.2.1
abbrev lnP(p:PR):Ln:=(p.1,(p.2.1,p.2.2.1,p.2.2.2.1,p.2.2.2.2.1,p.2.2.2.2.2.1,p.2.2.2.2.2.2.1,p.2.2.2.2.2.2.2.1,p.2.2.2.2.2.2.2.2.1,()),())
theorem Kl{k:U}{s:Str}(hs:s.length<=1000000):(bg [] (aH k s)).1.length<=1000000:=Vv wW hs
theorem Cs(s:Str)(hs:s.length<=1000000):Zab.g (bg [] (aH 0 s)).1=zaa (mF (bg [] (aH 0 s)).1):=by
 refine Cw (Kl hs) λt ht=>?_
 have h:∀t∈(bg [] (aH 0 s)).1,t.2.2.1.length<=s.length:=by
  cases h:aH 0 s with
  |error e=>intro t ht;cases ht
  |ok l=>
   intro t ht;have ht:t∈l:=by simpa[bg] using ht
   exact rM s.length 0 s l (U7 _) h t ht
 exact Vv (h t ht) hs
theorem Tx(s:Str)(hs:s.length<=1000000):Zeo.g s=zaa (lH s):=by
 unfold Zeo.g Zeo.f lH;rw[wz s hs,U4];generalize hy:bg [] (aH 0 s)=y;have hp:=Cs s hs;rw[hy] at hp;by_cases h:y.2.1≠0;·rw[Y (by simpa using h)];show _=zaa (if _ then _ else _);rw[Y h];rfl
 ·rw[D (by simpa using h),hp,U4];show _=zaa (if _ then _ else _);rw[D h]
def dY:G->Z Str->Except (G×U) (Z Ln)
 |_,[]=>.ok []
 |i,s::r=>if Ao (lH s)≠0 then .error (i+1,Ao (lH s)) else match dY (i+1) r with
  | .error x=>.error x
  | .ok l=>.ok (lnP (lH s)::l)
def uW(out:Z Ln):Except (G×U) (Z Ln)->Z Ln×U×U×zak
 | .ok l=>(out++l,0,0,())
 | .error x=>([],(x.1:U),x.2,())
theorem KT(l:Z Str)(hl:l.length<=1000000)(hs:∀s∈l,s.length<=1000000)(n:G):∀(m i:G) (out:Z Ln),i<=l.length->l.length-i<m->out.length=i ->
  Zcn.l5 n m out l (l.length:U) (i:U)=zaa (uW out (dY i (l.drop i))):=by
 intro m
 induction m with
 |zero=>intro i out _ h;omega
 |succ m ih=>
  intro i out hi hm ho;rw[Zcn.l5];simp only[dt,Vj];by_cases h:i<l.length
  ·have hd:l.drop i=l.getD i []::l.drop (i+1):=by
    rw[Vs h,Vh,Ve h];rfl
   have hg:l.getD i []∈l:=by rw[Vh,Ve h];exact VI h
   have W1:zaf.wrap ((i:U)+1)=((i+1:G):U):=by rw[w64 (by omega)];omega
   rw[Y (by omega),Y (by omega),Tx _ (hs _ hg),U4,hd,dY,W1];by_cases he:Ao (lH (l.getD i []))≠0;·rw[Y he,Y he];rfl
   ·rw[D he,D he,Y (by simp;omega),ih (i+1) _ (by omega) (by omega) (by simp[ho])];cases dY (i+1) (l.drop (i+1)) with
    |error x=>rfl
    |ok r=>show zaa (_++r,_)=zaa (_++_,_);rw[Vm];rfl
  ·obtain rfl:i=l.length:=by omega
   rw[D (by omega),VH,dY];simp[uW]
def fF(s:Str):Z Ln×U×U×zak:=
 if 262144<s.length then([],0,2,()) else if 4096<(dK s).length then([],0,2,()) else uW [] (dY 0 (dK s))
theorem NS(l:Z Str)(hl:l.length<=1000000)(hs:∀s∈l,s.length<=1000000):Zcn.g l=zaa (if 4096<l.length then([],0,2,()) else uW [] (dY 0 l)):=by
 unfold Zcn.g Zcn.f;by_cases h:4096<l.length;·rw[Y (by simp;omega),Y h]
 ·rw[D (by simp;omega),D h];have:=KT l hl hs (1000+l.length) (1000+l.length) 0 [] (by omega) (by omega) rfl;rw[VB] at this;exact this
theorem CS:∀s:Str,(L.splitR 10 s).length<=s.length+1
 |[]=>U7 _
 |b::s=>by
  have:=CS s;rw[L.splitR];split;·simp;omega
  ·split
   ·simp
   ·rename_i x r hx;rw[hx] at this;simp at this⊢;omega
theorem Cu(s:Str)(hs:s.length<=1000000):Zbm.g s=zaa (fF s):=by
 unfold Zbm.g Zbm.f fF;by_cases h:262144<s.length;·rw[Y (by simp;omega),Y h]
 ·rw[D (by simp;omega),D h];have hO:L.splitO s [10]=zaa (L.splitR 10 s,()):=by unfold L.splitO;dsimp only;rw[Y (by omega)]
  have h1:=CS s;have h2:=List.length_pos_iff.2 (FC 10 s);have ht:=wX s;obtain⟨g1,g2⟩:=rP s;rw[hO,U4];dsimp only;generalize L.splitR 10 s=S at h1 h2 ht;have W:zaf.wrap ((S.length:U)-1)=((S.length-1:G):U):=by rw[w64 (by omega)];omega
  have fin:Zbm.j7 (1000+s.length) (nk S)=zaa (if 4096<(dK s).length then([],0,2,()) else uW [] (dY 0 (dK s))):=by
   rw[ht];unfold Zbm.j7;rw[NS _ (by omega) (λl hl=>by have:=g2 l hl;omega),U4]
  simp only[dt];rw[W,Vj,Y (by omega)];unfold nk at fin;by_cases he:S.getD (S.length-1) []=[]
  ·rw[Y he] at fin;rw[Y he,Y (by omega),VB];exact fin
  ·rw[D he] at fin;rw[D he];exact fin
theorem Ed:∀(l:Z Str) (i:G) (r:Z Ln),dY i l=.ok r->r.length=l.length
 |[],i,r,h=>by rw[dY] at h;cases h;rfl
 |s::l,i,r,h=>by
  rw[dY] at h;split at h;·cases h
  ·cases hr:dY (i+1) l with
   |error x=>rw[hr] at h;cases h
   |ok q=>rw[hr] at h;cases h;simp[Ed l (i+1) q hr]
def Fw(x:Ln):Prop:=x.2.1.2.2.2.2.2.2.1.length<=64
theorem EQ{s:Str}(hs:s.length<=4096):fF s=uW [] (dY 0 (dK s)):=by
 unfold fF;have:=(rP s).1;rw[D (by omega),D (by omega)]
end Rv
namespace Rv
open Go
section
variable{l l':Z aj}(hl:l.length=l'.length)(hb:∀p,bare (l.getD p aQ)=bare (l'.getD p aQ))
end
theorem Ch:∀(u v:Str),10 ∉ u->dK (u++10::v)=u::dK v
 |[],v,_=>by rw[Vw,dK,Y rfl]
 |b::u,v,h=>by
  have h1:b≠10:=λe=>h (by rw[e];exact VD ..)
  rw[List.cons_append,dK,D h1,Ch u v (λg=>h (U9 _ g))]
end Rv
namespace Rv
open Go
def iU(s:Str):Prop:=10 ∉ s
theorem jk{a b:Str}(ha:iU a)(hb:iU b):iU (a++b):=λh=>(Vk.1 h).elim ha hb
theorem x8{s:Str}{p:UInt8->zai}(h:s.all p=zab)(hp:p 10=zad):iU s:=λg=>by
 grind
theorem mW{s:Str}(h:mf s=zab):iU s:=by
 unfold mf at h;rw[Va] at h;exact x8 h.1 (by decide)
theorem rX{s:Str}(h:ax s=zab):iU s:=by
 unfold ax at h;simp only[Va] at h;exact x8 h.1.2 (by decide)
theorem bX{c:UInt8}{s:Str}(hc:c≠10)(hs:iU s):iU (c::s):=λh=>(Vg.1 h).elim (λe=>hc e.symm) hs
theorem jX:iU []:=λh=>by cases h
theorem x9{b:zai}{s:Str}(h:iU s):iU (brkT b s):=by
 grind [brkT,bX,jk,jX]
theorem LU{n:U}(h:0<=n):iU (Lib.itoa n):=by
 obtain⟨m,rfl⟩:∃m:G,n=m:=⟨n.toNat,by omega⟩
 have hi:Lib.itoa (m:U)=Lib.decDigits m:=by simp_all [Lib.itoa]
 rw[hi];exact x8 (wm m).1 (by decide)
theorem lG:∀x:Tr,x.ok->iU x.txt
 | .num n,h=>LU h.1
 | .nam s,h=>rX h
 | .neg x,h=>bX (by decide) (x9 (lG x h))
 | .bin o a b,h=>jk (x9 (lG a h.1)) (jk (bX (by decide) (bX (by cases o<;>decide) (bX (by decide) jX))) (x9 (lG b h.2)))
 | .br x,h=>bX (by decide) (jk (lG x h) (bX (by decide) jX))
theorem Rz{s:Sm}{t:zae Tr}{d:Od}(h:pW s t d):iU (wtx s t d):=by
 cases d with
 |A=>exact mW (lK h)
 |B=>exact mW (lK h)
 |C=>exact mW (lK h)
 |N=>exact rX (kM h)
 |E=>obtain⟨x,rfl,hx,_⟩:=h;exact lG x hx.1
 |Q=>obtain⟨x,rfl,hx,_⟩:=h;exact bX (by decide) (bX (by decide) (lG x hx.1))
theorem LV:∀(l:Z Str),(∀x∈l,iU x)->iU (L.sjoinR [44,32] l)
 |[],_=>jX
 |x::r,h=>by
  refine jk (h x (VD ..)) λg=>?_
  obtain⟨y,hy,hg⟩:=List.mem_flatten.1 g;obtain⟨z,hz,rfl⟩:=Vr.1 hy;exact jk (a:=[44,32]) (bX (by decide) (bX (by decide) jX)) (h z (U9 _ hz)) hg
theorem OW{s:Sm}{t:zae Tr}(h:GoodS s t):iU (stx s t):=by
 unfold stx;split;·exact jX
 ·rename_i h0;have hm:=mW (Cm (uF h h0));refine jk ?_ (bX (by decide) (LV _ λx hx=>?_))
  ·grind [mtx,bX]
  ·obtain⟨d,hd,rfl⟩:=Vr.1 hx;exact Rz (nz h d hd)
theorem OV{s:Sm}{t:zae Tr}(h:GoodS s t){lb:Str}(hlb:lb=[]\/ax lb=zab):iU (ltx lb s t):=by
 grind [ltx,OW,jk,rX,bX,jX]
structure GLn where
 lb:Str
 s:Sm
 t:zae Tr
 hl:lb=[]\/ax lb=zab
 hg:GoodS s t
abbrev lnS(lb:Str)(s:Sm):Ln:=(lb,(s.k,s.o,s.a,s.b,s.c,s.u,s.e,s.nm,()),())
abbrev GLn.ln(x:GLn):Ln:=lnS x.lb x.s
abbrev GLn.tx(x:GLn):Str:=ltx x.lb x.s x.t
theorem O8(x:GLn):(fQ x.t->lH x.tx=smP x.lb x.s)/\(¬fQ x.t->lH x.tx=noP 24):=by
 obtain⟨ts,hb,hn,hs,g1,g2⟩:=MV x.hg x.hl;have hlen:=AP x.hg x.hl
 grind [wz,Cs,lH]
def txL(l:Z GLn):Str:=(l.map λx=>x.tx++[10]).flatten
theorem Ci:∀(l:Z GLn),dK (txL l)=l.map GLn.tx
 |[]=>rfl
 |x::l=>by
  have e:txL (x::l)=x.tx++10::txL l:=by grind [txL]
  rw[e,Ch _ _ (OV x.hg x.hl),Ci l];rfl
theorem IG:∀(l:Z GLn),(txL l).length<=5001*l.length
 |[]=>U7 _
 |x::l=>by
  have h1:=AP x.hg x.hl;have h2:=IG l;have e:txL (x::l)=(x.tx++[10])++txL l:=rfl
  grind
theorem PS:∀(l:Z Str),L.sjoinR [10] (l++[[]])=(l.map (·++[10])).flatten
 |[]=>rfl
 |x::l=>by
  have ih:∀m:Z Str,((m++[[]]).map (([10]:Str)++·)).flatten=[10]++(m.map (·++[10])).flatten:=by
   intro m
   induction m with
   |nil=>rfl
   |cons y m ih=>grind
  show x++((l++[[]]).map (([10]:Str)++·)).flatten=(x++[10])++(l.map (·++[10])).flatten;rw[ih];simp
theorem Gy(l:Z GLn)(hl:l.length<=4096)(n:G):∀(m i:G) (out:Z Str),i<=l.length->l.length-i<m->out.length=i ->
  Zcx.l5 n m out (l.map GLn.ln) ((l.map GLn.ln).length:U) (i:U)=zaa (out++(l.drop i).map GLn.tx,0,0,()):=by
 intro m
 induction m with
 |zero=>grind
 |succ m ih=>
  intro i out hi hm ho;rw[Zcx.l5];simp only[dt,Vj,VL];by_cases h:i<l.length
  ·have hd:l.drop i=l[i]::l.drop (i+1):=Vs h;have hg:(l.map GLn.ln).getD i zL=(l[i]).ln:=by
    grind
   have W1:zaf.wrap ((i:U)+1)=((i+1:G):U):=by grind [w64]
   rw[Y (by omega),Y (by omega),hg,hd];generalize l[i]=x;have hp:Zad.g x.lb x.s.k x.s.o x.s.a x.s.b x.s.c x.s.u x.s.e x.s.nm=zaa (x.tx,0,()):=JP x.hg x.hl;have hp1:Zen.g x.lb x.s.k x.s.o x.s.a x.s.b x.s.c x.s.u x.s.e x.s.nm=zaa (x.tx,0,()):=by
    grind [Zen.g,Zen.f]
   rw[hp1,U4];dsimp only;rw[D (show ¬(0:U)≠0 by decide),Y (by simp;omega),W1];have:=ih (i+1) (out++[x.tx]) (by omega) (by omega) (by simp[ho])
   grind
  grind
theorem Bn(l:Z GLn)(hl:l.length<=4096):Zdv.g (l.map GLn.ln)=zaa (txL l,0,0,()):=by
 unfold Zdv.g Zdv.f Zcx.g Zcx.f;rw[D (by simp;omega)];have:=Gy l hl (1000+(l.map GLn.ln).length) (1000+(l.map GLn.ln).length) 0 [] (by omega) (by grind) rfl;rw[show((0:G):U)=0 from rfl,VB,Vw] at this;rw[this,U4];dsimp only;have hj:L.sjoinR [10] (l.map GLn.tx++[[]])=txL l:=by
  rw[PS,List.map_map];rfl
 have hlen:=IG l;have hm:5001*l.length<=5001*4096:=Nat.mul_le_mul_left _ hl;rw[D (show ¬zac ((0:U)≠0)=zab by decide),Y (by simp;omega)];unfold L.sjoinO
 grind
end Rv
namespace Rv
open Go
theorem fB{b:zai}{e:U}(h:chk b e=0):e=0/\b=zab:=by
 unfold chk at h;split at h;·exact absurd h (by decide)
 ·rename_i g;refine⟨h,?_⟩;cases b
  ·exact absurd ⟨rfl,h⟩ g
  ·rfl
def ja(e:U):Prop:=e=0\/e=22\/e=23\/e=24
theorem gY{b:zai}{e:U}(h:ja e):ja (chk b e):=by
 unfold chk;split;·exact .inr (.inl rfl)
 ·exact h
theorem yz{s:Str}(h:(bY s).2=zab):rg (bY s).1:=by
 unfold bY at h⊢;cases hf:(List.range 16).find? (λk=>gz k == s) with
 |none=>rw[hf] at h;cases h
 |some k=>have:=(sG hf).1;exact⟨by dsimp only;omega,by dsimp only;omega⟩
section
variable{l:Z aj}(hw:∀t∈l,0<=t.2.2.2.1/\t.2.2.2.1<=4294967295)
theorem JK(p:G):ja (fG l p).2.2.1:=by
 unfold fG;have hg:=ny (eG l 9) p;cases hx:xS l (pF l 9) p with
 |error e=>rw[hx] at hg;rcases hg with rfl|rfl;exact .inr (.inr (.inl rfl));exact .inr (.inr (.inr rfl))
 |ok r=>dsimp only;split;exact .inr (.inr (.inr rfl));exact .inl rfl
include hw in
theorem Gs{p:G}(h:(fG l p).2.2.1=0):∃t,iV t/\(fG l p).1=t.post:=by
 unfold fG at h⊢;have hg:=ny (eG l 9) p;cases hx:xS l (pF l 9) p with
 |error e=>
  rw[hx] at h hg;have h:e=0:=h;rcases hg with rfl|rfl<;>cases h
 |ok r=>
  rw[hx] at h hg;dsimp only at h⊢;split at h;·cases h
  ·rename_i h64;rw[D h64];obtain⟨t,h1,h2,h3⟩:=Sk hg.well (hg.good hw);exact⟨t,⟨h2,h3,by rw[h1];exact hg.well,by rw[h1];omega⟩,h1.symm⟩
theorem EX{p:G}{e:U}{s:Sm}{d:Od}(h:(rd l p e s d).2.1=0):e=0:=by
 have hE:∀p e,(rdE l p e s).2.1=0->e=0:=λp e h=>by
  unfold rdE at h;split at h;·assumption
  ·exact h
 cases d with
 |A=>exact(fB h).1
 |B=>exact(fB h).1
 |C=>exact(fB h).1
 |N=>exact(fB h).1
 |E=>exact hE _ _ h
 |Q=>exact(fB (hE _ _ h)).1
theorem Uz{p:G}{e:U}{s:Sm}{d:Od}(h:ja e):ja (rd l p e s d).2.1:=by
 have hE:∀p e,ja e->ja (rdE l p e s).2.1:=λp e h=>by
  unfold rdE;split;·exact JK p
  ·exact h
 cases d with
 |A=>exact gY h
 |B=>exact gY h
 |C=>exact gY h
 |N=>exact gY h
 |E=>exact hE _ _ h
 |Q=>exact hE _ _ (gY h)
theorem step_ok{op:U}{many i p:G}{e:U}{s:Sm}(h:ja e):ja (aJ l op many i p e s).2.1:=by
 unfold aJ;dsimp only;have h1:ja (if 0<i then chk (zac (pk 3 l p e=[44])) e else e):=by split;exact gY h;exact h
 split;·exact Uz h1
 ·exact h1
theorem AO{op:U}{many:G}:∀(m i:G) (r:G×U×Sm),ja r.2.1->ja (aN l op many m i r).2.1
 |0,_,_,h=>h
 |m+1,i,r,h=>AO m (i+1) _ (step_ok h)
theorem bJ{op:U}{many i p:G}{e:U}{s:Sm}(h:(aJ l op many i p e s).2.1=0):e=0:=by
 unfold aJ at h;dsimp only at h;have h1:(if 0<i then chk (zac (pk 3 l p e=[44])) e else e)=0->e=0:=λh=>by
  split at h;·exact(fB h).1
  ·exact h
 split at h;·exact h1 (EX h)
 ·exact h1 h
theorem qG{p:G}{s:Sm}(h:(rd l p 0 s .A).2.1=0):∃a,rg a/\(rd l p 0 s .A).2.2={ s with a:=a }:=⟨_,yz (fB h).2,rfl⟩
theorem Ml{p:G}{s:Sm}(h:(rd l p 0 s .B).2.1=0):∃a,rg a/\(rd l p 0 s .B).2.2={ s with b:=a }:=⟨_,yz (fB h).2,rfl⟩
theorem EW{p:G}{e:U}{s:Sm}(h:(rd l p e s .C).2.1=0):∃a,rg a/\(rd l p e s .C).2.2={ s with c:=a }:=⟨_,yz (fB h).2,rfl⟩
theorem TG{p:G}{s:Sm}(h:(rd l p 0 s .N).2.1=0):∃a,bD a=zab/\(rd l p 0 s .N).2.2={ s with nm:=a }:=⟨_,(fB h).2,rfl⟩
include hw in
theorem qH{p:G}{e:U}{s:Sm}(h:(rdE l p e s).2.1=0):∃t,iV t/\(rdE l p e s).2.2={ s with e:=t.post }:=by
 unfold rdE at h⊢;split at h;·rename_i he;rw[Y he];obtain⟨t,h1,h2⟩:=Gs hw h;exact⟨t,h1,by dsimp only;rw[h2]⟩
 ·rename_i he;exact absurd h he
theorem sQ{op:U}{many p:G}{s:Sm}{d:Od}(hm:many≠1)(hd:(odL s.k op)[0]?=zaa d):aJ l op many 0 p 0 s=rd l p 0 s d:=kg hm hd
theorem MK{op:U}{many i p:G}{s:Sm}{d:Od}(h0:0<i)(hm:i+1≠many)(hd:(odL s.k op)[i]?=zaa d)(h:(aJ l op many i p 0 s).2.1=0):aJ l op many i p 0 s=rd l (p+1) 0 s d:=by
 have key:aJ l op many i p 0 s=rd l (p+1) (chk (zac (pk 3 l p 0=[44])) 0) s d:=by
  unfold aJ;dsimp only;rw[Y h0,Y h0,D hm,hd]
 rw[key] at h⊢;rw[EX h]
theorem wL{op:U}{many i p:G}{s:Sm}(h0:0<i)(hm:i+1=many)(hl:i<(odL s.k op).length)(h:(aJ l op many i p 0 s).2.1=0):∃K d,chK l (p+1) 0 s=K/\(odL K op)[i]?=zaa d/\aJ l op many i p 0 s=rd l (p+1) 0 { s with k:=K } d:=by
 obtain⟨d,hd⟩:∃d,(odL (chK l (p+1) (chk (zac (pk 3 l p 0=[44])) 0) s) op)[i]?=zaa d:=⟨_,Ve (by rw[wh];exact hl)⟩
 have key:aJ l op many i p 0 s=rd l (p+1) (chk (zac (pk 3 l p 0=[44])) 0) { s with k:=chK l (p+1) (chk (zac (pk 3 l p 0=[44])) 0) s } d:=by
  unfold aJ;dsimp only;rw[Y h0,Y h0,Y hm];dsimp only;rw[hd]
 have he:chk (zac (pk 3 l p 0=[44])) 0=0:=by rw[key] at h;exact EX h
 rw[he] at key hd;exact⟨_,d,rfl,hd,key⟩
theorem qL{op:U}{p:G}{s:Sm}(hl:0<(odL s.k op).length):∃K d,chK l p 0 s=K/\(odL K op)[0]?=zaa d/\aJ l op 1 0 p 0 s=rd l p 0 { s with k:=K } d:=by
 obtain⟨d,hd⟩:∃d,(odL (chK l p 0 s) op)[0]?=zaa d:=⟨_,Ve (by rw[wh];exact hl)⟩
 exact⟨_,d,rfl,hd,lM rfl rfl hd⟩
theorem GY{p:G}{s:Sm}(h:s.k=1):chK l p 0 s=2\/(chK l p 0 s=1/\¬(s.u=zab/\s.o=0)):=by
 unfold chK;split;·exact .inl rfl
 ·rename_i g;rw[D (λq=>by omega)];exact .inr ⟨h,λq=>g ⟨h,.inr q⟩⟩
theorem KJ{p:G}{s:Sm}(h:s.k=7):chK l p 0 s=6\/chK l p 0 s=7:=by
 unfold chK;rw[D (λq=>by omega)];split;·exact .inl rfl
 ·exact .inr h
theorem RA:∀e∈L.nameTbl,(e.2.1.1=1/\0<=e.2.1.2.1/\e.2.1.2.1<12/\(e.2.1.2.2=zab->e.2.1.2.1=0\/8<=e.2.1.2.1/\e.2.1.2.1<=10))\/((e.2.1.1=3\/e.2.1.1=4\/e.2.1.1=8\/e.2.1.1=9\/e.2.1.1=10)/\e.2.1.2.1=0/\e.2.1.2.2=zad)\/(e.2.1.1=5/\0<=e.2.1.2.1/\e.2.1.2.1<4/\e.2.1.2.2=zad)\/(e.2.1.1=7/\0<=e.2.1.2.1/\e.2.1.2.1<16):=by decide +kernel
theorem O6{s:Str}(h:(L.ofR s).2.2.2.1=zab):∃k o u,L.ofR s=(k,o,u,zab,())/\((k=1/\0<=o/\o<12/\(u=zab->o=0\/8<=o/\o<=10))\/((k=3\/k=4\/k=8\/k=9\/k=10)/\o=0/\u=zad)\/(k=5/\0<=o/\o<4/\u=zad)\/(k=7/\0<=o/\o<16)):=by
 unfold L.ofR at h⊢;cases hf:L.nameTbl.find? λe=>e.2.2 == s with
 |none=>rw[hf] at h;cases h
 |some e=>exact⟨e.2.1.1,e.2.1.2.1,e.2.1.2.2,rfl,RA e (List.mem_of_find?_eq_some hf)⟩
include hw in
theorem Kk{k o:U}{u:zai}(hk:(k=1/\0<=o/\o<12/\(u=zab->o=0\/8<=o/\o<=10))\/((k=3\/k=4\/k=8\/k=9\/k=10)/\o=0/\u=zad)\/(k=5/\0<=o/\o<4/\u=zad)\/(k=7/\0<=o/\o<16))(p:G){e:U}
  (h:(aN l o (odL k o).length (odL k o).length 0 (p,e,⟨k,o,0,0,0,u,[],[]⟩)).2.1=0):∃t,GoodS (aN l o (odL k o).length (odL k o).length 0 (p,e,⟨k,o,0,0,0,u,[],[]⟩)).2.2 t:=by
 have hnil:∀{α:Type}{x:α}{i:G},([]:Z α)[i]?=zaa x->False:=λh=>by simp at h
 rcases hk with⟨rfl,ho,ho2,hu⟩|⟨hk,rfl,rfl⟩|⟨rfl,ho,ho2,rfl⟩|⟨rfl,ho,ho2⟩
 ·by_cases h0:o=0
  ·subst h0;have e1:(odL 1 0).length=2:=rfl;rw[e1] at h⊢;simp only[aN] at h⊢;generalize hr0:aJ l 0 2 0 p e ⟨1,0,0,0,0,u,[],[]⟩=r0 at h⊢;generalize hr1:aJ l 0 2 1 r0.1 r0.2.1 r0.2.2=r1 at h⊢;have z0:r0.2.1=0:=by rw[<- hr1] at h;exact bJ h
   have ze:e=0:=by rw[<- hr0] at z0;exact bJ z0
   subst ze;rw[sQ (d:=.A) (by decide) rfl] at hr0;obtain⟨a,ha,hs⟩:=qG (l:=l) (p:=p) (s:=⟨1,0,0,0,0,u,[],[]⟩) (by rw[hr0];exact z0);rw[hr0] at hs;rw[z0,hs] at hr1;obtain⟨K,d,hK,hd,hst⟩:=wL (l:=l) (op:=0) (many:=2) (i:=1) (p:=r0.1) (s:=⟨1,0,a,0,0,u,[],[]⟩) (by decide) rfl (by show 1<2;decide) (by rw[hr1];exact h);rw[hst] at hr1;rcases GY (l:=l) (p:=r0.1+1) (s:=⟨1,0,a,0,0,u,[],[]⟩) rfl with c|⟨c,hn⟩
   ·rw[hK] at c;subst c;obtain rfl:d=.E:=by have hd:zaa Od.E=zaa d:=hd;exact(U6 hd).symm
    obtain⟨t,ht,hs2⟩:=qH hw (p:=r0.1+1) (e:=0) (s:=⟨2,0,a,0,0,u,[],[]⟩) (by show(rd l (r0.1+1) 0 _ .E).2.1=0;rw[hr1];exact h);have hs2:(rd l (r0.1+1) 0 ⟨2,0,a,0,0,u,[],[]⟩ .E).2.2=_:=hs2;rw[hr1] at hs2;rw[hs2];exact⟨zaa t,.ins1 (.movi ha) (.inl rfl) ht⟩
   ·rw[hK] at c;subst c;obtain rfl:d=.C:=by have hd:zaa Od.C=zaa d:=hd;exact(U6 hd).symm
    obtain⟨c,hc,hs2⟩:=EW (l:=l) (p:=r0.1+1) (e:=0) (s:=⟨1,0,a,0,0,u,[],[]⟩) (by rw[hr1];exact h);rw[hr1] at hs2;rw[hs2];have:u=zad:=by cases u;rfl;exact absurd ⟨rfl,rfl⟩ hn
    subst this;exact⟨zaj,.ins0 (.mov ha hc) (.inl rfl)⟩
  ·have hop:0<o:=by omega
   have e1:(odL 1 o).length=3:=by rw[fA hop];rfl
   rw[e1] at h⊢;simp only[aN] at h⊢;generalize hr0:aJ l o 3 0 p e ⟨1,o,0,0,0,u,[],[]⟩=r0 at h⊢;generalize hr1:aJ l o 3 1 r0.1 r0.2.1 r0.2.2=r1 at h⊢;generalize hr2:aJ l o 3 2 r1.1 r1.2.1 r1.2.2=r2 at h⊢;have z1:r1.2.1=0:=by rw[<- hr2] at h;exact bJ h
   have z0:r0.2.1=0:=by rw[<- hr1] at z1;exact bJ z1
   have ze:e=0:=by rw[<- hr0] at z0;exact bJ z0
   subst ze;rw[sQ (d:=.A) (by decide) (by rw[fA hop];rfl)] at hr0;obtain⟨a,ha,hs⟩:=qG (l:=l) (p:=p) (s:=⟨1,o,0,0,0,u,[],[]⟩) (by rw[hr0];exact z0);rw[hr0] at hs;rw[z0,hs] at hr1;rw[MK (d:=.B) (by decide) (by decide) (by rw[fA hop];rfl) (by rw[hr1];exact z1)] at hr1;obtain⟨b,hb,hs1⟩:=Ml (l:=l) (p:=r0.1+1) (s:=⟨1,o,a,0,0,u,[],[]⟩) (by rw[hr1];exact z1);rw[hr1] at hs1;rw[z1,hs1] at hr2;obtain⟨K,d,hK,hd,hst⟩:=wL (l:=l) (op:=o) (many:=3) (i:=2) (p:=r1.1) (s:=⟨1,o,a,b,0,u,[],[]⟩) (by decide) rfl (by show 2<(odL 1 o).length;rw[e1];decide) (by rw[hr2];exact h);rw[hst] at hr2;have hu':u=zab->8<=o/\o<=10:=λq=>(hu q).resolve_left h0
   rcases GY (l:=l) (p:=r1.1+1) (s:=⟨1,o,a,b,0,u,[],[]⟩) rfl with c|⟨c,hn⟩
   ·rw[hK] at c;subst c;rw[wC hop] at hd;obtain rfl:d=.E:=by have hd:zaa Od.E=zaa d:=hd;exact(U6 hd).symm
    obtain⟨t,ht,hs2⟩:=qH hw (p:=r1.1+1) (e:=0) (s:=⟨2,o,a,b,0,u,[],[]⟩) (by show(rd l (r1.1+1) 0 _ .E).2.1=0;rw[hr2];exact h);have hs2:(rd l (r1.1+1) 0 ⟨2,o,a,b,0,u,[],[]⟩ .E).2.2=_:=hs2;rw[hr2] at hs2;rw[hs2];exact⟨zaa t,.ins1 (.imm hop ho2 ha hb hu') (.inl rfl) ht⟩
   ·rw[hK] at c;subst c;rw[fA hop] at hd;obtain rfl:d=.C:=by have hd:zaa Od.C=zaa d:=hd;exact(U6 hd).symm
    obtain⟨c,hc,hs2⟩:=EW (l:=l) (p:=r1.1+1) (e:=0) (s:=⟨1,o,a,b,0,u,[],[]⟩) (by rw[hr2];exact h);rw[hr2] at hs2;rw[hs2];exact⟨zaj,.ins0 (.reg hop ho2 ha hb hc hu') (.inl rfl)⟩
 ·rcases hk with rfl|rfl|rfl|rfl|rfl
  ·have e1:(odL 3 0).length=1:=rfl;rw[e1] at h⊢;simp only[aN] at h⊢;have ze:e=0:=bJ h;subst ze;obtain⟨K,d,hK,hd,hst⟩:=qL (l:=l) (op:=0) (p:=p) (s:=⟨3,0,0,0,0,zad,[],[]⟩) (by show 0<1;decide);rw[eF (show(3:U)≠1 by decide) (show(3:U)≠7 by decide)] at hK;have hK:3=K:=hK;subst hK;obtain rfl:d=.A:=by have hd:zaa Od.A=zaa d:=hd;exact(U6 hd).symm
   rw[hst] at h⊢;obtain⟨a,ha,hs⟩:=qG h;rw[hs];exact⟨zaj,.ins0 (.hi ha) (.inr (.inl rfl))⟩
  ·have e1:(odL 4 0).length=1:=rfl;rw[e1] at h⊢;simp only[aN] at h⊢;have ze:e=0:=bJ h;subst ze;obtain⟨K,d,hK,hd,hst⟩:=qL (l:=l) (op:=0) (p:=p) (s:=⟨4,0,0,0,0,zad,[],[]⟩) (by show 0<1;decide);rw[eF (show(4:U)≠1 by decide) (show(4:U)≠7 by decide)] at hK;have hK:4=K:=hK;subst hK;obtain rfl:d=.A:=by have hd:zaa Od.A=zaa d:=hd;exact(U6 hd).symm
   rw[hst] at h⊢;obtain⟨a,ha,hs⟩:=qG h;rw[hs];exact⟨zaj,.ins0 (.fl ha) (.inr (.inr (.inl rfl)))⟩
  ·have e1:(odL 8 0).length=2:=rfl;rw[e1] at h⊢;simp only[aN] at h⊢;generalize hr0:aJ l 0 2 0 p e ⟨8,0,0,0,0,zad,[],[]⟩=r0 at h⊢;generalize hr1:aJ l 0 2 1 r0.1 r0.2.1 r0.2.2=r1 at h⊢;have z0:r0.2.1=0:=by rw[<- hr1] at h;exact bJ h
   have ze:e=0:=by rw[<- hr0] at z0;exact bJ z0
   subst ze;rw[sQ (d:=.A) (by decide) rfl] at hr0;obtain⟨a,ha,hs⟩:=qG (l:=l) (p:=p) (s:=⟨8,0,0,0,0,zad,[],[]⟩) (by rw[hr0];exact z0);rw[hr0] at hs;rw[z0,hs] at hr1;obtain⟨K,d,hK,hd,hst⟩:=wL (l:=l) (op:=0) (many:=2) (i:=1) (p:=r0.1) (s:=⟨8,0,a,0,0,zad,[],[]⟩) (by decide) rfl (by show 1<2;decide) (by rw[hr1];exact h);rw[hst] at hr1;rw[eF (show(8:U)≠1 by decide) (show(8:U)≠7 by decide)] at hK;have hK:8=K:=hK;subst hK;obtain rfl:d=.Q:=by have hd:zaa Od.Q=zaa d:=hd;exact(U6 hd).symm
   obtain⟨t,ht,hs2⟩:=qH hw (p:=r0.1+1+1) (e:=chk (zac (pk 3 l (r0.1+1) 0=[61])) 0) (s:=⟨8,0,a,0,0,zad,[],[]⟩) (by show(rd l (r0.1+1) 0 _ .Q).2.1=0;rw[hr1];exact h);have hs2:(rd l (r0.1+1) 0 ⟨8,0,a,0,0,zad,[],[]⟩ .Q).2.2=_:=hs2;rw[hr1] at hs2;rw[hs2];exact⟨zaa t,.load ha ht⟩
  ·have e1:(odL 9 0).length=1:=rfl;rw[e1] at h⊢;simp only[aN] at h⊢;have ze:e=0:=bJ h;subst ze;obtain⟨K,d,hK,hd,hst⟩:=qL (l:=l) (op:=0) (p:=p) (s:=⟨9,0,0,0,0,zad,[],[]⟩) (by show 0<1;decide);rw[eF (show(9:U)≠1 by decide) (show(9:U)≠7 by decide)] at hK;have hK:9=K:=hK;subst hK;obtain rfl:d=.E:=by have hd:zaa Od.E=zaa d:=hd;exact(U6 hd).symm
   rw[hst] at h⊢;obtain⟨t,ht,hs⟩:=qH hw (p:=p) (e:=0) (s:=⟨9,0,0,0,0,zad,[],[]⟩) h;have hs:(rd l p 0 ⟨9,0,0,0,0,zad,[],[]⟩ .E).2.2=_:=hs;rw[hs];exact⟨zaa t,.word ht⟩
  ·have e1:(odL 10 0).length=1:=rfl;rw[e1] at h⊢;simp only[aN] at h⊢;have ze:e=0:=bJ h;subst ze;obtain⟨K,d,hK,hd,hst⟩:=qL (l:=l) (op:=0) (p:=p) (s:=⟨10,0,0,0,0,zad,[],[]⟩) (by show 0<1;decide);rw[eF (show(10:U)≠1 by decide) (show(10:U)≠7 by decide)] at hK;have hK:10=K:=hK;subst hK;obtain rfl:d=.N:=by have hd:zaa Od.N=zaa d:=hd;exact(U6 hd).symm
   rw[hst] at h⊢;obtain⟨a,ha,hs⟩:=TG h;rw[hs];exact⟨zaj,.exp ha⟩
 ·have e1:(odL 5 o).length=3:=rfl;rw[e1] at h⊢;simp only[aN] at h⊢;generalize hr0:aJ l o 3 0 p e ⟨5,o,0,0,0,zad,[],[]⟩=r0 at h⊢;generalize hr1:aJ l o 3 1 r0.1 r0.2.1 r0.2.2=r1 at h⊢;generalize hr2:aJ l o 3 2 r1.1 r1.2.1 r1.2.2=r2 at h⊢;have z1:r1.2.1=0:=by rw[<- hr2] at h;exact bJ h
  have z0:r0.2.1=0:=by rw[<- hr1] at z1;exact bJ z1
  have ze:e=0:=by rw[<- hr0] at z0;exact bJ z0
  subst ze;rw[sQ (d:=.A) (by decide) rfl] at hr0;obtain⟨a,ha,hs⟩:=qG (l:=l) (p:=p) (s:=⟨5,o,0,0,0,zad,[],[]⟩) (by rw[hr0];exact z0);rw[hr0] at hs;rw[z0,hs] at hr1;rw[MK (d:=.B) (by decide) (by decide) rfl (by rw[hr1];exact z1)] at hr1;obtain⟨b,hb,hs1⟩:=Ml (l:=l) (p:=r0.1+1) (s:=⟨5,o,a,0,0,zad,[],[]⟩) (by rw[hr1];exact z1);rw[hr1] at hs1;rw[z1,hs1] at hr2;obtain⟨K,d,hK,hd,hst⟩:=wL (l:=l) (op:=o) (many:=3) (i:=2) (p:=r1.1) (s:=⟨5,o,a,b,0,zad,[],[]⟩) (by decide) rfl (by show 2<(odL 5 o).length;rw[e1];decide) (by rw[hr2];exact h);rw[hst] at hr2;rw[eF (show(5:U)≠1 by decide) (show(5:U)≠7 by decide)] at hK;have hK:5=K:=hK;subst hK;obtain rfl:d=.E:=by have hd:zaa Od.E=zaa d:=hd;exact(U6 hd).symm
  obtain⟨t,ht,hs2⟩:=qH hw (p:=r1.1+1) (e:=0) (s:=⟨5,o,a,b,0,zad,[],[]⟩) (by show(rd l (r1.1+1) 0 _ .E).2.1=0;rw[hr2];exact h);have hs2:(rd l (r1.1+1) 0 ⟨5,o,a,b,0,zad,[],[]⟩ .E).2.2=_:=hs2;rw[hr2] at hs2;rw[hs2];exact⟨zaa t,.ins1 (.mem ho ho2 ha hb) (.inr (.inl rfl)) ht⟩
 ·have e1:(odL 7 o).length=1:=rfl;rw[e1] at h⊢;simp only[aN] at h⊢;have ze:e=0:=bJ h;subst ze;obtain⟨K,d,hK,hd,hst⟩:=qL (l:=l) (op:=o) (p:=p) (s:=⟨7,o,0,0,0,u,[],[]⟩) (by show 0<1;decide);rw[hst] at h⊢;rcases KJ (l:=l) (p:=p) (s:=⟨7,o,0,0,0,u,[],[]⟩) rfl with c|c
  ·rw[hK] at c;subst c;obtain rfl:d=.C:=by have hd:zaa Od.C=zaa d:=hd;exact(U6 hd).symm
   obtain⟨c,hc,hs⟩:=EW h;rw[hs];exact⟨zaj,.ins0 (.br ⟨ho,ho2⟩ hc) (.inr (.inr (.inr rfl)))⟩
  ·rw[hK] at c;subst c;obtain rfl:d=.E:=by have hd:zaa Od.E=zaa d:=hd;exact(U6 hd).symm
   obtain⟨t,ht,hs⟩:=qH hw (p:=p) (e:=0) (s:=⟨7,o,0,0,0,u,[],[]⟩) h;have hs:(rd l p 0 ⟨7,o,0,0,0,u,[],[]⟩ .E).2.2=_:=hs;rw[hs];exact⟨zaa t,.ins1 (.jmp ⟨ho,ho2⟩) (.inr (.inr rfl)) ht⟩
end
end Rv
namespace Rv
open Go
abbrev wfT(l:Z aj):Prop:=∀t∈l,0<=t.2.2.2.1/\t.2.2.2.1<=4294967295
theorem BP{l:Z aj}{lb:Str}{r:G×U×Sm}(he:ja r.2.1):(∃e,(e=22\/e=23\/e=24)/\mI l lb r=noP e)\/(r.2.1=0/\mI l lb r=smP lb r.2.2):=by
 unfold mI uX;have h:=gY (b:=zac (l.length<=r.1)) he;generalize hx:chk (zac (l.length<=r.1)) r.2.1=e' at h;by_cases h0:e'=0;·subst h0;rw[D (by decide)];exact .inr ⟨(fB hx).1,rfl⟩
 ·rw[Y h0];exact .inl ⟨e',h.resolve_left h0,rfl⟩
theorem rG{l:Z aj}(hw:wfT l){lb:Str}{p:G}{e:U}(he:e=0\/e=22):(∃x,(x=22\/x=23\/x=24)/\jv l lb p e=noP x)\/(e=0/\∃s t,GoodS s t/\jv l lb p e=smP lb s):=by
 unfold jv;by_cases h:e=0/\p<l.length
 ·rw[Y h];obtain⟨rfl,hp⟩:=h;dsimp only;generalize l.getD p aQ=t;by_cases hf:(L.ofR t.2.2.1).2.2.2.1=zab
  ·obtain⟨k,o,u,e1,hk⟩:=O6 hf;rw[e1];dsimp only;generalize hq:chk (zab&&(zac (t.1=4) == zac (k=9\/k=10))&&(zac (t.1=4)||zac (t.1=1))) 0=q;have hqe:ja q:=by rw[<- hq];exact gY (.inl rfl)
   rcases BP (l:=l) (lb:=lb) (AO (l:=l) (op:=o) (many:=(odL k o).length) (odL k o).length 0 (p+1,q,⟨k,o,0,0,0,u,[],[]⟩) hqe) with h|⟨h1,h2⟩;·exact .inl h
   ·obtain⟨t',ht⟩:=Kk hw hk (p+1) h1;exact .inr ⟨rfl,_,t',ht,h2⟩
  ·have hf:(L.ofR t.2.2.1).2.2.2.1=zad:=by simpa using hf
   rw[hf];have hq:chk (zad&&(zac (t.1=4) == zac ((L.ofR t.2.2.1).1=9\/(L.ofR t.2.2.1).1=10))&&(zac (t.1=4)||zac (t.1=1))) 0=22:=rfl;rw[hq];rcases BP (l:=l) (lb:=lb) (AO (l:=l) (op:=(L.ofR t.2.2.1).2.1) (many:=(odL (L.ofR t.2.2.1).1 (L.ofR t.2.2.1).2.1).length) (odL (L.ofR t.2.2.1).1 (L.ofR t.2.2.1).2.1).length 0 (p+1,22,⟨(L.ofR t.2.2.1).1,(L.ofR t.2.2.1).2.1,0,0,0,(L.ofR t.2.2.1).2.2.1,[],[]⟩) (.inr (.inl rfl))) with h|⟨h1,_⟩;·exact .inl h
   ·exfalso;have sticky:∀(m i:G) (r:G×U×Sm) (op:U) (many:G),(aN l op many m i r).2.1=0->r.2.1=0:=by
     intro m
     induction m with
     |zero=>intro i r op many h;exact h
     |succ m ih=>intro i r op many h;exact bJ (ih (i+1) _ op many h)
    have h9:(22:U)=0:=sticky _ _ _ _ _ h1;exact absurd h9 (by decide)
 ·rw[D h];unfold uX;rcases he with rfl|rfl
  ·rw[D (by decide)];exact .inr ⟨rfl,_,_,.none,rfl⟩
  ·rw[Y (by decide)];exact .inl ⟨22,.inl rfl,rfl⟩
theorem Gv{l:Z aj}(hw:wfT l):(∃e,(e=22\/e=23\/e=24)/\mF l=noP e)\/(∃lb s t,(lb=[]\/ax lb=zab)/\GoodS s t/\mF l=smP lb s):=by
 unfold mF;split
 ·cases hL:ax (l.getD 0 aQ).2.2.1 with
  |true=>
   rcases rG hw (lb:=(l.getD 0 aQ).2.2.1) (p:=2) (e:=chk zab 0) (.inl rfl) with h|⟨_,s,t,h1,h2⟩;·exact .inl h
   ·exact .inr ⟨_,s,t,.inr hL,h1,h2⟩
  |false=>
   rcases rG hw (lb:=(l.getD 0 aQ).2.2.1) (p:=2) (e:=chk zad 0) (.inr rfl) with h|⟨h,_⟩;·exact .inl h
   ·exact absurd h (by decide)
 ·rcases rG hw (lb:=[]) (p:=0) (e:=0) (.inl rfl) with h|⟨_,s,t,h1,h2⟩
  ·exact .inl h
  ·exact .inr ⟨_,s,t,.inl rfl,h1,h2⟩
end Rv
namespace Rv
open Go
theorem MX{c:UInt8}{r:Str}{d:G}{q:U}{t:Str}{v:U}(h:jc c r=.ok (d,q,t,v)):0<=v/\v<=4294967295:=by
 unfold jc at h;split at h;·cases h;exact⟨by decide,by decide⟩
 ·split at h
  ·split at h
   ·rename_i v' hv;cases h;have:=Tv hv;exact⟨by omega,by omega⟩
   ·cases h
  ·split at h
   ·cases h;exact⟨by decide,by decide⟩
   ·split at h
    ·cases h;exact⟨by decide,by decide⟩
    ·cases h
theorem uN:∀(n:G) (k:U) (s:Str) (l:Z Tok),s.length<=n->aH k s=.ok l->wfT l
 |_,k,[],l,_,h=>by rw[mD] at h;cases h;intro t ht;cases ht
 |0,k,c::r,l,hn,_=>by simp at hn
 |n+1,k,c::r,l,hn,h=>by
  simp only[Vn] at hn;rw[eX] at h;split at h;·cases h;intro t ht;cases ht
  ·split at h
   ·exact uN n (k+1) r l (by omega) h
   ·split at h
    ·cases h
    ·rename_i d q tx v hT;have hv:=MX hT;split at h
     ·cases h
     ·rename_i l' hl;cases h;intro t ht;rcases Vg.1 ht with rfl|ht
      ·exact hv
      ·exact uN n _ _ l' (by simp;omega) hl t ht
theorem Gd(s:Str):wfT (bg [] (aH 0 s)).1:=by
 cases h:aH 0 s with
 |error e=>intro t ht;cases ht
 |ok l=>intro t ht;exact uN s.length 0 s l (U7 _) h t (by simpa[bg] using ht)
theorem L6(s:Str)(h:Ao (lH s)=0):∃lb m t,(lb=[]\/ax lb=zab)/\GoodS m t/\lH s=smP lb m:=by
 unfold lH at h⊢;dsimp only at h⊢;by_cases hy:(bg [] (aH 0 s)).2.1≠0;·rw[Y hy] at h;exact absurd h hy
 ·rw[D hy] at h⊢;rcases Gv (Gd s) with⟨e,he,hp⟩|hp
  ·rw[hp] at h;have h:e=0:=h;omega
  ·exact hp
def Lc(x:Ln):Prop:=(x.1=[]\/ax x.1=zab)/\∃t,GoodS ⟨x.2.1.1,x.2.1.2.1,x.2.1.2.2.1,x.2.1.2.2.2.1,x.2.1.2.2.2.2.1,x.2.1.2.2.2.2.2.1,x.2.1.2.2.2.2.2.2.1,x.2.1.2.2.2.2.2.2.2.1⟩ t
theorem yQ:∀(l:Z Str) (i:G) (r:Z Ln),dY i l=.ok r->∀x∈r,Lc x
 |[],i,r,h=>by rw[dY] at h;cases h;intro x hx;cases hx
 |s::l,i,r,h=>by
  rw[dY] at h;split at h;·cases h
  ·rename_i he;have he:Ao (lH s)=0:=by simpa using he
   cases hr:dY (i+1) l with
   |error x=>rw[hr] at h;cases h
   |ok q=>
    rw[hr] at h;cases h;intro x hx;rcases Vg.1 hx with rfl|hx;·obtain⟨lb,m,t,h1,h2,h3⟩:=L6 s he;rw[h3];exact⟨h1,t,h2⟩
    ·exact yQ l (i+1) q hr x hx
end Rv
namespace Rv
open Go
set_option maxRecDepth 100000
end Rv
namespace Rv
open Go
end Rv
namespace Rv
open Go
theorem parsed(s:Str)(hs:s.length<=4096):(fF s).1.length<=s.length/\∀x∈(fF s).1,Lc x:=by
 rw[EQ hs];have hl:=(rP s).1;cases h:dY 0 (dK s) with
 |error e=>exact⟨Nat.zero_le _,λx hx=>by cases hx⟩
 |ok l=>
  have:=Ed _ _ _ h;refine⟨by show([]++l).length<=_;rw[Vw];omega,λx hx=>yQ _ _ _ h x (by simpa[uW] using hx)⟩
def PV(s:Str):DL:=if(fF s).2.2.1≠0 then wB (fF s).2.1 (fF s).2.2.1 else DX (fF s).1
theorem Sc(s:Str)(hs:s.length<=1000000)(h1:(fF s).1.length<=1000)(h2:∀x∈(fF s).1,(eL x).length<=4611686018427387904):Zdk.g s=zaa (PV s):=by
 unfold Zdk.g Zdk.f PV;rw[Cu s hs,U4];simp only[dt];by_cases h:(fF s).2.2.1=0;·rw[D (by simpa using h),D (by simpa using h),Kz _ h1 h2,U4]
 ·rw[Y (by simpa using h),Y (by simpa using h)];rfl
end Rv
namespace Rv
open Go
def yg(v:U):Tr:=if v<0 then .neg (.num (zah.wrap (-v))) else .num (zah.wrap v)
theorem Cr(v:U):(yg v).post=fE v:=by
 unfold yg fE;split<;>rfl
theorem tq(v:U):(Tr.num (zah.wrap v)).ok:=by
 show 0<=zah.wrap v/\zah.wrap v<=4294967295;rw[IntKind.wrap_u32];omega
theorem H6(v:U):iV (yg v):=by
 unfold yg;split;·exact⟨tq _,trivial,rfl,by show 2<=64;decide⟩
 ·exact⟨tq _,trivial,rfl,by show 1<=64;decide⟩
theorem AV{v:U}(h:(Tr.num v).ok):(Tr.num v).txt.length<=20:=gW (.num v) h trivial
theorem Cq(v:U):(yg v).txt.length<=28/\(yg v).dep<=8:=by
 unfold yg;split
 ·have:=AV (tq (-v));refine⟨?_,by show 1+(0+if(2:G)<2 then 1 else 0)<=8;decide⟩;show(45::brkT (zac ((2:G)<2)) (Tr.num (zah.wrap (-v))).txt).length<=28;have e:brkT (zac ((2:G)<2)) (Tr.num (zah.wrap (-v))).txt=(Tr.num (zah.wrap (-v))).txt:=rfl
  grind
 ·have:=AV (tq v);exact⟨by omega,Nat.zero_le _⟩
theorem LP{k:G}(hk:k<=1024):iV (.nam (nmR (4*(k:U))))/\(Tr.nam (nmR (4*(k:U)))).txt.length<=28/\(Tr.nam (nmR (4*(k:U)))).dep<=8:=by
 obtain⟨h1,h2,_⟩:=rW hk;refine⟨⟨h1,trivial,?_,by show 1<=64;decide⟩,?_,Nat.zero_le _⟩
 ·show enough 0 [((2:U),0,nmR (4*(k:U)),())]=zaa 1
  grind [enough,zi]
 ·show(nmR (4*(k:U))).length<=28;omega
def EL(v:U):Tr:=.bin .add (.nam (nmR 0)) (.num v)
theorem RF{v:U}(h:0<=v/\v<=4294967295):iV (EL v)/\(EL v).txt.length<=28/\(EL v).dep<=8:=by
 obtain⟨h1,h2,_⟩:=rW (k:=0) (by decide);have h1:ax (nmR 0)=zab:=h1;have h2:(nmR 0).length=5:=h2;have h3:=AV (v:=v) h;refine⟨⟨⟨h1,h⟩,⟨trivial,trivial⟩,?_,by show 3<=64;decide⟩,?_,by show max (0+if(2:G)<0 then 1 else 0) (0+if(2:G)<0+1 then 1 else 0)<=8;decide⟩
 ·show enough 0 [((2:U),0,nmR 0,()),((1:U),v,[],()),((4:U),0,[],())]=zaa 1;unfold enough;rw[zi h1];rfl
 ·have e:(EL v).txt=nmR 0++(32::43::32::(Tr.num v).txt):=rfl
  grind
structure nL (x:Snt) (s:Sm) (t:zae Tr):Prop where
 eq:x=(s.k,s.o,s.a,s.b,s.c,s.u,s.e,s.nm,())
 good:GoodS s t
 deep:fQ t
 len:∀d∈odL s.k s.o,(wtx s t d).length<=28
theorem qJ{a:U}(_:rg a):(rn a).length<=28:=Vv (yx _) (by decide)
theorem Iu{k o a b c:U}{u:zai}{t:Tr}(h:bE k o a b c u)(hk:k=2\/k=5\/k=7)(ht:iV t)(hl:t.txt.length<=28)(hd:t.dep<=8):nL (k,o,a,b,c,u,t.post,[],()) ⟨k,o,a,b,c,u,t.post,[]⟩ (zaa t):=by
 obtain⟨ha,hb,hc⟩:=Jm h;refine⟨rfl,.ins1 h hk ht,λx hx=>(by grind),λd hdm=>?_⟩;cases d with
 |A=>exact qJ ha
 |B=>exact qJ hb
 |C=>exact qJ hc
 |E=>exact hl
 |Q=>exfalso;revert hdm;unfold odL;grind
 |N=>exact Nat.zero_le _
theorem R8{k o a b c:U}{u:zai}(h:bE k o a b c u)(hk:k=1\/k=3\/k=4\/k=6):nL (k,o,a,b,c,u,[],[],()) ⟨k,o,a,b,c,u,[],[]⟩ zaj:=by
 obtain⟨ha,hb,hc⟩:=Jm h;refine⟨rfl,.ins0 h hk,λx hx=>(by cases hx),λd hdm=>?_⟩;cases d with
 |A=>exact qJ ha
 |B=>exact qJ hb
 |C=>exact qJ hc
 |E=>exact Nat.zero_le _
 |Q=>show 2<=28;decide
 |N=>exact Nat.zero_le _
theorem Bg{t:Tr}(ht:iV t)(hl:t.txt.length<=28)(hd:t.dep<=8):nL (stN 9 t.post) ⟨9,0,0,0,0,zad,t.post,[]⟩ (zaa t):=by
 refine⟨rfl,.word ht,λx hx=>(by grind),λd hdm=>?_⟩;have e:odL 9 0=[.E]:=rfl;have hdm:d∈odL 9 0:=hdm;rw[e,Vu] at hdm;subst hdm;exact hl
section
variable{ws ss:Z U}{ys:Z Sym}(O:OkO ws ss ys)
include O
theorem KQ{i:G}(hi:i<ws.length):∃s t,nL (kI ws ss i) s t:=by
 have hlw:=O.lw;have hat:=O.ok.at hi;have num:∃s t,nL (stN 9 (fE (ws.getD i 0))) s t:=by
  rw[<- Cr]
  grind [Bg,H6,Cq]
 have nam:∀k:G,nmE (4*(k:U))=(Tr.nam (nmR (4*(k:U)))).post:=λk=>rfl
 unfold kI;rw[D (by omega)];by_cases hm:(i:U)∈ss
 ·rw[Y hm];obtain⟨_,h2,h3⟩:=O.site hm;rw[Vj] at h2 h3;by_cases h4:ws.getD i 0 % 4=0
  ·have hk:ws.getD i 0=4*(((ws.getD i 0) / 4).toNat:U):=by omega
   have⟨g1,g2,g3⟩:=LP (k:=((ws.getD i 0) / 4).toNat) (by omega);rw[Y h4,hk,nam]
   grind [Bg]
  ·have⟨g1,g2,g3⟩:=RF hat
   have e:nmE 0++fE (ws.getD i 0)++[((4:U),0,[],())]=(EL (ws.getD i 0)).post:=by rw[G5 hat];rfl
   rw[D h4,e]
   grind [Bg]
 ·rw[D hm];rcases(ko hat).2 with e|⟨k,o,a,b,c,m,u,e,g1,g2,g3⟩
  ·grind
  ·have hj:eH ws ss i=if k=7/\0<=(i:U)+1+m/\(i:U)+1+m<=ws.length then(4*((i:U)+1+m),zab,()) else(0,zad,()):=by
    unfold eH
    grind
   have hk:=jg g1;rw[e];dsimp only;rw[D (by decide)];by_cases k7:k=7
   ·rw[Y k7,hj];by_cases hc:k=7/\0<=(i:U)+1+m/\(i:U)+1+m<=ws.length
    ·rw[Y hc];dsimp only;rw[Y rfl];obtain⟨t,ht⟩:∃t:G,(i:U)+1+m=(t:U):=⟨((i:U)+1+m).toNat,by omega⟩
     have⟨h1,h2,h3⟩:=LP (k:=t) (by omega)
     grind [Iu]
    grind
   ·rw[D k7];by_cases k2:k=2\/k=5
    ·rw[Y k2,<- Cr]
     grind [Iu,H6,Cq]
    ·rw[D k2]
     grind [R8]
def yJ(x:Ln):Prop:=∃g:GLn,g.ln=x/\fQ g.t/\g.tx.length<=98
omit O in
theorem CO{x:Snt}{s:Sm}{t:zae Tr}(h:nL x s t):(stx s t).length<=98:=by
 unfold stx;split;·simp
 ·have:=vK [44,32] 28 ((odL s.k s.o).map (wtx s t)) (λx hx=>by
   obtain⟨d,hd,rfl⟩:=Vr.1 hx;exact h.len d hd)
  rw[VL] at this;have h2:(28+([44,32]:Str).length)*(odL s.k s.o).length<=30*3:=Nat.mul_le_mul (by decide) (wD _ _)
  grind [mtx,oh]
omit O in
theorem CL{l:Str}(h:ax l=zab):yJ (l,L.st0 0 [],()):=by
 refine⟨⟨l,⟨0,0,0,0,0,zad,[],[]⟩,zaj,.inr h,.none⟩,rfl,λx hx=>(by cases hx),?_⟩;unfold ax at h;simp only[Va,Vf] at h;have hl:=h.1.1.1.2;show(ltx l ⟨0,0,0,0,0,zad,[],[]⟩ zaj).length<=98;unfold ltx
 grind
theorem pg:∀x∈dB ws ss ys,yJ x:=by
 have hlw:=O.lw;have hsec:∀(k i:G),i+k<=ws.length+1->∀x∈iD ws ss ys k i,yJ x:=by
  intro k
  induction k with
  |zero=>intro i _ x hx;cases hx
  |succ k ih=>
   intro i h x hx;rcases Vk.1 hx with hx|hx
   ·rcases Vk.1 hx with hx|hx
    ·rcases Vk.1 hx with hx|hx
     ·obtain⟨_,z,hz,_,rfl⟩:=mr _ ys x hx;exact CL (kM (O.nm z hz))
     grind [CL,rW]
    ·split at hx
     ·rename_i hi;rw[Vu.1 hx];obtain⟨s,t,hs⟩:=KQ O hi;refine⟨⟨[],s,t,.inl rfl,hs.good⟩,?_,hs.deep,?_⟩
      ·show([],(s.k,s.o,s.a,s.b,s.c,s.u,s.e,s.nm,()),())=_;rw[<- hs.eq]
      ·show(ltx [] s t).length<=98;unfold ltx;rw[Y rfl];exact CO hs
     ·cases hx
   grind
 intro x hx;rcases Vk.1 hx with hx|hx;·grind
 ·obtain⟨_,z,hz,rfl⟩:=xX ys x hx;have hn:=O.nm z hz;have hs:nL (L.st0 10 z.1) ⟨10,0,0,0,0,zad,[],z.1⟩ zaj:=by
   refine⟨rfl,.exp hn,λx hx=>(by cases hx),λd hdm=>?_⟩;have e:odL 10 0=[.N]:=rfl;have hdm:d∈odL 10 0:=hdm;rw[e,Vu] at hdm;subst hdm;have:=mV hn;show z.1.length<=28;omega
  refine⟨⟨[],_,zaj,.inl rfl,hs.good⟩,rfl,hs.deep,?_⟩;show(ltx [] _ zaj).length<=98;unfold ltx;rw[Y rfl];exact CO hs
theorem NY(a b:U)(h:a<b)(y:Z Sym):(y.filter λz=>zac (z.2.1=a)).length+(y.filter λz=>zac (b<=z.2.1)).length<=(y.filter λz=>zac (a<=z.2.1)).length:=by
 induction y with
 |nil=>grind
 |cons z y ih=>
  grind
omit O in
theorem xW(x:U):∀y:Z Sym,(L.linS x y).length=(y.filter λz=>zac (z.2.1=x)).length
 |[]=>rfl
 |s::r=>by
  rw[L.linS];by_cases h:s.2.1=x;·rw[Y h,List.filter_cons_of_pos (by simpa using h),Vn,Vn,xW x r]
  ·rw[D h,List.filter_cons_of_neg (by simpa using h),xW x r]
omit O in
theorem EC:∀y:Z Sym,(L.linX y).length=y.length
 |[]=>rfl
 |s::r=>by rw[L.linX,Vn,Vn,EC r]
theorem Fu:∀k i:G,(iD ws ss ys k i).length<=(ys.filter λz=>zac (4*(i:U)<=z.2.1)).length+2*k
 |0,i=>Nat.zero_le _
 |k+1,i=>by
  have h1:=Fu k (i+1);have h2:=NY O (4*(i:U)) (4*((i+1:G):U)) (by omega) ys;rw[iD,Vb];unfold sK;rw[Vb,Vb,xW]
  grind
theorem nW:(dB ws ss ys).length<=2*ws.length+130:=by
 have hly:=O.ly;have h1:=Fu O (ws.length+1) 0;have h2:=List.length_filter_le (λz:Sym=>zac (4*((0:G):U)<=z.2.1)) ys
 grind [dB,EC]
omit O in
theorem short_list:∀l:Z Ln,(∀x∈l,yJ x)->∃g:Z GLn,g.map GLn.ln=l/\(∀x∈g,fQ x.t)/\(txL g).length<=99*l.length
 |[],_=>⟨[],rfl,λx hx=>(by cases hx),U7 _⟩
 |x::l,h=>by
  obtain⟨a,h1,h2,h3⟩:=h x (by simp);obtain⟨g,g1,g2,g3⟩:=short_list l λy hy=>h y (by simp[hy])
  refine⟨a::g,by grind,λy hy=>?_,?_⟩;·grind
  ·have e:txL (a::g)=(a.tx++[10])++txL g:=rfl
   grind
omit O in
theorem BK:∀(l:Z GLn) (i:G),(∀x∈l,fQ x.t)->dY i (l.map GLn.tx)=.ok (l.map GLn.ln)
 |[],_,_=>rfl
 |x::l,i,h=>by
  rw[Vo,dY,(O8 x).1 (h x (by simp)),D (show ¬Ao (smP x.lb x.s)≠0 from λh=>h rfl),BK l (i+1) λy hy=>h y (by simp[hy])];rfl
theorem MU:∃s:Str,s.length<=262144/\Zdv.g (dB ws ss ys)=zaa (s,0,0,())/\fF s=(dB ws ss ys,0,0,()):=by
 have hlw:=O.lw;have hl:=nW O;obtain⟨g,g1,g2,g3⟩:=short_list _ (pg O);have hgl:g.length=(dB ws ss ys).length:=by grind
 refine⟨txL g,by omega,?_,?_⟩;·grind [Bn]
 ·unfold fF;rw[D (by omega),Ci,VL,D (by omega),BK g 0 g2,g1];simp[uW]
end
end Rv
namespace Rv
open Go
theorem Oi(y:Z U)(s:U)(hy:y.Pairwise (· < ·))(hl:y.length<=1000000)(n:G):∀(m i j:G),i<=j->j<=y.length->j-i<m->(∀t,t<i->y.getD t 0<s)->(∀t,j<=t->t<y.length->¬y.getD t 0<s) ->
  ∃k,Zbo.l3 n m y s (y.length:U) (i:U) (j:U)=zaa (k,zac (s∈y),()):=by
 intro m
 induction m with
 |zero=>intro i j _ _ h;omega
 |succ m ih=>
  intro i j hij hj hm h1 h2;rw[Zbo.l3];have hmid:zaf.wrap ((zal.wrap (zaf.wrap ((i:U)+(j:U)))).fdiv (2 ^ (min (1:U).toNat zal.bits)))=(((i+j) / 2:G):U):=by
   show zaf.wrap ((zal.wrap (zaf.wrap ((i:U)+(j:U)))).fdiv 2)=_;rw[w64 (x:=(i:U)+(j:U)) (by omega),Int.fdiv_eq_ediv_of_nonneg _ (by decide),CV (by omega),w64 (by omega)];omega
  have get:∀t,t<y.length->y.getD t 0∈y:=λt ht=>by rw[Vh,Ve ht];exact VI ht
  have ord:∀a b,a<b->b<y.length->y.getD a 0<y.getD b 0:=λa b hab hb=>by
   have:=List.pairwise_iff_getElem.1 hy a b (by omega) hb hab;rw[Vh,Ve (by omega),Vh,Ve hb];exact this
  rw[hmid];by_cases h:i<j
  ·rw[Y (by simpa using h),Y ⟨by omega,by omega⟩,Vj];generalize hq:(i+j) / 2=q;have hless:Zea.g (y.getD q 0) s=zaa (zac (y.getD q 0<s),()):=by
    unfold Zea.g Zea.f Zdz.g Zdz.f;rw[U4];dsimp only;rw[D (by simp)]
   rw[hless,U4];dsimp only;by_cases hlt:y.getD q 0<s
   ·rw[Y (decide_eq_true hlt),w64 (by omega),show(q:U)+1=((q+1:G):U) by omega];refine ih (q+1) j (by omega) hj (by omega) (λt ht=>?_) h2;by_cases e:t=q
    ·rw[e];exact hlt
    ·have:=ord t q (by omega) (by omega);omega
   ·rw[D (by simpa using hlt)];refine ih i q (by omega) (by omega) (by omega) h1 λt ht htl=>?_
    by_cases e:t=q;·rw[e];exact hlt
    ·have:=ord q t (by omega) htl;omega
  ·obtain rfl:i=j:=by omega
   have hmem:s∈y↔i<y.length/\y.getD i 0=s:=by
    constructor
    ·intro hs;obtain⟨t,ht,e⟩:=List.getElem_of_mem hs;have e':y.getD t 0=s:=by rw[Vh,Ve ht];exact e
     rcases Nat.lt_trichotomy t i with hti|rfl|hti;·have:=h1 t hti;omega
     ·exact⟨ht,e'⟩
     ·have a1:=h2 i (U7 _) (by omega);have a2:=ord i t hti ht;omega
    ·rintro⟨hi,e⟩;rw[<- e];exact get i hi
   rw[D (by simp)];by_cases hl2:i<y.length
   ·rw[Y (by simpa using hl2),Y ⟨by omega,by omega⟩,Vj];by_cases e:y.getD i 0=s
    ·rw[D (by simpa using e),decide_eq_true (hmem.2 ⟨hl2,e⟩)];exact⟨_,rfl⟩
    ·rw[Y (by simpa using e),Y ⟨by omega,by omega⟩];unfold Zeb.g Zeb.f;rw[U4,U4];dsimp only;rw[D (by simp),decide_eq_false (λh=>e (hmem.1 h).2)];exact⟨_,rfl⟩
   ·rw[D (by simpa using hl2),decide_eq_false (λh=>hl2 (hmem.1 h).1)];exact⟨_,rfl⟩
theorem Ta(y:Z U)(s:U)(hy:y.Pairwise (· < ·))(hl:y.length<=1000000):∃k,Zbo.g y s=zaa (k,zac (s∈y),()):=by
 unfold Zbo.g Zbo.f;exact Oi y s hy hl _ _ 0 y.length (by omega) (by omega) (by omega) (λt h=>by omega) (λt h h2=>by omega)
theorem PG{B:U}:∀{l:Z U},l.Pairwise (· < ·)->(∀x∈l,0<=x/\x<B)->(l.length:U)<=B\/l=[]
 |[],_,_=>.inr rfl
 |x::l,h,hb=>by
  refine .inl ?_;have key:∀(l:Z U) (a:U),(a::l).Pairwise (· < ·)->(∀x∈a::l,x<B)->(l.length:U)+a<B:=by
   intro l
   induction l with
   |nil=>intro a _ hb;have:=hb a (by simp);simp;omega
   |cons y l ih=>
    intro a h hb;have h':=List.pairwise_cons.1 h;have h1:=h'.1 y (by simp);have h2:=ih y h'.2 λx hx=>hb x (by simp[hx])
    rw[Vn];omega
  have h1:=key l x h λy hy=>(hb y hy).2
  have h2:=(hb x (by simp)).1;rw[Vn];omega
section
variable{ws ss:Z U}{ys:Z Sym}(O:OkO ws ss ys)
include O
theorem Hu:∀(k i:G) (acc:Z Ln),i+k<=ws.length+1->L.linI (Zbo.g (plR ws ss)) Zbe.g (Zbh.g ws ss ys) ys ws.length k (i:U) acc=zaa (acc++iD ws ss ys k i)
 |0,i,acc,_=>by rw[L.linI,iD,Vt]
 |k+1,i,acc,h=>by
  have hlw:=O.lw;have hpl:(plR ws ss).length<=1000000:=by
   rcases PG (B:=5000) (Ig ws ss) λx hx=>(by obtain⟨k,rfl,hk⟩:=Mc O hx;omega) with h|h
   ·omega
   ·rw[h];simp
  obtain⟨y,hy⟩:=Ta (plR ws ss) (4*(i:U)) (Ig ws ss) hpl;rw[L.linI,hy];dsimp only;rw[KR];have e1:(if zac (4*(i:U)∈plR ws ss)=zab then zaa [(nmR (4*(i:U)),L.st0 0 [],())] else zaa []:zae (Z Ln))=zaa (if 4*(i:U)∈plR ws ss then[(nmR (4*(i:U)),L.st0 0 [],())] else[]):=by
   by_cases hm:4*(i:U)∈plR ws ss;·rw[Y (decide_eq_true hm),Y hm]
   ·rw[D (by simpa using hm),D hm]
  have e2:(if(i:U)<(ws.length:U) then zaa [([],kI ws ss i,())] else zaa []:zae (Z Ln))=zaa (if i<ws.length then[([],kI ws ss i,())] else[]):=by
   by_cases hm:i<ws.length;·rw[Y (by omega),Y hm]
   ·rw[D (by omega),D hm]
  dsimp only;rw[e1];dsimp only;rw[NP O.ok ys i (by omega)];dsimp only;rw[e2];dsimp only;rw[show(i:U)+1=((i+1:G):U) by omega,Hu k (i+1) _ (by omega),iD];unfold sK;simp only[Vm]
theorem BI:Zdm.g ws ss ys=zaa (dB ws ss ys,0,()):=by
 have hlw:=O.lw;have hly:=O.ly;have hll:=nW O;unfold Zdm.g L.linesO;rw[AX O];dsimp only;rw[Y rfl,KO O];dsimp only;rw[Y rfl,Y ⟨by omega,by omega⟩,show(0:U)=((0:G):U) from rfl,Hu O (ws.length+1) 0 [] (by omega)];dsimp only;rw[Vw];show(if(dB ws ss ys).length<=1000000 then zaa (dB ws ss ys,_,()) else zaj)=_;rw[Y (by omega)]
theorem Eb(hw:ws.length<=400):∃s:Str,s.length<=262144/\Zbs.g ws ss ys=zaa (s,0,())/\Zbm.g s=zaa (dB ws ss ys,0,0,())/\Zdk.g s=zaa (ws,ss,ys,0,0,()):=by
 obtain⟨s,h1,h2,h3⟩:=MU O;have hll:=nW O;have hsh:∀x∈dB ws ss ys,(eL x).length<=4611686018427387904:=λx hx=>by
  obtain⟨g,rfl,_,_⟩:=pg O x hx;have:(eL g.ln).length<=64:=(uE g.hg).1;omega
 refine⟨s,h1,?_,by rw[Cu s (by omega),h3],?_⟩;·unfold Zbs.g Zbs.f;rw[BI O,U4];dsimp only;rw[D (by simp),h2];rfl
 ·have e:=Sc s (by omega) (by rw[h3];show(dB ws ss ys).length<=1000;omega) (by rw[h3];exact hsh);rw[e];unfold PV;rw[h3];dsimp only;rw[D (λh=>h rfl),DY O]
theorem Af(hw:ws.length<=400):Zax.g (dB ws ss ys)=zaa (ws,ss,ys,0,0,()):=by
 have hll:=nW O;rw[Kz _ (by omega) λx hx=>?_,DY O];obtain⟨g,rfl,_,_⟩:=pg O x hx;have:(eL g.ln).length<=64:=(uE g.hg).1;omega
end
end Rv
namespace Rv
open Go
theorem N7(s:Str)(hs:s.length<=9223372036854775807):∃r,Zca.g s=zaa (r,())/\bD r=zab:=by
 unfold Zca.g Zca.f;have e1:Int.tmod (s.length:U) 26=((s.length % 26:G):U):=by
  grind
 have hk:s.length % 26<26:=Nat.mod_lt _ (by omega);rw[e1];have e2:IntKind.u8.wrap (97+IntKind.u8.wrap ((s.length % 26:G):U))=((97+s.length % 26:G):U):=by
  grind [w8u]
 rw[e2];have hb:bytesOf [((97+s.length % 26:G):U)]=[UInt8.ofNat (97+s.length % 26)]:=rfl;rw[hb];have hn:(UInt8.ofNat (97+s.length % 26)).toNat=97+s.length % 26:=by rw[UInt8.toNat_ofNat',Nat.mod_eq_of_lt (by omega)]
 have hA:isA (UInt8.ofNat (97+s.length % 26))=zab:=by grind [isA]
 have hL:isL (UInt8.ofNat (97+s.length % 26))=zab:=by rw[Qk,hA];rfl
 have hne:UInt8.ofNat (97+s.length % 26)≠82:=λe=>by have:=congrArg UInt8.toNat e;grind
 obtain⟨r,h1,⟨c,t,rfl,h2,h3⟩,h4,h5⟩:=Jj (Q:=λc=>isA c=zab/\c≠82) s hs (1000+s.length) (1000+s.length) 0 _ (by omega) (by omega) (by omega) rfl ⟨UInt8.ofNat (97+s.length % 26),[],rfl,hA,hne⟩ (by rw[VO,isW,hL];rfl);refine⟨_,h1,?_⟩;have hr:lI (c::t)=zad:=by
  simp_all [lI]
 have hc:(c::t).getD 0 0=c:=rfl
 grind [bD]
theorem rE(b:Z U)(w:G)(hw:w<=100000)(n:G):∀(m i:G) (c:Z U),i<=w->w-i<m->c.length<=i->c.Pairwise (· < ·)->(∀s∈c,0<=s/\s<(i:U)) ->
  ∃r,Zbn.l3 n m b (w:U) c (i:U)=zaa (r,())/\r.Pairwise (· < ·)/\r.length<=w/\∀s∈r,0<=s/\s<(w:U)
 |0,i,c,_,h,_,_,_=>by omega
 |m+1,i,c,hi,hm,hl,hp,hs=>by
  have fin:∃r,(zaa (c,()):zae (Z U×zak))=zaa (r,())/\r.Pairwise (· < ·)/\r.length<=w/\∀s∈r,0<=s/\s<(w:U):=⟨c,rfl,hp,by omega,λs h=>by grind⟩
  have wi:zaf.wrap ((i:U)+1)=((i+1:G):U):=w64 (by omega);rw[Zbn.l3];split
  ·rename_i h1;have h1:i<w:=by simpa using h1
   split
   ·rename_i h2;rw[Y ⟨by omega,by simpa using h2⟩];unfold Zbn.j4;rw[wi];split
    ·rw[Y (by simp;omega)];refine rE b w hw n m (i+1) _ (by omega) (by omega) (by simp;omega) ?_ λs h=>?_
     ·grind
     grind
    ·exact rE b w hw n m (i+1) c (by omega) (by omega) (by omega) hp λs h=>by grind
   ·exact fin
  ·exact fin
theorem N8(b:Z U){w:G}(hw:w<=100000):∃r,Zbn.g b (w:U)=zaa (r,())/\r.Pairwise (· < ·)/\r.length<=w/\∀s∈r,0<=s/\s<(w:U):=by
 unfold Zbn.g Zbn.f;exact rE b w hw _ _ 0 [] (Nat.zero_le _) (by omega) (U7 _) List.Pairwise.nil λs h=>by cases h
structure YI (w:G) (l:Z Sym):Prop where
 srt:bS l
 nm:∀z∈l,bD z.1=zab
 at_:∀z∈l,0<=z.2.1/\z.2.1<=4*(w:U)/\z.2.1 % 4=0
theorem Tc{l:Z Sym}{z:Sym}{x:G}(hs:bS l)(h1:∀y∈l.take x,less y.1 z.1=zab)(h2:∀y∈l.drop x,less z.1 y.1=zab):bS (l.take x++([z]++l.drop x)):=by
 have hs':bS (l.take x++l.drop x):=by simp_all
 unfold bS at hs'⊢
 grind
section
variable(a:Z Str)(w:G)(hw:w<=40)(ha:∀s∈a,s.length<=4611686018427387904)(d e:Z U)(i:Z Sym)(j k:Z U)
include hw ha
theorem SQ{c:G}(hc:c<a.length):(a.getD c ([]:Str)).length<=4611686018427387904:=by
 grind
theorem SS(n:G)(rl9:Z Str->U->U->Z U->Z U->Z Sym->Z U->Z U->Z Sym->zae (Z U×Z U×Z Sym×zak)){z:Str}(hz:bD z=zab){c:G}(hc:c<a.length)(hc8:c<8)
  (H:∀l:Z Sym,l.length<=c+1->YI w l->∃r,rl9 a (w:U) ((c+1:G):U) d e i j k l=zaa (j,k,r,())/\YI w r/\r.length<=8):∀(m x:G) (l:Z Sym),l.length<=c->YI w l->x<=l.length->(∀y∈l.take x,less y.1 z=zab)->l.length-x<m->∃r,Zae.l13 n rl9 m a (w:U) (c:U) z (x:U) d e i j k l=zaa (j,k,r,())/\YI w r/\r.length<=8
 |0,x,l,_,_,_,_,h=>by omega
 |m+1,x,l,hl,I,hx,hlt,h=>by
  rw[Zae.l13];have hwc:zaf.wrap ((c:U)+1)=((c+1:G):U):=w64 (by omega);have ins:(∀y∈l.drop x,less z y.1=zab)->∃r,Zae.j16 n rl9 a (w:U) (c:U) z (x:U) d e i j k l=zaa (j,k,r,())/\YI w r/\r.length<=8:=λhgt=>by
   unfold Zae.j16 Zae.j10;have hlen:=SQ a w hw ha hc;have hv:0<=Int.tmod (zaf.wrap (((a.getD c ([]:Str)).length:U)+(c:U))) ((w:U)+1)/\Int.tmod (zaf.wrap (((a.getD c ([]:Str)).length:U)+(c:U))) ((w:U)+1)<(w:U)+1:=by
    rw[w64 (by omega),VT (by omega)];exact⟨Int.emod_nonneg _ (by omega),Int.emod_lt_of_pos _ (by omega)⟩
   rw[Y ⟨by omega,by omega⟩,w64 (x:=(w:U)+1) (by omega),D (by omega),Y ⟨by omega,by omega⟩,Y (by simp;omega),Y ⟨by omega,by omega⟩,Y (by simp;omega),Y (by simp;omega),hwc];simp only[Vj];generalize Int.tmod (zaf.wrap (((a.getD c ([]:Str)).length:U)+(c:U))) ((w:U)+1)=v at hv;rw[w64 (x:=4*v) (by omega),List.take_length,Vw];refine H _ (by simp;omega) ⟨Tc (z:=(z,4*v,())) I.srt hlt hgt,λy hy=>?_,λy hy=>?_⟩
   ·rcases Vk.1 hy with hy|hy
    ·exact I.nm y (List.mem_of_mem_take hy)
    ·rcases Vk.1 hy with hy|hy
     ·grind
     ·exact I.nm y (List.mem_of_mem_drop hy)
   ·rcases Vk.1 hy with hy|hy
    ·exact I.at_ y (List.mem_of_mem_take hy)
    ·rcases Vk.1 hy with hy|hy
     ·grind
     ·exact I.at_ y (List.mem_of_mem_drop hy)
  by_cases h1:x<l.length
  ·have hd:=KS h1;have hmem:∀y∈l.drop (x+1),less (l.getD x zSy).1 y.1=zab:=λy hy=>by
    have hs:=I.srt
    grind [bS,List.drop_sublist]
   rw[Y (by simpa using h1),Y ⟨by omega,by omega⟩,Vj];by_cases h2:less (l.getD x zSy).1 z=zab
   ·have h2':Op.bytesLess (l.getD x zSy).1 z=zab:=h2;rw[Y h2',w64 (by omega)];refine SS n rl9 hz hc hc8 H m (x+1) l hl I (by omega) (λy hy=>?_) (by omega)
    grind
   ·have h2':¬Op.bytesLess (l.getD x zSy).1 z=zab:=h2;rw[D h2'];unfold Zae.j15;rw[Y (by simpa using h1),Y ⟨by omega,by omega⟩,Vj];by_cases h3:(l.getD x zSy).1=z
    ·rw[Y (decide_eq_true h3)]
     grind [Zae.j10]
    ·rw[D (by simpa using h3)];have h4:less z (l.getD x zSy).1=zab:=zl (by simpa using h2) h3;refine ins λy hy=>?_
     rw[hd] at hy;rcases Vg.1 hy with rfl|hy;·exact h4
     grind [iy]
  simp_all [D,Zae.j15,List.drop_eq_nil_of_le]
theorem K7(n:G)(hn:100<=n):∀(m c:G) (l:Z Sym),c<=8->8-c<m->l.length<=c->YI w l->∃r,Zae.l9 n m a (w:U) (c:U) d e i j k l=zaa (j,k,r,())/\YI w r/\r.length<=8
 |0,c,l,_,h,_,_=>by omega
 |m+1,c,l,hc,h,hl,I=>by
  rw[Zae.l9];split
  ·rename_i h1;have h1:c<a.length:=by simpa using h1
   split
   ·rename_i h2;have h2:c<8:=by grind
    rw[Y ⟨by omega,by omega⟩,Vj];obtain⟨z,hz,hzn⟩:=N7 (a.getD c ([]:Str)) (by grind);rw[hz,U4];exact SS a w hw ha d e i j k n _ hzn h1 h2 (λl hl I=>K7 n hn m (c+1) l (by omega) (by omega) hl I) n 0 l hl I (Nat.zero_le _) (λy hy=>by grind) (by omega)
   ·exact⟨_,rfl,I,by omega⟩
  ·exact⟨_,rfl,I,by omega⟩
end
theorem K9(a:Z Str)(w:G)(hw:w<=40)(d e:Z U)(i:Z Sym)(k:Z U)(hk:k.Pairwise (· < ·))(hkl:k.length<=w)(hks:∀s∈k,0<=s/\s<(w:U))(n:G):∀(m c:G) (j:Z U),c<=k.length->k.length-c<m ->
  j.length=w->(∀x∈j,0<=x/\x<=4294967295)->(∀s∈k.take c,j.getD s.toNat 0<=4*(w:U))->∃j',Zae.l5 n m a (w:U) (c:U) d e i j k []=Zae.l9 n n a (w:U) 0 d e i j' k []/\j'.length=w/\(∀x∈j',0<=x/\x<=4294967295)/\∀s∈k,j'.getD s.toNat 0<=4*(w:U)
 |0,c,j,_,h,_,_,_=>by omega
 |m+1,c,j,hc,h,hj,hr,hb=>by
  rw[Zae.l5];by_cases h1:c<k.length
  ·have hs:=hks (k.getD c 0) (by grind);have htk:k.take (c+1)=k.take c++[k.getD c 0]:=by
    simp_all
   have hbef:∀s∈k.take c,s<k.getD c 0:=λs hs=>by
    grind [List.take_sublist]
   rw[Y (by simpa using h1),Y ⟨by omega,by omega⟩,Y ⟨by omega,by omega⟩,Vj];generalize hq:k.getD c 0=s at *;have hx:0<=j.getD s.toNat 0/\j.getD s.toNat 0<=4294967295:=by
    simp_all
   have hm4:zah.wrap (zaf.wrap (zaf.wrap (4*(w:U))+1))=4*(w:U)+1:=by
    grind [w64,IntKind.wrap_u32]
   rw[hm4,Y ⟨by omega,by omega⟩,D (by omega),Y ⟨by omega,by omega⟩,w64 (x:=(c:U)+1) (by omega)];have ht:Int.tmod (j.getD s.toNat 0) (4*(w:U)+1)=j.getD s.toNat 0 % (4*(w:U)+1):=VT hx.1;have hv:0<=Int.tmod (j.getD s.toNat 0) (4*(w:U)+1)/\Int.tmod (j.getD s.toNat 0) (4*(w:U)+1)<4*(w:U)+1:=by
    rw[ht];exact⟨Int.emod_nonneg _ (by omega),Int.emod_lt_of_pos _ (by omega)⟩
   have hu:∀y,0<=y/\y<4*(w:U)+1->zah.wrap y=y:=λy hy=>by rw[IntKind.wrap_u32];omega
   try rw[hu _ hv]
   generalize Int.tmod (j.getD s.toNat 0) (4*(w:U)+1)=v at hv;refine K9 a w hw d e i k hk hkl hks n m (c+1) (j.set s.toNat v) (by omega) (by omega) (by grind) (λx hx=>?_) λt ht=>?_
   ·grind
   grind
  grind
theorem N9{a b:Z U}{c:Z Str}(ha:a.length<=9223372036854775807)(hr:∀x∈a,0<=x/\x<=4294967295)(hc:∀s∈c,s.length<=4611686018427387904):∃ws ss ys,Zae.g a b c=zaa (ws,ss,ys,())/\OkO ws ss ys/\ws.length<=40/\ys.length<=8:=by
 unfold Zae.g Zae.f;have hm:mn (a.length:U) 40=((min a.length 40:G):U):=by grind [mn]
 have hw:(([]:Z U)++((a.take (((min a.length 40:G):U)).toNat).drop 0))=a.take 40:=by
  rw[Vj,VB,Vw,List.take_eq_take_iff];omega
 have hwl:(a.take 40).length<=40:=by simp;omega
 have hwr:∀x∈a.take 40,0<=x/\x<=4294967295:=λx hx=>hr x (List.mem_of_mem_take hx)
 rw[hm,Y ⟨by omega,by omega⟩,Y (by simp;omega),hw];generalize a.take 40=u at hwl hwr;obtain⟨ss,h1,h2,h3,h4⟩:=N8 b (w:=u.length) (by omega);rw[h1,U4];dsimp only;generalize hn:1000+a.length+b.length+c.length=n;obtain⟨ws,g1,g2,g3,g4⟩:=K9 c u.length hwl [] [] [] ss h2 h3 h4 n n 0 u (Nat.zero_le _) (by omega) rfl hwr λs hs=>by grind
 rw[show((0:G):U)=0 from rfl] at g1;rw[g1];obtain⟨ys,k1,k2,k3⟩:=K7 c u.length hwl hc [] [] [] ws ss n (by omega) n 0 [] (Nat.zero_le _) (by omega) (U7 _) ⟨List.Pairwise.nil,λz hz=>(by cases hz),λz hz=>by cases hz⟩;rw[show((0:G):U)=0 from rfl] at k1;have hget:∀x,x<ss.length->ss.getD x 0∈ss:=λx hx=>by
  grind
 refine⟨ws,ss,ys,k1,{ lw:=by omega,wr:=g3,lt:=λx y hxy hy=>?_,at_:=λx hx=>?_,low:=λx hx=>?_,bey:=λx hx=>?_,nm:=k2.nm,srt:=k2.srt,sat_:=λz hz=>?_,ly:=by omega },by omega,k3⟩;·grind [List.pairwise_iff_getElem]
 ·grind
 ·grind
 ·grind
 ·rw[g2];exact k2.at_ z hz
end Rv
namespace Rv
open Go
theorem Un(a:Z U)(ha:a.length<=1000000):Zch.g a a=zaa (zab,()):=by
 have loop:∀(n m i:G),i<=a.length->a.length-i<m->Zch.l4 n m a a (a.length:U) (i:U)=zaa (zab,()):=by
  intro n m
  induction m with
  |zero=>intro i _ h;omega
  |succ m ih=>
   intro i hi hm;rw[Zch.l4];simp only[dt];by_cases h:i<a.length;·rw[Y (by omega),Y (by omega),Y (by omega),D (by simp),w64 (by omega)];exact ih (i+1) (by omega) (by omega)
   ·rw[D (by omega)]
 unfold Zch.g Zch.f;rw[D (by simp)];exact loop _ _ 0 (by omega) (by omega)
theorem Ul(a:Z U)(ha:a.length<=1000000):Zci.g a a=zaa (zab,()):=by
 have loop:∀(n m i:G),i<=a.length->a.length-i<m->Zci.l4 n m a a (a.length:U) (i:U)=zaa (zab,()):=by
  intro n m
  induction m with
  |zero=>intro i _ h;omega
  |succ m ih=>
   intro i hi hm;rw[Zci.l4];simp only[dt];by_cases h:i<a.length;·rw[Y (by omega),Y (by omega),Y (by omega),D (by simp),w64 (by omega)];exact ih (i+1) (by omega) (by omega)
   ·rw[D (by omega)]
 unfold Zci.g Zci.f;rw[D (by simp)];exact loop _ _ 0 (by omega) (by omega)
theorem Um(a:Z Sym)(ha:a.length<=1000000):Zcj.g a a=zaa (zab,()):=by
 have loop:∀(n m i:G),i<=a.length->a.length-i<m->Zcj.l4 n m a a (a.length:U) (i:U)=zaa (zab,()):=by
  intro n m
  induction m with
  |zero=>intro i _ h;omega
  |succ m ih=>
   intro i hi hm;rw[Zcj.l4];simp only[dt];by_cases h:i<a.length;·rw[Y (by omega),Y (by omega),Y (by omega),D (by simp),w64 (by omega)];exact ih (i+1) (by omega) (by omega)
   ·rw[D (by omega)]
 unfold Zcj.g Zcj.f;rw[D (by simp)];exact loop _ _ 0 (by omega) (by omega)
theorem Uw(a b:Z U)(y:Z Sym)(ha:a.length<=1000000)(hb:b.length<=1000000)(hy:y.length<=1000000):Zdo.g a b y a b y=zaa (zab,()):=by
 unfold Zdo.g Zdo.f;rw[Un a ha,U4,Y rfl,Ul b hb,U4,Y rfl,Um y hy];rfl
end Rv
namespace Rv
open Go
theorem Iw:Zcp.g=zaa (zab,()):=by decide +kernel
end Rv
namespace Rv
open Go
theorem Pw{n:G}(h:n<=140737488351232):n<=4611686018427387904:=Vv h (by decide)
abbrev Qe(a b:Z U)(c:Z Str):Prop:=(a.length<=maxLen/\∀x∈a,(Lit.int .u32 x).wf=zab)/\(b.length<=maxLen/\∀x∈b,(Lit.int .u8 x).wf=zab)/\(c.length<=maxLen/\∀s∈c,s.length<=140737488351232)/\True
theorem made{a b:Z U}{c:Z Str}(h:Qe a b c):∃ws ss ys,Zae.g a b c=zaa (ws,ss,ys,())/\OkO ws ss ys/\ws.length<=40/\ys.length<=8:=
 N9 h.1.1 (λx hx=>UE (h.1.2 x hx)) λs hs=>Pw (h.2.2.1.2 s hs)
theorem dback_wf{a b:Z U}{c:Z Str}(h:Qe a b c):rivetlaw23_DisasmBack.g a b c=zaa (zab,()):=by
 obtain⟨ws,ss,ys,hf,O,hw,hy⟩:=made h;obtain⟨s,s1,s2,s3,s4⟩:=Eb O (by omega);have hls:=O.toOkS.len;unfold rivetlaw23_DisasmBack.g rivetlaw23_DisasmBack.f;rw[Iw,U4,hf,U4];dsimp only;rw[s2,U4];dsimp only;rw[s4,U4];dsimp only;rw[QX O,U4,U4];dsimp only;rw[Y rfl,Y (by simp),Y (by simp),Y (by simp),Y (by simp),Y (by simp),Uw _ _ _ (by omega) (by omega) (by omega),U4];dsimp only;rw[Y rfl,decide_eq_true rfl]
end Rv
